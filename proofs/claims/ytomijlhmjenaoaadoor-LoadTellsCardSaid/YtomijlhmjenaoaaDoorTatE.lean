/- Each function of the program comes to its printed one: by the kernel. Printed by a program of ours (gen2.py). -/
import Derived.Test.YtomijlhmjenaoaaDoorTatC
import Derived.Test.YtomijlhmjenaoaaDoorTatF
import Derived.Test.YtomijlhmjenaoaaDoorTatS
import Derived.Test.YtomijlhmjenaoaaDoorProg
namespace Go.Proofs.YtomijlhmjenaoaaDoor
open Go Go.Tat Go.Shelf Go.RowKit Go.Sort
set_option linter.unusedVariables false
set_option maxRecDepth 100000
noncomputable section
def tb : Tb := (.node 52 (.node 24 (.node 5 (.node 3 (.leaf 2 ⟨.int .i64, some (.int .i64), none, 1, 8⟩)
  (.node 4 (.leaf 3 ⟨.int .i64, some (.int .i64), none, 1, 8⟩)
  (.leaf 4 ⟨.bool, some .bool, none, 1, 1⟩)))
  (.node 9 (.leaf 5 ⟨.int .u8, some (.int .u8), none, 1, 1⟩)
  (.node 22 (.leaf 9 ⟨.str, some .str, none, 1, 16⟩)
  (.leaf 22 ⟨.slice 3, some (.slice (.int .i64)), none, 1, 24⟩))))
  (.node 41 (.node 29 (.leaf 24 ⟨.strct [22, 5, 5, 9], some tyGone, none, 4, 48⟩)
  (.node 30 (.leaf 29 ⟨.slice 68, some (.slice tyPoint), none, 1, 24⟩)
  (.leaf 30 ⟨.int .i64, some (.int .i64), none, 1, 8⟩)))
  (.node 42 (.leaf 41 ⟨.slice 9, some (.slice .str), none, 1, 24⟩)
  (.node 44 (.leaf 42 ⟨.slice 52, some (.slice tyPut), none, 1, 24⟩)
  (.leaf 44 ⟨.strct [22, 3, 41, 42, 3], some tyAsk, none, 5, 88⟩)))))
  (.node 87 (.node 75 (.node 66 (.leaf 52 ⟨.strct [9, 3], some tyPut, some [.d .str (⟨#[]⟩ : ByteArray), .d (.int .i64) 0], 2, 24⟩)
  (.node 68 (.leaf 66 ⟨.int .u64, some (.int .u64), none, 1, 8⟩)
  (.leaf 68 ⟨.strct [66, 3, 3], some tyPoint, some [.d (.int .u64) 0, .d (.int .i64) 0, .d (.int .i64) 0], 3, 24⟩)))
  (.node 76 (.leaf 75 ⟨.arr 64 4, some (.arr 64 .bool), none, 64, 64⟩)
  (.node 82 (.leaf 76 ⟨.map 3 3, none, none, 1, 8⟩)
  (.leaf 82 ⟨.func, none, none, 1, 8⟩))))
  (.node 109 (.node 92 (.leaf 87 ⟨.int .u64, some (.int .u64), none, 1, 8⟩)
  (.node 93 (.leaf 92 ⟨.func, none, none, 1, 8⟩)
  (.leaf 93 ⟨.slice 5, some (.slice (.int .u8)), none, 1, 24⟩)))
  (.node 122 (.node 121 (.leaf 109 ⟨.arr 24 5, some (.arr 24 (.int .u8)), none, 24, 24⟩)
  (.leaf 121 ⟨.arr 20 66, some (.arr 20 (.int .u64)), none, 20, 160⟩))
  (.node 127 (.leaf 122 ⟨.arr 65 5, some (.arr 65 (.int .u8)), none, 65, 65⟩)
  (.leaf 127 ⟨.arr 64 5, some (.arr 64 (.int .u8)), none, 64, 64⟩))))))
theorem base_ : Base Tryd.prog tb.te := ⟨Tb.ok (by kernel_rfl) (by kernel_rfl), by kernel_rfl⟩
def E12 : Entry := ⟨⟨[.data (.slice (.int .i64))], []⟩, ⟨[.data (.slice (.int .i64))], []⟩, (fun s => F12 s)⟩
theorem e12 : EntryOK Tryd.prog 12 E12 :=
  entryBody base_ [] trivial [] trivial 0 E12 .none [] Tryd.func12 (by kernel_rfl) (by kernel_rfl) (by kernel_rfl) (by kernel_rfl) trivial

def E13 : Entry := ⟨⟨[.bor .str], []⟩, ⟨[.data .str], []⟩, (fun s => F13 s)⟩
theorem e13 : EntryOK Tryd.prog 13 E13 :=
  entryBody base_ [] trivial [] trivial 0 E13 .none [] Tryd.func13 (by kernel_rfl) (by kernel_rfl) (by kernel_rfl) (by kernel_rfl) trivial

abbrev P54_l1 : CPat := ⟨[3, 6, 7, 8], [0], 1, ⟨[.aptr 0, .data (.slice (.int .i64)), .data (.int .i64), .data (.int .i64)], [.arr 64 .bool]⟩⟩
abbrev O54_l1 : List (Ex × CPat) := [(.ret, ⟨[2], [], 0, ⟨[.data .bool], [.gone]⟩⟩), ((.exit 0), ⟨[], [], 0, ⟨[], [.gone]⟩⟩)]
def L54_l1 : LoopE := ⟨P54_l1, O54_l1, loopN (fun s => F54_s1 s.1 s.2.1 s.2.2.1 s.2.2.2)⟩
theorem l54_l1 : LoopOK Tryd.prog L54_l1 (sub [1, 1, 0, 1, 0, 0] (bodyOf Tryd.f54)) Tryd.f54.ntmps :=
  loopBody base_ [] trivial [] trivial 0 P54_l1 O54_l1 (fun s => F54_s1 s.1 s.2.1 s.2.2.1 s.2.2.2) .none [] (by kernel_rfl) (by kernel_rfl) (by kernel_rfl) (by kernel_rfl) trivial
def E54 : Entry := ⟨⟨[.bor (.slice (.int .i64))], []⟩, ⟨[.data .bool], []⟩, (fun s => F54 s)⟩
theorem e54 : EntryOK Tryd.prog 54 E54 :=
  entryBody base_ [] trivial [] trivial 0 E54 (.seq none .none (.seq none .none (.seq none (.seq none .none (.block (.loop L54_l1))) .none))) [(L54_l1, sub [1, 1, 0, 1, 0, 0] (bodyOf Tryd.f54))] Tryd.func54 (by kernel_rfl) (by kernel_rfl) (by kernel_rfl) (by kernel_rfl) ⟨l54_l1, trivial⟩

def E81 : Entry := ⟨⟨[.bor (.int .i64)], []⟩, ⟨[.data .bool], []⟩, (fun s => F81 s)⟩
theorem e81 : EntryOK Tryd.prog 81 E81 :=
  entryBody base_ [] trivial [] trivial 0 E81 .none [] Tryd.func81 (by kernel_rfl) (by kernel_rfl) (by kernel_rfl) (by kernel_rfl) trivial

def E68 : Entry := ⟨⟨[.bor (.int .i64), .bor (.int .i64)], []⟩, ⟨[.data .bool], []⟩, (fun s => F68 s.1 s.2)⟩
theorem e68 : EntryOK Tryd.prog 68 E68 :=
  entryBody base_ [(81, E81)] ⟨e81, trivial⟩ [] trivial 0 E68 .none [] Tryd.func68 (by kernel_rfl) (by kernel_rfl) (by kernel_rfl) (by kernel_rfl) trivial

abbrev P55_l1 : CPat := ⟨[0, 3], [], 0, ⟨[.data (.slice (.int .i64)), .data (.int .i64)], []⟩⟩
abbrev O55_l1 : List (Ex × CPat) := [(.ret, ⟨[2], [], 0, ⟨[.data .bool], []⟩⟩), ((.exit 0), ⟨[], [], 0, ⟨[], []⟩⟩)]
def L55_l1 : LoopE := ⟨P55_l1, O55_l1, loopN (fun s => F55_s1 s.1 s.2)⟩
theorem l55_l1 : LoopOK Tryd.prog L55_l1 (sub [1, 0, 1, 0, 0] (bodyOf Tryd.f55)) Tryd.f55.ntmps :=
  loopBody base_ [(68, E68)] ⟨e68, trivial⟩ [] trivial 0 P55_l1 O55_l1 (fun s => F55_s1 s.1 s.2) .none [] (by kernel_rfl) (by kernel_rfl) (by kernel_rfl) (by kernel_rfl) trivial
def E55 : Entry := ⟨⟨[.bor (.slice (.int .i64))], []⟩, ⟨[.data .bool], []⟩, (fun s => F55 s)⟩
theorem e55 : EntryOK Tryd.prog 55 E55 :=
  entryBody base_ [] trivial [] trivial 0 E55 (.seq none .none (.seq none (.seq none .none (.block (.loop L55_l1))) .none)) [(L55_l1, sub [1, 0, 1, 0, 0] (bodyOf Tryd.f55))] Tryd.func55 (by kernel_rfl) (by kernel_rfl) (by kernel_rfl) (by kernel_rfl) ⟨l55_l1, trivial⟩

def E39 : Entry := ⟨⟨[.bor (.slice (.int .i64))], []⟩, ⟨[.data (.int .i64)], []⟩, (fun s => F39 s)⟩
theorem e39 : EntryOK Tryd.prog 39 E39 :=
  entryBody base_ [(54, E54), (55, E55)] ⟨e54, e55, trivial⟩ [] trivial 0 E39 .none [] Tryd.func39 (by kernel_rfl) (by kernel_rfl) (by kernel_rfl) (by kernel_rfl) trivial

def E82 : Entry := ⟨⟨[.bor (.int .i64)], []⟩, ⟨[.data .str], []⟩, (fun s => F82 s)⟩
theorem e82 : EntryOK Tryd.prog 82 E82 :=
  entryBody base_ [] trivial [] trivial 0 E82 .none [] Tryd.func82 (by kernel_rfl) (by kernel_rfl) (by kernel_rfl) (by kernel_rfl) trivial

abbrev J79_j2 : Jn Int := ⟨⟨[0, 2], [], 1000, ⟨[.data (.int .u64), .data (.int .i64)], []⟩⟩, (fun s => F79_j2 s.1 s.2)⟩
abbrev J79_j1 : Jn Int := ⟨⟨[0, 2], [], 1000, ⟨[.data (.int .u64), .data (.int .i64)], []⟩⟩, (fun s => F79_j1 s.1 s.2)⟩
def E79 : Entry := ⟨⟨[.bor (.int .u64)], []⟩, ⟨[.data (.int .i64)], []⟩, (fun s => F79 s)⟩
theorem e79 : EntryOK Tryd.prog 79 E79 :=
  entryBody base_ [] trivial [] trivial 0 E79 (.seq none .none (.seq (some J79_j1) .none (.seq (some J79_j2) .none .none))) [] Tryd.func79 (by kernel_rfl) (by kernel_rfl) (by kernel_rfl) (by kernel_rfl) trivial

def E91 : Entry := ⟨⟨[.bor (.int .i64)], []⟩, ⟨[.data (.int .i64)], []⟩, (fun s => F91 s)⟩
theorem e91 : EntryOK Tryd.prog 91 E91 :=
  entryBody base_ [] trivial [] trivial 0 E91 .none [] Tryd.func91 (by kernel_rfl) (by kernel_rfl) (by kernel_rfl) (by kernel_rfl) trivial

def E93 : Entry := ⟨⟨[.bor (.int .i64)], []⟩, ⟨[.data .bool], []⟩, (fun s => F93 s)⟩
theorem e93 : EntryOK Tryd.prog 93 E93 :=
  entryBody base_ [] trivial [] trivial 0 E93 .none [] Tryd.func93 (by kernel_rfl) (by kernel_rfl) (by kernel_rfl) (by kernel_rfl) trivial

def E97 : Entry := ⟨⟨[.bor (.int .u64)], []⟩, ⟨[.data (.int .i64)], []⟩, (fun s => F97 s)⟩
theorem e97 : EntryOK Tryd.prog 97 E97 :=
  entryBody base_ [] trivial [] trivial 0 E97 .none [] Tryd.func97 (by kernel_rfl) (by kernel_rfl) (by kernel_rfl) (by kernel_rfl) trivial

def E94 : Entry := ⟨⟨[.bor (.int .u64)], []⟩, ⟨[.data (.int .i64)], []⟩, (fun s => F94 s)⟩
theorem e94 : EntryOK Tryd.prog 94 E94 :=
  entryBody base_ [(97, E97)] ⟨e97, trivial⟩ [] trivial 0 E94 .none [] Tryd.func94 (by kernel_rfl) (by kernel_rfl) (by kernel_rfl) (by kernel_rfl) trivial

abbrev J69_j2 : Jn ByteArray := ⟨⟨[0, 5, 6], [1000], 1001, ⟨[.data (.int .i64), .aptr 0, .data (.int .u64)], [.arr 24 (.int .u8)]⟩⟩, (fun s => F69_j2 s.1 s.2.1 s.2.2)⟩
abbrev J69_j1 : Jn ByteArray := ⟨⟨[0, 17], [], 1000, ⟨[.data (.int .i64), .data .bool], []⟩⟩, (fun s => F69_j1 s.1 s.2)⟩
def E69 : Entry := ⟨⟨[.bor (.int .i64), .bor (.int .i64)], []⟩, ⟨[.data .str], []⟩, (fun s => F69 s.1 s.2)⟩
theorem e69 : EntryOK Tryd.prog 69 E69 :=
  entryBody base_ [(82, E82)] ⟨e82, trivial⟩ [] trivial 0 E69 (.seq none .none (.seq none (.seq none .none (.cond (.seq none (.seq (some J69_j1) .none .none) (.seq none .none (.seq none .none (.seq (some J69_j2) .none .none)))) .none)) .none)) [] Tryd.func69 (by kernel_rfl) (by kernel_rfl) (by kernel_rfl) (by kernel_rfl) trivial

def E57 : Entry := ⟨⟨[.bor (.int .i64)], []⟩, ⟨[.data .str], []⟩, (fun s => F57 s)⟩
theorem e57 : EntryOK Tryd.prog 57 E57 :=
  entryBody base_ [(69, E69)] ⟨e69, trivial⟩ [] trivial 0 E57 .none [] Tryd.func57 (by kernel_rfl) (by kernel_rfl) (by kernel_rfl) (by kernel_rfl) trivial

def E41 : Entry := ⟨⟨[.bor (.int .i64)], []⟩, ⟨[.data .str], []⟩, (fun s => F41 s)⟩
theorem e41 : EntryOK Tryd.prog 41 E41 :=
  entryBody base_ [(57, E57)] ⟨e57, trivial⟩ [] trivial 0 E41 .none [] Tryd.func41 (by kernel_rfl) (by kernel_rfl) (by kernel_rfl) (by kernel_rfl) trivial

abbrev P56_l1 : CPat := ⟨[0, 1, 7, 8], [], 0, ⟨[.data (.int .u64), .data .str, .data (.int .i64), .data (.int .i64)], []⟩⟩
abbrev O56_l1 : List (Ex × CPat) := [((.exit 0), ⟨[0], [], 0, ⟨[.data (.int .u64)], []⟩⟩)]
def L56_l1 : LoopE := ⟨P56_l1, O56_l1, loopN (fun s => F56_s1 s.1 s.2.1 s.2.2.1 s.2.2.2)⟩
theorem l56_l1 : LoopOK Tryd.prog L56_l1 (sub [1, 0, 1, 0, 0] (bodyOf Tryd.f56)) Tryd.f56.ntmps :=
  loopBody base_ [] trivial [] trivial 0 P56_l1 O56_l1 (fun s => F56_s1 s.1 s.2.1 s.2.2.1 s.2.2.2) .none [] (by kernel_rfl) (by kernel_rfl) (by kernel_rfl) (by kernel_rfl) trivial
def E56 : Entry := ⟨⟨[.bor (.int .u64), .bor .str], []⟩, ⟨[.data (.int .u64)], []⟩, (fun s => F56 s.1 s.2)⟩
theorem e56 : EntryOK Tryd.prog 56 E56 :=
  entryBody base_ [] trivial [] trivial 0 E56 (.seq none .none (.seq none (.seq none .none (.block (.loop L56_l1))) .none)) [(L56_l1, sub [1, 0, 1, 0, 0] (bodyOf Tryd.f56))] Tryd.func56 (by kernel_rfl) (by kernel_rfl) (by kernel_rfl) (by kernel_rfl) ⟨l56_l1, trivial⟩

abbrev P40_l1 : CPat := ⟨[3, 6, 7, 8], [], 0, ⟨[.data (.int .u64), .data (.slice .str), .data (.int .i64), .data (.int .i64)], []⟩⟩
abbrev O40_l1 : List (Ex × CPat) := [((.exit 0), ⟨[3], [], 0, ⟨[.data (.int .u64)], []⟩⟩)]
def L40_l1 : LoopE := ⟨P40_l1, O40_l1, loopN (fun s => F40_s1 s.1 s.2.1 s.2.2.1 s.2.2.2)⟩
theorem l40_l1 : LoopOK Tryd.prog L40_l1 (sub [1, 1, 0, 1, 0, 0] (bodyOf Tryd.f40)) Tryd.f40.ntmps :=
  loopBody base_ [(56, E56)] ⟨e56, trivial⟩ [] trivial 0 P40_l1 O40_l1 (fun s => F40_s1 s.1 s.2.1 s.2.2.1 s.2.2.2) .none [] (by kernel_rfl) (by kernel_rfl) (by kernel_rfl) (by kernel_rfl) trivial
def E40 : Entry := ⟨⟨[.bor (.slice .str)], []⟩, ⟨[.data (.int .u64)], []⟩, (fun s => F40 s)⟩
theorem e40 : EntryOK Tryd.prog 40 E40 :=
  entryBody base_ [] trivial [] trivial 0 E40 (.seq none .none (.seq none .none (.seq none (.seq none .none (.block (.loop L40_l1))) .none))) [(L40_l1, sub [1, 1, 0, 1, 0, 0] (bodyOf Tryd.f40))] Tryd.func40 (by kernel_rfl) (by kernel_rfl) (by kernel_rfl) (by kernel_rfl) ⟨l40_l1, trivial⟩

def E80 : Entry := ⟨⟨[.bor (.int .u64)], []⟩, ⟨[.data .bool], []⟩, (fun s => F80 s)⟩
theorem e80 : EntryOK Tryd.prog 80 E80 :=
  entryBody base_ [] trivial [] trivial 0 E80 .none [] Tryd.func80 (by kernel_rfl) (by kernel_rfl) (by kernel_rfl) (by kernel_rfl) trivial

def E61 : Entry := ⟨⟨[.bor (.int .u64), .bor (.int .u64)], []⟩, ⟨[.data (.int .i64)], []⟩, (fun s => F61 s.1 s.2)⟩
theorem e61 : EntryOK Tryd.prog 61 E61 :=
  entryBody base_ [(80, E80)] ⟨e80, trivial⟩ [] trivial 0 E61 .none [] Tryd.func61 (by kernel_rfl) (by kernel_rfl) (by kernel_rfl) (by kernel_rfl) trivial

def E62 : Entry := ⟨⟨[.bor (.int .i64), .bor (.int .i64)], []⟩, ⟨[.data (.int .i64)], []⟩, (fun s => F62 s.1 s.2)⟩
theorem e62 : EntryOK Tryd.prog 62 E62 :=
  entryBody base_ [(81, E81)] ⟨e81, trivial⟩ [] trivial 0 E62 .none [] Tryd.func62 (by kernel_rfl) (by kernel_rfl) (by kernel_rfl) (by kernel_rfl) trivial

abbrev P60_l1 : CPat := ⟨[3, 6, 7, 8], [], 0, ⟨[.data (.int .i64), .data (.slice (.int .i64)), .data (.int .i64), .data (.int .i64)], []⟩⟩
abbrev O60_l1 : List (Ex × CPat) := [(.ret, ⟨[2], [], 0, ⟨[.data (.int .i64)], []⟩⟩), ((.exit 0), ⟨[3], [], 0, ⟨[.data (.int .i64)], []⟩⟩)]
def L60_l1 : LoopE := ⟨P60_l1, O60_l1, loopN (fun s => F60_s1 s.1 s.2.1 s.2.2.1 s.2.2.2)⟩
theorem l60_l1 : LoopOK Tryd.prog L60_l1 (sub [1, 1, 0, 1, 0, 0] (bodyOf Tryd.f60)) Tryd.f60.ntmps :=
  loopBody base_ [] trivial [] trivial 0 P60_l1 O60_l1 (fun s => F60_s1 s.1 s.2.1 s.2.2.1 s.2.2.2) .none [] (by kernel_rfl) (by kernel_rfl) (by kernel_rfl) (by kernel_rfl) trivial
def E60 : Entry := ⟨⟨[.bor (.slice (.int .i64))], []⟩, ⟨[.data (.int .i64)], []⟩, (fun s => F60 s)⟩
theorem e60 : EntryOK Tryd.prog 60 E60 :=
  entryBody base_ [] trivial [] trivial 0 E60 (.seq none .none (.seq none .none (.seq none (.seq none .none (.block (.loop L60_l1))) .none))) [(L60_l1, sub [1, 1, 0, 1, 0, 0] (bodyOf Tryd.f60))] Tryd.func60 (by kernel_rfl) (by kernel_rfl) (by kernel_rfl) (by kernel_rfl) ⟨l60_l1, trivial⟩

def E43 : Entry := ⟨⟨[.bor tyPoint, .bor tyPoint], []⟩, ⟨[.data (.int .i64)], []⟩, (fun s => F43 s.1 s.2)⟩
theorem e43 : EntryOK Tryd.prog 43 E43 :=
  entryBody base_ [(61, E61), (62, E62), (60, E60)] ⟨e61, e62, e60, trivial⟩ [] trivial 0 E43 .none [] Tryd.func43 (by kernel_rfl) (by kernel_rfl) (by kernel_rfl) (by kernel_rfl) trivial

def E42 : Entry := ⟨⟨[.own 0, .fn 43 0 0], [.row true 68 tyPoint]⟩, ⟨[], [.row true 68 tyPoint]⟩, fun l => F42 l⟩
theorem e42 : EntryOK Tryd.prog 42 E42 :=
  sort_entry (P := Tryd.prog) sort42L (g := 43) (tid := 68) (e := tyPoint) rfl rfl Tryd.isAgg68 Tryd.sizeOf68 cmp43 cmp43_swo cmp43_total (fun s => F43 s.1 s.2) e43 (fun s => F43_eq s.1 s.2) (enters_of Tryd.func43 (by kernel_rfl) rfl) ⟨_, Tryd.func42, by kernel_rfl, by kernel_rfl⟩

abbrev P16_l3 : CPat := ⟨[1, 6, 8, 21, 22, 23, 27, 28], [0], 1, ⟨[.data (.int .i64), .own 0, .data (.int .i64), .data (.slice (.int .i64)), .data (.int .i64), .data (.int .i64), .data (.int .i64), .data (.int .i64)], [.row false 68 tyPoint]⟩⟩
abbrev O16_l3 : List (Ex × CPat) := [((.exit 2), ⟨[1, 6, 21, 22, 23], [], 0, ⟨[.data (.int .i64), .own 1, .data (.slice (.int .i64)), .data (.int .i64), .data (.int .i64)], [.gone, .row false 68 tyPoint]⟩⟩)]
def L16_l3 : LoopE := ⟨P16_l3, O16_l3, loopN (fun s => F16_s3 s.1 s.2.1 s.2.2.1 s.2.2.2.1 s.2.2.2.2.1 s.2.2.2.2.2.1 s.2.2.2.2.2.2.1 s.2.2.2.2.2.2.2)⟩
theorem l16_l3 : LoopOK Tryd.prog L16_l3 (sub [1, 1, 1, 0, 1, 0, 0, 1, 1, 0, 0, 1, 1, 0, 0] (bodyOf Tryd.f16)) Tryd.f16.ntmps :=
  loopBody base_ [(41, E41), (40, E40)] ⟨e41, e40, trivial⟩ [] trivial 0 P16_l3 O16_l3 (fun s => F16_s3 s.1 s.2.1 s.2.2.1 s.2.2.2.1 s.2.2.2.2.1 s.2.2.2.2.2.1 s.2.2.2.2.2.2.1 s.2.2.2.2.2.2.2) .none [] (by kernel_rfl) (by kernel_rfl) (by kernel_rfl) (by kernel_rfl) trivial
abbrev P16_l2 : CPat := ⟨[1, 6, 21, 22, 23], [0], 1, ⟨[.data (.int .i64), .own 0, .data (.slice (.int .i64)), .data (.int .i64), .data (.int .i64)], [.row false 68 tyPoint]⟩⟩
abbrev O16_l2 : List (Ex × CPat) := [((.exit 0), ⟨[6], [], 0, ⟨[.own 1], [.gone, .row false 68 tyPoint]⟩⟩)]
def L16_l2 : LoopE := ⟨P16_l2, O16_l2, loopN (fun s => F16_s2 s.1 s.2.1 s.2.2.1 s.2.2.2.1 s.2.2.2.2)⟩
theorem l16_l2 : LoopOK Tryd.prog L16_l2 (sub [1, 1, 1, 0, 1, 0, 0] (bodyOf Tryd.f16)) Tryd.f16.ntmps :=
  loopBody base_ [] trivial [] trivial 0 P16_l2 O16_l2 (fun s => F16_s2 s.1 s.2.1 s.2.2.1 s.2.2.2.1 s.2.2.2.2) (.seq none .none (.seq none .none (.seq none (.block (.seq none .none (.seq none .none (.block (.loop L16_l3))))) .none))) [(L16_l3, sub [1, 1, 1, 0, 1, 0, 0, 1, 1, 0, 0, 1, 1, 0, 0] (bodyOf Tryd.f16))] (by kernel_rfl) (by kernel_rfl) (by kernel_rfl) (by kernel_rfl) ⟨l16_l3, trivial⟩
abbrev J16_j1 : Jn (Int × (List Point)) := ⟨⟨[0, 1, 20], [], 1000, ⟨[.data (.slice (.int .i64)), .data (.int .i64), .data .bool], []⟩⟩, (fun s => F16_j1 s.1 s.2.1 s.2.2)⟩
def E16 : Entry := ⟨⟨[.data (.slice (.int .i64)), .data (.int .i64)], []⟩, ⟨[.own 0, .data (.int .i64)], [.row false 68 tyPoint]⟩, (fun s => F16 s.1 s.2)⟩
theorem e16 : EntryOK Tryd.prog 16 E16 :=
  entryBody base_ [(39, E39), (42, E42)] ⟨e39, e42, trivial⟩ [] trivial 0 E16 (.seq none .none (.seq none (.seq (some J16_j1) .none .none) (.seq none .none (.seq none (.seq none .none (.block (.loop L16_l2))) .none)))) [(L16_l2, sub [1, 1, 1, 0, 1, 0, 0] (bodyOf Tryd.f16))] Tryd.func16 (by kernel_rfl) (by kernel_rfl) (by kernel_rfl) (by kernel_rfl) ⟨l16_l2, trivial⟩

abbrev P63_l1 : CPat := ⟨[0, 8, 9, 10], [], 0, ⟨[.data (.slice tyPoint), .data (.slice tyPoint), .data (.int .i64), .data (.int .i64)], []⟩⟩
abbrev O63_l1 : List (Ex × CPat) := [(.ret, ⟨[2], [], 0, ⟨[.data (.int .i64)], []⟩⟩), ((.exit 0), ⟨[], [], 0, ⟨[], []⟩⟩)]
def L63_l1 : LoopE := ⟨P63_l1, O63_l1, loopN (fun s => F63_s1 s.1 s.2.1 s.2.2.1 s.2.2.2)⟩
theorem l63_l1 : LoopOK Tryd.prog L63_l1 (sub [1, 1, 0, 1, 0, 0] (bodyOf Tryd.f63)) Tryd.f63.ntmps :=
  loopBody base_ [(43, E43)] ⟨e43, trivial⟩ [] trivial 0 P63_l1 O63_l1 (fun s => F63_s1 s.1 s.2.1 s.2.2.1 s.2.2.2) .none [] (by kernel_rfl) (by kernel_rfl) (by kernel_rfl) (by kernel_rfl) trivial
def E63 : Entry := ⟨⟨[.bor (.slice tyPoint)], []⟩, ⟨[.data (.int .i64)], []⟩, (fun s => F63 s)⟩
theorem e63 : EntryOK Tryd.prog 63 E63 :=
  entryBody base_ [] trivial [] trivial 0 E63 (.seq none .none (.seq none .none (.seq none (.seq none .none (.block (.loop L63_l1))) .none))) [(L63_l1, sub [1, 1, 0, 1, 0, 0] (bodyOf Tryd.f63))] Tryd.func63 (by kernel_rfl) (by kernel_rfl) (by kernel_rfl) (by kernel_rfl) ⟨l63_l1, trivial⟩

def E65 : Entry := ⟨⟨[.bor tyPoint, .bor (.int .u64)], []⟩, ⟨[.data (.int .i64)], []⟩, (fun s => F65 s.1 s.2)⟩
theorem e65 : EntryOK Tryd.prog 65 E65 :=
  entryBody base_ [(61, E61)] ⟨e61, trivial⟩ [] trivial 0 E65 .none [] Tryd.func65 (by kernel_rfl) (by kernel_rfl) (by kernel_rfl) (by kernel_rfl) trivial

abbrev P64_l1 : CPat := ⟨[0, 1, 2, 8, 9, 10], [], 0, ⟨[.data (.slice tyPoint), .data (.int .u64), .fn 65 0 0, .data (.int .i64), .data (.int .i64), .data (.int .i64)], []⟩⟩
abbrev O64_l1 : List (Ex × CPat) := [((.exit 0), ⟨[0, 1, 2, 8, 9], [], 0, ⟨[.data (.slice tyPoint), .data (.int .u64), .fn 65 0 0, .data (.int .i64), .data (.int .i64)], []⟩⟩)]
def L64_l1 : LoopE := ⟨P64_l1, O64_l1, loopN (fun s => F64_s1 s.1 s.2.1 s.2.2.1 s.2.2.2.1 s.2.2.2.2)⟩
theorem l64_l1 : LoopOK Tryd.prog L64_l1 (sub [1, 1, 1, 0, 0, 0] (bodyOf Tryd.f64)) Tryd.f64.ntmps :=
  loopBody base_ [(65, E65)] ⟨e65, trivial⟩ [] trivial 0 P64_l1 O64_l1 (fun s => F64_s1 s.1 s.2.1 s.2.2.1 s.2.2.2.1 s.2.2.2.2) .none [] (by kernel_rfl) (by kernel_rfl) (by kernel_rfl) (by kernel_rfl) trivial
def E64 : Entry := ⟨⟨[.bor (.slice tyPoint), .bor (.int .u64), .fn 65 0 0], []⟩, ⟨[.data (.int .i64), .data .bool], []⟩, (fun s => F64 s.1 s.2)⟩
theorem e64 : EntryOK Tryd.prog 64 E64 :=
  entryBody base_ [(65, E65)] ⟨e65, trivial⟩ [] trivial 0 E64 (.seq none .none (.seq none .none (.seq none .none (.seq none (.block (.loop L64_l1)) .none)))) [(L64_l1, sub [1, 1, 1, 0, 0, 0] (bodyOf Tryd.f64))] Tryd.func64 (by kernel_rfl) (by kernel_rfl) (by kernel_rfl) (by kernel_rfl) ⟨l64_l1, trivial⟩

def E44 : Entry := ⟨⟨[.bor (.slice tyPoint), .bor .str], []⟩, ⟨[.data (.int .i64), .data (.int .i64)], []⟩, (fun s => F44 s.1 s.2)⟩
theorem e44 : EntryOK Tryd.prog 44 E44 :=
  entryBody base_ [(63, E63), (40, E40), (64, E64)] ⟨e63, e40, e64, trivial⟩ [] trivial 0 E44 .none [] Tryd.func44 (by kernel_rfl) (by kernel_rfl) (by kernel_rfl) (by kernel_rfl) trivial

def E18 : Entry := ⟨⟨[.bor (.slice tyPoint), .bor .str], []⟩, ⟨[.data (.int .i64), .data (.int .i64)], []⟩, (fun s => F18 s.1 s.2)⟩
theorem e18 : EntryOK Tryd.prog 18 E18 :=
  entryBody base_ [(44, E44)] ⟨e44, trivial⟩ [] trivial 0 E18 .none [] Tryd.func18 (by kernel_rfl) (by kernel_rfl) (by kernel_rfl) (by kernel_rfl) trivial

abbrev P67_l1 : CPat := ⟨[0, 3, 4], [], 0, ⟨[.data (.int .u64), .data (.int .u64), .data (.int .i64)], []⟩⟩
abbrev O67_l1 : List (Ex × CPat) := [((.exit 0), ⟨[3], [], 0, ⟨[.data (.int .u64)], []⟩⟩)]
def L67_l1 : LoopE := ⟨P67_l1, O67_l1, loopN (fun s => F67_s1 s.1 s.2.1 s.2.2)⟩
theorem l67_l1 : LoopOK Tryd.prog L67_l1 (sub [1, 1, 0, 1, 0, 0] (bodyOf Tryd.f67)) Tryd.f67.ntmps :=
  loopBody base_ [] trivial [] trivial 0 P67_l1 O67_l1 (fun s => F67_s1 s.1 s.2.1 s.2.2) .none [] (by kernel_rfl) (by kernel_rfl) (by kernel_rfl) (by kernel_rfl) trivial
def E67 : Entry := ⟨⟨[.bor (.int .u64)], []⟩, ⟨[.data (.int .u64)], []⟩, (fun s => F67 s)⟩
theorem e67 : EntryOK Tryd.prog 67 E67 :=
  entryBody base_ [] trivial [] trivial 0 E67 (.seq none .none (.seq none .none (.seq none (.seq none .none (.block (.loop L67_l1))) .none))) [(L67_l1, sub [1, 1, 0, 1, 0, 0] (bodyOf Tryd.f67))] Tryd.func67 (by kernel_rfl) (by kernel_rfl) (by kernel_rfl) (by kernel_rfl) ⟨l67_l1, trivial⟩

abbrev P53_l1 : CPat := ⟨[0, 1, 5], [], 0, ⟨[.data (.int .u64), .data .str, .data (.int .i64)], []⟩⟩
abbrev O53_l1 : List (Ex × CPat) := [((.exit 0), ⟨[0], [], 0, ⟨[.data (.int .u64)], []⟩⟩)]
def L53_l1 : LoopE := ⟨P53_l1, O53_l1, loopN (fun s => F53_s1 s.1 s.2.1 s.2.2)⟩
theorem l53_l1 : LoopOK Tryd.prog L53_l1 (sub [1, 0, 1, 0, 0] (bodyOf Tryd.f53)) Tryd.f53.ntmps :=
  loopBody base_ [(67, E67)] ⟨e67, trivial⟩ [] trivial 0 P53_l1 O53_l1 (fun s => F53_s1 s.1 s.2.1 s.2.2) .none [] (by kernel_rfl) (by kernel_rfl) (by kernel_rfl) (by kernel_rfl) trivial
def E53 : Entry := ⟨⟨[.bor (.int .u64), .bor .str], []⟩, ⟨[.data (.int .u64)], []⟩, (fun s => F53 s.1 s.2)⟩
theorem e53 : EntryOK Tryd.prog 53 E53 :=
  entryBody base_ [] trivial [] trivial 0 E53 (.seq none .none (.seq none (.seq none .none (.block (.loop L53_l1))) .none)) [(L53_l1, sub [1, 0, 1, 0, 0] (bodyOf Tryd.f53))] Tryd.func53 (by kernel_rfl) (by kernel_rfl) (by kernel_rfl) (by kernel_rfl) ⟨l53_l1, trivial⟩

abbrev P38_l1 : CPat := ⟨[0, 3, 4], [], 0, ⟨[.data (.slice .str), .data .str, .data (.int .i64)], []⟩⟩
abbrev O38_l1 : List (Ex × CPat) := [((.exit 0), ⟨[3], [], 0, ⟨[.data .str], []⟩⟩)]
def L38_l1 : LoopE := ⟨P38_l1, O38_l1, loopN (fun s => F38_s1 s.1 s.2.1 s.2.2)⟩
theorem l38_l1 : LoopOK Tryd.prog L38_l1 (sub [1, 1, 0, 1, 0, 0] (bodyOf Tryd.f38)) Tryd.f38.ntmps :=
  loopBody base_ [] trivial [] trivial 0 P38_l1 O38_l1 (fun s => F38_s1 s.1 s.2.1 s.2.2) .none [] (by kernel_rfl) (by kernel_rfl) (by kernel_rfl) (by kernel_rfl) trivial
def E38 : Entry := ⟨⟨[.bor (.slice .str)], []⟩, ⟨[.data (.int .u64)], []⟩, (fun s => F38 s)⟩
theorem e38 : EntryOK Tryd.prog 38 E38 :=
  entryBody base_ [(53, E53)] ⟨e53, trivial⟩ [] trivial 0 E38 (.seq none .none (.seq none .none (.seq none (.seq none .none (.block (.loop L38_l1))) .none))) [(L38_l1, sub [1, 1, 0, 1, 0, 0] (bodyOf Tryd.f38))] Tryd.func38 (by kernel_rfl) (by kernel_rfl) (by kernel_rfl) (by kernel_rfl) ⟨l38_l1, trivial⟩

abbrev P15_l1 : CPat := ⟨[1, 2, 3, 4, 6, 7, 8], [0], 1, ⟨[.own 0, .data (.int .i64), .data (.int .i64), .data (.int .i64), .data (.int .i64), .data (.int .u64), .data (.int .i64)], [.row false 68 tyPoint]⟩⟩
abbrev O15_l1 : List (Ex × CPat) := [((.exit 0), ⟨[1, 2, 3, 4, 6, 7], [], 0, ⟨[.own 1, .data (.int .i64), .data (.int .i64), .data (.int .i64), .data (.int .i64), .data (.int .u64)], [.gone, .row false 68 tyPoint]⟩⟩)]
def L15_l1 : LoopE := ⟨P15_l1, O15_l1, loopN (fun s => F15_s1 s.1 s.2.1 s.2.2.1 s.2.2.2.1 s.2.2.2.2.1 s.2.2.2.2.2.1 s.2.2.2.2.2.2)⟩
theorem l15_l1 : LoopOK Tryd.prog L15_l1 (sub [1, 1, 1, 1, 1, 0, 1, 0, 0] (bodyOf Tryd.f15)) Tryd.f15.ntmps :=
  loopBody base_ [] trivial [] trivial 0 P15_l1 O15_l1 (fun s => F15_s1 s.1 s.2.1 s.2.2.1 s.2.2.2.1 s.2.2.2.2.1 s.2.2.2.2.2.1 s.2.2.2.2.2.2) .none [] (by kernel_rfl) (by kernel_rfl) (by kernel_rfl) (by kernel_rfl) trivial
def E15 : Entry := ⟨⟨[], []⟩, ⟨[.data .bool], []⟩, (fun _ => F15)⟩
theorem e15 : EntryOK Tryd.prog 15 E15 :=
  entryBody base_ [(16, E16), (18, E18), (38, E38)] ⟨e16, e18, e38, trivial⟩ [] trivial 0 E15 (.seq none .none (.seq none .none (.seq none .none (.seq none .none (.seq none .none (.seq none (.seq none .none (.block (.loop L15_l1))) .none)))))) [(L15_l1, sub [1, 1, 1, 1, 1, 0, 1, 0, 0] (bodyOf Tryd.f15))] Tryd.func15 (by kernel_rfl) (by kernel_rfl) (by kernel_rfl) (by kernel_rfl) ⟨l15_l1, trivial⟩

abbrev P17_l1 : CPat := ⟨[0, 6, 8, 9, 22, 23], [0, 1], 2, ⟨[.data (.slice tyPoint), .data (.int .i64), .aptr 0, .own 1, .data (.int .i64), .data (.int .i64)], [.arr 64 .bool, .row false 3 (.int .i64)]⟩⟩
abbrev O17_l1 : List (Ex × CPat) := [((.exit 0), ⟨[9], [], 0, ⟨[.own 2], [.gone, .gone, .row false 3 (.int .i64)]⟩⟩)]
def L17_l1 : LoopE := ⟨P17_l1, O17_l1, loopN (fun s => F17_s1 s.1 s.2.1 s.2.2.1 s.2.2.2.1 s.2.2.2.2.1 s.2.2.2.2.2)⟩
theorem l17_l1 : LoopOK Tryd.prog L17_l1 (sub [1, 1, 1, 1, 1, 0, 1, 0, 0] (bodyOf Tryd.f17)) Tryd.f17.ntmps :=
  loopBody base_ [] trivial [] trivial 0 P17_l1 O17_l1 (fun s => F17_s1 s.1 s.2.1 s.2.2.1 s.2.2.2.1 s.2.2.2.2.1 s.2.2.2.2.2) .none [] (by kernel_rfl) (by kernel_rfl) (by kernel_rfl) (by kernel_rfl) trivial
def E17 : Entry := ⟨⟨[.data (.slice tyPoint), .data .str], []⟩, ⟨[.own 0, .data (.int .i64)], [.row false 3 (.int .i64)]⟩, (fun s => F17 s.1 s.2)⟩
theorem e17 : EntryOK Tryd.prog 17 E17 :=
  entryBody base_ [(44, E44)] ⟨e44, trivial⟩ [] trivial 0 E17 (.seq none .none (.seq none .none (.seq none .none (.seq none .none (.seq none .none (.seq none (.seq none .none (.block (.loop L17_l1))) .none)))))) [(L17_l1, sub [1, 1, 1, 1, 1, 0, 1, 0, 0] (bodyOf Tryd.f17))] Tryd.func17 (by kernel_rfl) (by kernel_rfl) (by kernel_rfl) (by kernel_rfl) ⟨l17_l1, trivial⟩

abbrev P19_l1 : CPat := ⟨[0, 1, 5, 6], [], 0, ⟨[.data (.slice (.int .i64)), .data (.int .i64), .data (.int .i64), .data (.int .i64)], []⟩⟩
abbrev O19_l1 : List (Ex × CPat) := [((.exit 0), ⟨[5], [], 0, ⟨[.data (.int .i64)], []⟩⟩)]
def L19_l1 : LoopE := ⟨P19_l1, O19_l1, loopN (fun s => F19_s1 s.1 s.2.1 s.2.2.1 s.2.2.2)⟩
theorem l19_l1 : LoopOK Tryd.prog L19_l1 (sub [1, 1, 0, 1, 0, 0] (bodyOf Tryd.f19)) Tryd.f19.ntmps :=
  loopBody base_ [] trivial [] trivial 0 P19_l1 O19_l1 (fun s => F19_s1 s.1 s.2.1 s.2.2.1 s.2.2.2) .none [] (by kernel_rfl) (by kernel_rfl) (by kernel_rfl) (by kernel_rfl) trivial
def E19 : Entry := ⟨⟨[.bor (.slice (.int .i64)), .bor (.int .i64)], []⟩, ⟨[.data (.int .i64)], []⟩, (fun s => F19 s.1 s.2)⟩
theorem e19 : EntryOK Tryd.prog 19 E19 :=
  entryBody base_ [] trivial [] trivial 0 E19 (.seq none .none (.seq none .none (.seq none (.seq none .none (.block (.loop L19_l1))) .none))) [(L19_l1, sub [1, 1, 0, 1, 0, 0] (bodyOf Tryd.f19))] Tryd.func19 (by kernel_rfl) (by kernel_rfl) (by kernel_rfl) (by kernel_rfl) ⟨l19_l1, trivial⟩

abbrev P20_l1 : CPat := ⟨[0, 1, 5], [], 0, ⟨[.data (.slice (.int .i64)), .data (.slice (.int .i64)), .data (.int .i64)], []⟩⟩
abbrev O20_l1 : List (Ex × CPat) := [(.ret, ⟨[4], [], 0, ⟨[.data .bool], []⟩⟩), ((.exit 0), ⟨[], [], 0, ⟨[], []⟩⟩)]
def L20_l1 : LoopE := ⟨P20_l1, O20_l1, loopN (fun s => F20_s1 s.1 s.2.1 s.2.2)⟩
theorem l20_l1 : LoopOK Tryd.prog L20_l1 (sub [1, 1, 0, 1, 0, 0] (bodyOf Tryd.f20)) Tryd.f20.ntmps :=
  loopBody base_ [] trivial [] trivial 0 P20_l1 O20_l1 (fun s => F20_s1 s.1 s.2.1 s.2.2) .none [] (by kernel_rfl) (by kernel_rfl) (by kernel_rfl) (by kernel_rfl) trivial
def E20 : Entry := ⟨⟨[.bor (.slice (.int .i64)), .bor (.slice (.int .i64))], []⟩, ⟨[.data .bool], []⟩, (fun s => F20 s.1 s.2)⟩
theorem e20 : EntryOK Tryd.prog 20 E20 :=
  entryBody base_ [] trivial [] trivial 0 E20 (.seq none .none (.seq none .none (.seq none (.seq none .none (.block (.loop L20_l1))) .none))) [(L20_l1, sub [1, 1, 0, 1, 0, 0] (bodyOf Tryd.f20))] Tryd.func20 (by kernel_rfl) (by kernel_rfl) (by kernel_rfl) (by kernel_rfl) ⟨l20_l1, trivial⟩

abbrev P37_l1 : CPat := ⟨[0, 3], [], 0, ⟨[.data (.slice (.int .i64)), .data (.int .i64)], []⟩⟩
abbrev O37_l1 : List (Ex × CPat) := [(.ret, ⟨[2], [], 0, ⟨[.data .bool], []⟩⟩), ((.exit 0), ⟨[], [], 0, ⟨[], []⟩⟩)]
def L37_l1 : LoopE := ⟨P37_l1, O37_l1, loopN (fun s => F37_s1 s.1 s.2)⟩
theorem l37_l1 : LoopOK Tryd.prog L37_l1 (sub [1, 0, 1, 0, 0] (bodyOf Tryd.f37)) Tryd.f37.ntmps :=
  loopBody base_ [(19, E19)] ⟨e19, trivial⟩ [] trivial 0 P37_l1 O37_l1 (fun s => F37_s1 s.1 s.2) .none [] (by kernel_rfl) (by kernel_rfl) (by kernel_rfl) (by kernel_rfl) trivial
def E37 : Entry := ⟨⟨[.bor (.slice (.int .i64))], []⟩, ⟨[.data .bool], []⟩, (fun s => F37 s)⟩
theorem e37 : EntryOK Tryd.prog 37 E37 :=
  entryBody base_ [] trivial [] trivial 0 E37 (.seq none .none (.seq none (.seq none .none (.block (.loop L37_l1))) .none)) [(L37_l1, sub [1, 0, 1, 0, 0] (bodyOf Tryd.f37))] Tryd.func37 (by kernel_rfl) (by kernel_rfl) (by kernel_rfl) (by kernel_rfl) ⟨l37_l1, trivial⟩

abbrev P14_l1 : CPat := ⟨[0, 3], [], 0, ⟨[.data (.slice (.int .i64)), .data (.int .i64)], []⟩⟩
abbrev O14_l1 : List (Ex × CPat) := [(.ret, ⟨[2], [], 0, ⟨[.data .bool], []⟩⟩), ((.exit 0), ⟨[0], [], 0, ⟨[.data (.slice (.int .i64))], []⟩⟩)]
def L14_l1 : LoopE := ⟨P14_l1, O14_l1, loopN (fun s => F14_s1 s.1 s.2)⟩
theorem l14_l1 : LoopOK Tryd.prog L14_l1 (sub [1, 0, 1, 0, 0] (bodyOf Tryd.f14)) Tryd.f14.ntmps :=
  loopBody base_ [] trivial [] trivial 0 P14_l1 O14_l1 (fun s => F14_s1 s.1 s.2) .none [] (by kernel_rfl) (by kernel_rfl) (by kernel_rfl) (by kernel_rfl) trivial
def E14 : Entry := ⟨⟨[.bor (.slice (.int .i64))], []⟩, ⟨[.data .bool], []⟩, (fun s => F14 s)⟩
theorem e14 : EntryOK Tryd.prog 14 E14 :=
  entryBody base_ [(37, E37)] ⟨e37, trivial⟩ [] trivial 0 E14 (.seq none .none (.seq none (.seq none .none (.block (.loop L14_l1))) .none)) [(L14_l1, sub [1, 0, 1, 0, 0] (bodyOf Tryd.f14))] Tryd.func14 (by kernel_rfl) (by kernel_rfl) (by kernel_rfl) (by kernel_rfl) ⟨l14_l1, trivial⟩

abbrev J3_j4 : Jn (((List Int) × ByteArray × Int × Int × Int × (List Int) × (List Int) × (List Int)) ⊕ (Bool ⊕ (ByteArray × Int × (List Int) × (List Int)))) := ⟨⟨[3, 6, 7, 10, 14, 15, 16, 17], [1000, 1001, 1002], 1003, ⟨[.data (.slice (.int .i64)), .data .str, .data (.int .i64), .own 0, .data (.int .i64), .own 1, .own 2, .data (.int .i64)], [.row false 3 (.int .i64), .row false 3 (.int .i64), .row false 3 (.int .i64)]⟩⟩, (fun s => F3_j4 s.1 s.2.1 s.2.2.1 s.2.2.2.1 s.2.2.2.2.1 s.2.2.2.2.2.1 s.2.2.2.2.2.2.1 s.2.2.2.2.2.2.2)⟩
abbrev P3_l3 : CPat := ⟨[3, 6, 7, 10, 14, 15, 16, 17], [0, 1, 2], 3, ⟨[.data (.slice (.int .i64)), .data .str, .data (.int .i64), .own 0, .data (.int .i64), .own 1, .own 2, .data (.int .i64)], [.row false 3 (.int .i64), .row false 3 (.int .i64), .row false 3 (.int .i64)]⟩⟩
abbrev O3_l3 : List (Ex × CPat) := [(.ret, ⟨[2], [], 0, ⟨[.data .bool], [.gone, .gone, .gone]⟩⟩), ((.exit 0), ⟨[6, 7, 15, 16], [], 0, ⟨[.data .str, .data (.int .i64), .own 3, .own 4], [.gone, .gone, .gone, .row false 3 (.int .i64), .row false 3 (.int .i64)]⟩⟩)]
def L3_l3 : LoopE := ⟨P3_l3, O3_l3, loopN (fun s => F3_s3 s.1 s.2.1 s.2.2.1 s.2.2.2.1 s.2.2.2.2.1 s.2.2.2.2.2.1 s.2.2.2.2.2.2.1 s.2.2.2.2.2.2.2)⟩
theorem l3_l3 : LoopOK Tryd.prog L3_l3 (sub [1, 1, 1, 1, 1, 1, 1, 1, 1, 1, 0, 1, 0, 0] (bodyOf Tryd.f3)) Tryd.f3.ntmps :=
  loopBody base_ [(19, E19)] ⟨e19, trivial⟩ [] trivial 0 P3_l3 O3_l3 (fun s => F3_s3 s.1 s.2.1 s.2.2.1 s.2.2.2.1 s.2.2.2.2.1 s.2.2.2.2.2.1 s.2.2.2.2.2.2.1 s.2.2.2.2.2.2.2) (.seq none .none (.seq none (.block (.seq none .none (.seq (some J3_j4) .none .none))) .none)) [] (by kernel_rfl) (by kernel_rfl) (by kernel_rfl) (by kernel_rfl) trivial
abbrev J3_j2 : Jn Bool := ⟨⟨[3, 5, 6, 7, 10, 91], [1000], 1001, ⟨[.data (.slice (.int .i64)), .data (.int .u8), .data .str, .data (.int .i64), .own 0, .data .bool], [.row false 3 (.int .i64)]⟩⟩, (fun s => F3_j2 s.1 s.2.1 s.2.2.1 s.2.2.2.1 s.2.2.2.2.1 s.2.2.2.2.2)⟩
abbrev J3_j1 : Jn Bool := ⟨⟨[3, 4, 5, 6, 44], [], 1000, ⟨[.data (.slice (.int .i64)), .data (.int .u8), .data (.int .u8), .data .str, .data .bool], []⟩⟩, (fun s => F3_j1 s.1 s.2.1 s.2.2.1 s.2.2.2.1 s.2.2.2.2)⟩
def E3 : Entry := ⟨⟨[.bor tyGone], []⟩, ⟨[.data .bool], []⟩, (fun s => F3 s)⟩
theorem e3 : EntryOK Tryd.prog 3 E3 :=
  entryBody base_ [(12, E12), (13, E13), (15, E15), (16, E16), (17, E17), (18, E18), (20, E20), (14, E14)] ⟨e12, e13, e15, e16, e17, e18, e20, e14, trivial⟩ [] trivial 0 E3 (.seq none .none (.seq none .none (.seq none (.seq (some J3_j1) .none .none) (.seq none .none (.seq none .none (.seq none .none (.seq none .none (.seq none (.seq (some J3_j2) .none .none) (.seq none .none (.seq none .none (.seq none (.seq none .none (.block (.loop L3_l3))) .none))))))))))) [(L3_l3, sub [1, 1, 1, 1, 1, 1, 1, 1, 1, 1, 0, 1, 0, 0] (bodyOf Tryd.f3))] Tryd.func3 (by kernel_rfl) (by kernel_rfl) (by kernel_rfl) (by kernel_rfl) ⟨l3_l3, trivial⟩

abbrev J4_j1 : Jn Bool := ⟨⟨[2, 7, 8, 41], [1000], 1001, ⟨[.data .str, .data (.int .i64), .own 0, .data .bool], [.row false 68 tyPoint]⟩⟩, (fun s => F4_j1 s.1 s.2.1 s.2.2.1 s.2.2.2)⟩
def E4 : Entry := ⟨⟨[.bor (.int .u8), .bor (.int .u8), .bor .str], []⟩, ⟨[.data .bool], []⟩, (fun s => F4 s.1 s.2.1 s.2.2)⟩
theorem e4 : EntryOK Tryd.prog 4 E4 :=
  entryBody base_ [(13, E13), (16, E16), (18, E18), (17, E17), (20, E20), (15, E15)] ⟨e13, e16, e18, e17, e20, e15, trivial⟩ [] trivial 0 E4 (.seq none .none (.seq none .none (.seq none .none (.seq none .none (.seq none (.seq (some J4_j1) .none .none) .none))))) [] Tryd.func4 (by kernel_rfl) (by kernel_rfl) (by kernel_rfl) (by kernel_rfl) trivial

abbrev P52_l1 : CPat := ⟨[0, 3], [], 0, ⟨[.data .str, .data (.int .i64)], []⟩⟩
abbrev O52_l1 : List (Ex × CPat) := [(.ret, ⟨[2], [], 0, ⟨[.data .bool], []⟩⟩), ((.exit 0), ⟨[0], [], 0, ⟨[.data .str], []⟩⟩)]
def L52_l1 : LoopE := ⟨P52_l1, O52_l1, loopN (fun s => F52_s1 s.1 s.2)⟩
theorem l52_l1 : LoopOK Tryd.prog L52_l1 (sub [1, 0, 1, 0, 0] (bodyOf Tryd.f52)) Tryd.f52.ntmps :=
  loopBody base_ [] trivial [] trivial 0 P52_l1 O52_l1 (fun s => F52_s1 s.1 s.2) .none [] (by kernel_rfl) (by kernel_rfl) (by kernel_rfl) (by kernel_rfl) trivial
def E52 : Entry := ⟨⟨[.bor .str], []⟩, ⟨[.data .bool], []⟩, (fun s => F52 s)⟩
theorem e52 : EntryOK Tryd.prog 52 E52 :=
  entryBody base_ [] trivial [] trivial 0 E52 (.seq none .none (.seq none (.seq none .none (.block (.loop L52_l1))) .none)) [(L52_l1, sub [1, 0, 1, 0, 0] (bodyOf Tryd.f52))] Tryd.func52 (by kernel_rfl) (by kernel_rfl) (by kernel_rfl) (by kernel_rfl) ⟨l52_l1, trivial⟩

abbrev P35_l1 : CPat := ⟨[0, 3], [], 0, ⟨[.data (.slice .str), .data (.int .i64)], []⟩⟩
abbrev O35_l1 : List (Ex × CPat) := [(.ret, ⟨[2], [], 0, ⟨[.data .bool], []⟩⟩), ((.exit 0), ⟨[0], [], 0, ⟨[.data (.slice .str)], []⟩⟩)]
def L35_l1 : LoopE := ⟨P35_l1, O35_l1, loopN (fun s => F35_s1 s.1 s.2)⟩
theorem l35_l1 : LoopOK Tryd.prog L35_l1 (sub [1, 0, 1, 0, 0] (bodyOf Tryd.f35)) Tryd.f35.ntmps :=
  loopBody base_ [(52, E52)] ⟨e52, trivial⟩ [] trivial 0 P35_l1 O35_l1 (fun s => F35_s1 s.1 s.2) .none [] (by kernel_rfl) (by kernel_rfl) (by kernel_rfl) (by kernel_rfl) trivial
def E35 : Entry := ⟨⟨[.bor (.slice .str)], []⟩, ⟨[.data .bool], []⟩, (fun s => F35 s)⟩
theorem e35 : EntryOK Tryd.prog 35 E35 :=
  entryBody base_ [] trivial [] trivial 0 E35 (.seq none .none (.seq none (.seq none .none (.block (.loop L35_l1))) .none)) [(L35_l1, sub [1, 0, 1, 0, 0] (bodyOf Tryd.f35))] Tryd.func35 (by kernel_rfl) (by kernel_rfl) (by kernel_rfl) (by kernel_rfl) ⟨l35_l1, trivial⟩

def E21 : Entry := ⟨⟨[.bor tyAsk], []⟩, ⟨[.data .bool], []⟩, (fun s => F21 s)⟩
theorem e21 : EntryOK Tryd.prog 21 E21 :=
  entryBody base_ [(14, E14), (35, E35)] ⟨e14, e35, trivial⟩ [] trivial 0 E21 .none [] Tryd.func21 (by kernel_rfl) (by kernel_rfl) (by kernel_rfl) (by kernel_rfl) trivial

abbrev J24_j1 : Jn (Int × Int) := ⟨⟨[0, 1, 19], [], 1000, ⟨[.data (.int .i64), .data (.int .i64), .data .bool], []⟩⟩, (fun s => F24_j1 s.1 s.2.1 s.2.2)⟩
def E24 : Entry := ⟨⟨[.bor (.int .i64), .bor (.int .i64)], []⟩, ⟨[.data (.int .i64), .data (.int .i64)], []⟩, (fun s => F24 s.1 s.2)⟩
theorem e24 : EntryOK Tryd.prog 24 E24 :=
  entryBody base_ [] trivial [] trivial 0 E24 (.seq none .none (.seq none (.seq (some J24_j1) .none .none) .none)) [] Tryd.func24 (by kernel_rfl) (by kernel_rfl) (by kernel_rfl) (by kernel_rfl) trivial

abbrev P51_l1 : CPat := ⟨[0, 6], [0], 1, ⟨[.data .str, .iter 0], [.iter]⟩⟩
abbrev O51_l1 : List (Ex × CPat) := [(.ret, ⟨[2], [], 0, ⟨[.data .bool], [.gone]⟩⟩), ((.exit 0), ⟨[0], [], 0, ⟨[.data .str], [.gone]⟩⟩)]
def L51_l1 : LoopE := ⟨P51_l1, O51_l1, loopN (fun s => F51_s1 s.1 s.2.1 s.2.2)⟩
theorem l51_l1 : LoopOK Tryd.prog L51_l1 (sub [1, 0, 1, 0, 0] (bodyOf Tryd.f51)) Tryd.f51.ntmps :=
  loopBody base_ [] trivial [] trivial 0 P51_l1 O51_l1 (fun s => F51_s1 s.1 s.2.1 s.2.2) .none [] (by kernel_rfl) (by kernel_rfl) (by kernel_rfl) (by kernel_rfl) trivial
def E51 : Entry := ⟨⟨[.bor .str], []⟩, ⟨[.data .bool], []⟩, (fun s => F51 s)⟩
theorem e51 : EntryOK Tryd.prog 51 E51 :=
  entryBody base_ [] trivial [] trivial 0 E51 (.seq none .none (.seq none (.seq none .none (.block (.loop L51_l1))) .none)) [(L51_l1, sub [1, 0, 1, 0, 0] (bodyOf Tryd.f51))] Tryd.func51 (by kernel_rfl) (by kernel_rfl) (by kernel_rfl) (by kernel_rfl) ⟨l51_l1, trivial⟩

abbrev P34_l1 : CPat := ⟨[0, 8, 9, 10], [], 0, ⟨[.data (.slice .str), .data (.slice .str), .data (.int .i64), .data (.int .i64)], []⟩⟩
abbrev O34_l1 : List (Ex × CPat) := [(.ret, ⟨[2], [], 0, ⟨[.data (.int .i64)], []⟩⟩), ((.exit 0), ⟨[], [], 0, ⟨[], []⟩⟩)]
def L34_l1 : LoopE := ⟨P34_l1, O34_l1, loopN (fun s => F34_s1 s.1 s.2.1 s.2.2.1 s.2.2.2)⟩
theorem l34_l1 : LoopOK Tryd.prog L34_l1 (sub [1, 1, 0, 1, 0, 0] (bodyOf Tryd.f34)) Tryd.f34.ntmps :=
  loopBody base_ [(51, E51)] ⟨e51, trivial⟩ [] trivial 0 P34_l1 O34_l1 (fun s => F34_s1 s.1 s.2.1 s.2.2.1 s.2.2.2) .none [] (by kernel_rfl) (by kernel_rfl) (by kernel_rfl) (by kernel_rfl) trivial
def E34 : Entry := ⟨⟨[.bor (.slice .str)], []⟩, ⟨[.data (.int .i64)], []⟩, (fun s => F34 s)⟩
theorem e34 : EntryOK Tryd.prog 34 E34 :=
  entryBody base_ [] trivial [] trivial 0 E34 (.seq none .none (.seq none .none (.seq none (.seq none .none (.block (.loop L34_l1))) .none))) [(L34_l1, sub [1, 1, 0, 1, 0, 0] (bodyOf Tryd.f34))] Tryd.func34 (by kernel_rfl) (by kernel_rfl) (by kernel_rfl) (by kernel_rfl) ⟨l34_l1, trivial⟩

abbrev P23_l2 : CPat := ⟨[8, 10, 11, 12, 14, 49, 50, 51, 64, 65, 66], [0, 1, 2], 3, ⟨[.data (.slice tyPoint), .data (.int .i64), .map 0, .own 1, .data .str, .data (.slice .str), .data (.int .i64), .data (.int .i64), .own 2, .data (.int .i64), .data (.int .i64)], [.map (.int .i64) (.int .i64), .row false 52 tyPut, .row false 3 (.int .i64)]⟩⟩
abbrev O23_l2 : List (Ex × CPat) := [((.exit 2), ⟨[8, 10, 11, 12, 49, 50, 51], [], 0, ⟨[.data (.slice tyPoint), .data (.int .i64), .map 0, .own 3, .data (.slice .str), .data (.int .i64), .data (.int .i64)], [.map (.int .i64) (.int .i64), .gone, .gone, .row false 52 tyPut]⟩⟩), ((.exit 3), ⟨[8, 10, 11, 12, 49, 50, 51], [], 0, ⟨[.data (.slice tyPoint), .data (.int .i64), .map 0, .own 3, .data (.slice .str), .data (.int .i64), .data (.int .i64)], [.map (.int .i64) (.int .i64), .gone, .gone, .row false 52 tyPut]⟩⟩)]
def L23_l2 : LoopE := ⟨P23_l2, O23_l2, loopN (fun s => F23_s2 s.1 s.2.1 s.2.2.1 s.2.2.2.1 s.2.2.2.2.1 s.2.2.2.2.2.1 s.2.2.2.2.2.2.1 s.2.2.2.2.2.2.2.1 s.2.2.2.2.2.2.2.2.1 s.2.2.2.2.2.2.2.2.2.1 s.2.2.2.2.2.2.2.2.2.2)⟩
theorem l23_l2 : LoopOK Tryd.prog L23_l2 (sub [1, 0, 1, 1, 1, 1, 1, 1, 1, 0, 1, 0, 0, 1, 1, 0, 0, 1, 1, 1, 1, 0, 0] (bodyOf Tryd.f23)) Tryd.f23.ntmps :=
  loopBody base_ [] trivial [] trivial 0 P23_l2 O23_l2 (fun s => F23_s2 s.1 s.2.1 s.2.2.1 s.2.2.2.1 s.2.2.2.2.1 s.2.2.2.2.2.1 s.2.2.2.2.2.2.1 s.2.2.2.2.2.2.2.1 s.2.2.2.2.2.2.2.2.1 s.2.2.2.2.2.2.2.2.2.1 s.2.2.2.2.2.2.2.2.2.2) .none [] (by kernel_rfl) (by kernel_rfl) (by kernel_rfl) (by kernel_rfl) trivial
abbrev P23_l1 : CPat := ⟨[8, 10, 11, 12, 49, 50, 51], [0, 1], 2, ⟨[.data (.slice tyPoint), .data (.int .i64), .map 0, .own 1, .data (.slice .str), .data (.int .i64), .data (.int .i64)], [.map (.int .i64) (.int .i64), .row false 52 tyPut]⟩⟩
abbrev O23_l1 : List (Ex × CPat) := [(.ret, ⟨[6, 7], [], 0, ⟨[.own 2, .data (.int .i64)], [.gone, .gone, .row false 52 tyPut]⟩⟩), ((.exit 1), ⟨[12], [], 0, ⟨[.own 2], [.gone, .gone, .row false 52 tyPut]⟩⟩)]
def L23_l1 : LoopE := ⟨P23_l1, O23_l1, loopN (fun s => F23_s1 s.1 s.2.1 s.2.2.1 s.2.2.2.1 s.2.2.2.2.1 s.2.2.2.2.2.1 s.2.2.2.2.2.2)⟩
theorem l23_l1 : LoopOK Tryd.prog L23_l1 (sub [1, 0, 1, 1, 1, 1, 1, 1, 1, 0, 1, 0, 0] (bodyOf Tryd.f23)) Tryd.f23.ntmps :=
  loopBody base_ [(17, E17)] ⟨e17, trivial⟩ [] trivial 0 P23_l1 O23_l1 (fun s => F23_s1 s.1 s.2.1 s.2.2.1 s.2.2.2.1 s.2.2.2.2.1 s.2.2.2.2.2.1 s.2.2.2.2.2.2) (.seq none .none (.seq none .none (.seq none (.block (.seq none .none (.seq none .none (.seq none .none (.seq none .none (.block (.loop L23_l2))))))) .none))) [(L23_l2, sub [1, 0, 1, 1, 1, 1, 1, 1, 1, 0, 1, 0, 0, 1, 1, 0, 0, 1, 1, 1, 1, 0, 0] (bodyOf Tryd.f23))] (by kernel_rfl) (by kernel_rfl) (by kernel_rfl) (by kernel_rfl) ⟨l23_l2, trivial⟩
def E23 : Entry := ⟨⟨[.data (.slice (.int .i64)), .data (.int .i64), .data (.slice .str)], []⟩, ⟨[.own 0, .data (.int .i64)], [.row false 52 tyPut]⟩, (fun s => F23 s.1 s.2.1 s.2.2)⟩
theorem e23 : EntryOK Tryd.prog 23 E23 :=
  entryBody base_ [(16, E16), (34, E34), (24, E24)] ⟨e16, e34, e24, trivial⟩ [] trivial 0 E23 (.seq none .none (.block (.seq none .none (.seq none .none (.seq none .none (.seq none .none (.seq none .none (.seq none .none (.seq none .none (.seq none (.seq none .none (.block (.loop L23_l1))) .none)))))))))) [(L23_l1, sub [1, 0, 1, 1, 1, 1, 1, 1, 1, 0, 1, 0, 0] (bodyOf Tryd.f23))] Tryd.func23 (by kernel_rfl) (by kernel_rfl) (by kernel_rfl) (by kernel_rfl) ⟨l23_l1, trivial⟩

abbrev P28_l1 : CPat := ⟨[0, 1, 5], [], 0, ⟨[.data (.slice tyPut), .data (.slice tyPut), .data (.int .i64)], []⟩⟩
abbrev O28_l1 : List (Ex × CPat) := [(.ret, ⟨[4], [], 0, ⟨[.data .bool], []⟩⟩), ((.exit 0), ⟨[], [], 0, ⟨[], []⟩⟩)]
def L28_l1 : LoopE := ⟨P28_l1, O28_l1, loopN (fun s => F28_s1 s.1 s.2.1 s.2.2)⟩
theorem l28_l1 : LoopOK Tryd.prog L28_l1 (sub [1, 1, 0, 1, 0, 0] (bodyOf Tryd.f28)) Tryd.f28.ntmps :=
  loopBody base_ [] trivial [] trivial 0 P28_l1 O28_l1 (fun s => F28_s1 s.1 s.2.1 s.2.2) .none [] (by kernel_rfl) (by kernel_rfl) (by kernel_rfl) (by kernel_rfl) trivial
def E28 : Entry := ⟨⟨[.bor (.slice tyPut), .bor (.slice tyPut)], []⟩, ⟨[.data .bool], []⟩, (fun s => F28 s.1 s.2)⟩
theorem e28 : EntryOK Tryd.prog 28 E28 :=
  entryBody base_ [] trivial [] trivial 0 E28 (.seq none .none (.seq none .none (.seq none (.seq none .none (.block (.loop L28_l1))) .none))) [(L28_l1, sub [1, 1, 0, 1, 0, 0] (bodyOf Tryd.f28))] Tryd.func28 (by kernel_rfl) (by kernel_rfl) (by kernel_rfl) (by kernel_rfl) ⟨l28_l1, trivial⟩

def E22 : Entry := ⟨⟨[], []⟩, ⟨[.data .bool], []⟩, (fun _ => F22)⟩
theorem e22 : EntryOK Tryd.prog 22 E22 :=
  entryBody base_ [(24, E24), (23, E23), (28, E28)] ⟨e24, e23, e28, trivial⟩ [] trivial 0 E22 .none [] Tryd.func22 (by kernel_rfl) (by kernel_rfl) (by kernel_rfl) (by kernel_rfl) trivial

def E45r : Entry := ⟨⟨[.bor (.int .i64)], []⟩, ⟨[.data .str], []⟩, (fun s => F45r s)⟩
theorem e45r : EntryOK Tryd.prog 45 E45r :=
  entryBody base_ [] trivial [] trivial 0 E45r .none [] Tryd.func45 (by kernel_rfl) (by kernel_rfl) (by kernel_rfl) (by kernel_rfl) trivial

def E45 : Entry := ⟨⟨[.bor (.int .i64)], []⟩, ⟨[.data .str], []⟩, (fun s => F45 s)⟩
theorem e45 : EntryOK Tryd.prog 45 E45 :=
  entryBody base_ [(45, E45r)] ⟨e45r, trivial⟩ [] trivial 0 E45 .none [] Tryd.func45 (by kernel_rfl) (by kernel_rfl) (by kernel_rfl) (by kernel_rfl) trivial

def E46 : Entry := ⟨⟨[.bor tyPoint, .bor tyPoint], []⟩, ⟨[.data .bool], []⟩, (fun s => F46 s.1 s.2)⟩
theorem e46 : EntryOK Tryd.prog 46 E46 :=
  entryBody base_ [] trivial [] trivial 0 E46 .none [] Tryd.func46 (by kernel_rfl) (by kernel_rfl) (by kernel_rfl) (by kernel_rfl) trivial

abbrev P25_l3 : CPat := ⟨[0, 1, 5, 6, 7, 8, 9], [0], 1, ⟨[.data (.slice (.int .i64)), .data (.int .i64), .data (.slice tyPoint), .data (.int .i64), .data (.int .i64), .ptr 0 0, .data (.int .i64)], [.var true 3 [.data (.int .u64), .data (.int .i64), .data (.int .i64)]]⟩⟩
abbrev O25_l3 : List (Ex × CPat) := [((.exit 4), ⟨[0, 1, 5, 6, 7, 8, 9], [], 0, ⟨[.data (.slice (.int .i64)), .data (.int .i64), .data (.slice tyPoint), .data (.int .i64), .data (.int .i64), .ptr 0 0, .data (.int .i64)], [.var true 3 [.data (.int .u64), .data (.int .i64), .data (.int .i64)]]⟩⟩)]
def L25_l3 : LoopE := ⟨P25_l3, O25_l3, loopN (fun s => F25_s3 s.1 s.2.1 s.2.2.1 s.2.2.2.1 s.2.2.2.2.1 s.2.2.2.2.2.1 s.2.2.2.2.2.2.1 s.2.2.2.2.2.2.2.1 s.2.2.2.2.2.2.2.2)⟩
theorem l25_l3 : LoopOK Tryd.prog L25_l3 (sub [1, 1, 0, 1, 0, 0, 1, 0, 0, 1, 0, 0, 1, 0, 0, 1, 1, 0, 0, 0] (bodyOf Tryd.f25)) Tryd.f25.ntmps :=
  loopBody base_ [(46, E46)] ⟨e46, trivial⟩ [] trivial 0 P25_l3 O25_l3 (fun s => F25_s3 s.1 s.2.1 s.2.2.1 s.2.2.2.1 s.2.2.2.2.1 s.2.2.2.2.2.1 s.2.2.2.2.2.2.1 s.2.2.2.2.2.2.2.1 s.2.2.2.2.2.2.2.2) .none [] (by kernel_rfl) (by kernel_rfl) (by kernel_rfl) (by kernel_rfl) trivial
abbrev P25_l2 : CPat := ⟨[0, 1, 5, 6, 7], [], 0, ⟨[.data (.slice (.int .i64)), .data (.int .i64), .data (.slice tyPoint), .data (.int .i64), .data (.int .i64)], []⟩⟩
abbrev O25_l2 : List (Ex × CPat) := [((.exit 2), ⟨[0, 1, 5, 6], [], 0, ⟨[.data (.slice (.int .i64)), .data (.int .i64), .data (.slice tyPoint), .data (.int .i64)], []⟩⟩)]
def L25_l2 : LoopE := ⟨P25_l2, O25_l2, loopN (fun s => F25_s2 s.1 s.2.1 s.2.2.1 s.2.2.2.1 s.2.2.2.2)⟩
theorem l25_l2 : LoopOK Tryd.prog L25_l2 (sub [1, 1, 0, 1, 0, 0, 1, 0, 0, 1, 0, 0] (bodyOf Tryd.f25)) Tryd.f25.ntmps :=
  loopBody base_ [(45, E45), (38, E38)] ⟨e45, e38, trivial⟩ [] trivial 0 P25_l2 O25_l2 (fun s => F25_s2 s.1 s.2.1 s.2.2.1 s.2.2.2.1 s.2.2.2.2) (.seq none .none (.seq none (.block (.seq none .none (.seq none .none (.seq none (.block (.loop L25_l3)) .none)))) .none)) [(L25_l3, sub [1, 1, 0, 1, 0, 0, 1, 0, 0, 1, 0, 0, 1, 0, 0, 1, 1, 0, 0, 0] (bodyOf Tryd.f25))] (by kernel_rfl) (by kernel_rfl) (by kernel_rfl) (by kernel_rfl) ⟨l25_l3, trivial⟩
abbrev P25_l1 : CPat := ⟨[0, 1, 5, 6], [], 0, ⟨[.data (.slice (.int .i64)), .data (.int .i64), .data (.slice tyPoint), .data (.int .i64)], []⟩⟩
abbrev O25_l1 : List (Ex × CPat) := [((.exit 0), ⟨[5], [], 0, ⟨[.data (.slice tyPoint)], []⟩⟩)]
def L25_l1 : LoopE := ⟨P25_l1, O25_l1, loopN (fun s => F25_s1 s.1 s.2.1 s.2.2.1 s.2.2.2)⟩
theorem l25_l1 : LoopOK Tryd.prog L25_l1 (sub [1, 1, 0, 1, 0, 0] (bodyOf Tryd.f25)) Tryd.f25.ntmps :=
  loopBody base_ [] trivial [] trivial 0 P25_l1 O25_l1 (fun s => F25_s1 s.1 s.2.1 s.2.2.1 s.2.2.2) (.seq none .none (.seq none (.block (.seq none .none (.block (.loop L25_l2)))) .none)) [(L25_l2, sub [1, 1, 0, 1, 0, 0, 1, 0, 0, 1, 0, 0] (bodyOf Tryd.f25))] (by kernel_rfl) (by kernel_rfl) (by kernel_rfl) (by kernel_rfl) ⟨l25_l2, trivial⟩
def E25 : Entry := ⟨⟨[.data (.slice (.int .i64)), .data (.int .i64)], []⟩, ⟨[.data (.slice tyPoint)], []⟩, (fun s => F25 s.1 s.2)⟩
theorem e25 : EntryOK Tryd.prog 25 E25 :=
  entryBody base_ [] trivial [] trivial 0 E25 (.seq none .none (.seq none .none (.seq none (.seq none .none (.block (.loop L25_l1))) .none))) [(L25_l1, sub [1, 1, 0, 1, 0, 0] (bodyOf Tryd.f25))] Tryd.func25 (by kernel_rfl) (by kernel_rfl) (by kernel_rfl) (by kernel_rfl) ⟨l25_l1, trivial⟩

abbrev P47_l1 : CPat := ⟨[0, 5, 6], [], 0, ⟨[.data (.slice tyPoint), .data (.int .u64), .data (.int .i64)], []⟩⟩
abbrev O47_l1 : List (Ex × CPat) := [(.ret, ⟨[4], [], 0, ⟨[.data (.int .i64)], []⟩⟩), ((.exit 0), ⟨[], [], 0, ⟨[], []⟩⟩)]
def L47_l1 : LoopE := ⟨P47_l1, O47_l1, loopN (fun s => F47_s1 s.1 s.2.1 s.2.2)⟩
theorem l47_l1 : LoopOK Tryd.prog L47_l1 (sub [1, 1, 0, 1, 0, 0] (bodyOf Tryd.f47)) Tryd.f47.ntmps :=
  loopBody base_ [] trivial [] trivial 0 P47_l1 O47_l1 (fun s => F47_s1 s.1 s.2.1 s.2.2) .none [] (by kernel_rfl) (by kernel_rfl) (by kernel_rfl) (by kernel_rfl) trivial
def E47 : Entry := ⟨⟨[.bor (.slice tyPoint), .bor .str], []⟩, ⟨[.data (.int .i64)], []⟩, (fun s => F47 s.1 s.2)⟩
theorem e47 : EntryOK Tryd.prog 47 E47 :=
  entryBody base_ [(38, E38)] ⟨e38, trivial⟩ [] trivial 0 E47 (.seq none .none (.seq none .none (.seq none (.seq none .none (.block (.loop L47_l1))) .none))) [(L47_l1, sub [1, 1, 0, 1, 0, 0] (bodyOf Tryd.f47))] Tryd.func47 (by kernel_rfl) (by kernel_rfl) (by kernel_rfl) (by kernel_rfl) ⟨l47_l1, trivial⟩

abbrev P26_l1 : CPat := ⟨[0, 5, 6, 7], [0], 1, ⟨[.data (.slice tyPoint), .own 0, .data (.int .i64), .data (.int .i64)], [.row false 3 (.int .i64)]⟩⟩
abbrev O26_l1 : List (Ex × CPat) := [((.exit 0), ⟨[5], [], 0, ⟨[.own 1], [.gone, .row false 3 (.int .i64)]⟩⟩)]
def L26_l1 : LoopE := ⟨P26_l1, O26_l1, loopN (fun s => F26_s1 s.1 s.2.1 s.2.2.1 s.2.2.2)⟩
theorem l26_l1 : LoopOK Tryd.prog L26_l1 (sub [1, 1, 1, 0, 1, 0, 0] (bodyOf Tryd.f26)) Tryd.f26.ntmps :=
  loopBody base_ [(19, E19)] ⟨e19, trivial⟩ [] trivial 0 P26_l1 O26_l1 (fun s => F26_s1 s.1 s.2.1 s.2.2.1 s.2.2.2) .none [] (by kernel_rfl) (by kernel_rfl) (by kernel_rfl) (by kernel_rfl) trivial
def E26 : Entry := ⟨⟨[.data (.slice tyPoint), .data .str], []⟩, ⟨[.own 0], [.row false 3 (.int .i64)]⟩, (fun s => F26 s.1 s.2)⟩
theorem e26 : EntryOK Tryd.prog 26 E26 :=
  entryBody base_ [(47, E47)] ⟨e47, trivial⟩ [] trivial 0 E26 (.seq none .none (.seq none .none (.seq none .none (.seq none (.seq none .none (.block (.loop L26_l1))) .none)))) [(L26_l1, sub [1, 1, 1, 0, 1, 0, 0] (bodyOf Tryd.f26))] Tryd.func26 (by kernel_rfl) (by kernel_rfl) (by kernel_rfl) (by kernel_rfl) ⟨l26_l1, trivial⟩

abbrev P27_l1 : CPat := ⟨[0, 1, 5, 6], [], 0, ⟨[.data (.slice tyPut), .data (.int .i64), .data (.int .i64), .data (.int .i64)], []⟩⟩
abbrev O27_l1 : List (Ex × CPat) := [((.exit 0), ⟨[5], [], 0, ⟨[.data (.int .i64)], []⟩⟩)]
def L27_l1 : LoopE := ⟨P27_l1, O27_l1, loopN (fun s => F27_s1 s.1 s.2.1 s.2.2.1 s.2.2.2)⟩
theorem l27_l1 : LoopOK Tryd.prog L27_l1 (sub [1, 1, 0, 1, 0, 0] (bodyOf Tryd.f27)) Tryd.f27.ntmps :=
  loopBody base_ [] trivial [] trivial 0 P27_l1 O27_l1 (fun s => F27_s1 s.1 s.2.1 s.2.2.1 s.2.2.2) .none [] (by kernel_rfl) (by kernel_rfl) (by kernel_rfl) (by kernel_rfl) trivial
def E27 : Entry := ⟨⟨[.bor (.slice tyPut), .bor (.int .i64)], []⟩, ⟨[.data (.int .i64)], []⟩, (fun s => F27 s.1 s.2)⟩
theorem e27 : EntryOK Tryd.prog 27 E27 :=
  entryBody base_ [] trivial [] trivial 0 E27 (.seq none .none (.seq none .none (.seq none (.seq none .none (.block (.loop L27_l1))) .none))) [(L27_l1, sub [1, 1, 0, 1, 0, 0] (bodyOf Tryd.f27))] Tryd.func27 (by kernel_rfl) (by kernel_rfl) (by kernel_rfl) (by kernel_rfl) ⟨l27_l1, trivial⟩

abbrev P5_l3 : CPat := ⟨[3, 5, 7, 8, 9, 10], [0, 1], 2, ⟨[.own 0, .data (.int .i64), .data (.slice tyPoint), .data (.int .i64), .own 1, .data (.int .i64)], [.row false 52 tyPut, .row false 3 (.int .i64)]⟩⟩
abbrev O5_l3 : List (Ex × CPat) := [(.ret, ⟨[2], [], 0, ⟨[.data .bool], [.gone, .gone]⟩⟩), ((.exit 2), ⟨[3, 5, 7, 8], [], 0, ⟨[.own 2, .data (.int .i64), .data (.slice tyPoint), .data (.int .i64)], [.gone, .gone, .row false 52 tyPut]⟩⟩)]
def L5_l3 : LoopE := ⟨P5_l3, O5_l3, loopN (fun s => F5_s3 s.1 s.2.1 s.2.2.1 s.2.2.2.1 s.2.2.2.2.1 s.2.2.2.2.2)⟩
theorem l5_l3 : LoopOK Tryd.prog L5_l3 (sub [1, 1, 1, 1, 1, 1, 0, 1, 0, 0, 1, 0, 0, 1, 1, 0, 0] (bodyOf Tryd.f5)) Tryd.f5.ntmps :=
  loopBody base_ [(27, E27)] ⟨e27, trivial⟩ [] trivial 0 P5_l3 O5_l3 (fun s => F5_s3 s.1 s.2.1 s.2.2.1 s.2.2.2.1 s.2.2.2.2.1 s.2.2.2.2.2) .none [] (by kernel_rfl) (by kernel_rfl) (by kernel_rfl) (by kernel_rfl) trivial
abbrev P5_l2 : CPat := ⟨[3, 5, 7, 8], [0], 1, ⟨[.own 0, .data (.int .i64), .data (.slice tyPoint), .data (.int .i64)], [.row false 52 tyPut]⟩⟩
abbrev O5_l2 : List (Ex × CPat) := [(.ret, ⟨[2], [], 0, ⟨[.data .bool], [.gone]⟩⟩), ((.exit 0), ⟨[], [], 0, ⟨[], [.gone]⟩⟩)]
def L5_l2 : LoopE := ⟨P5_l2, O5_l2, loopN (fun s => F5_s2 s.1 s.2.1 s.2.2.1 s.2.2.2)⟩
theorem l5_l2 : LoopOK Tryd.prog L5_l2 (sub [1, 1, 1, 1, 1, 1, 0, 1, 0, 0] (bodyOf Tryd.f5)) Tryd.f5.ntmps :=
  loopBody base_ [(26, E26)] ⟨e26, trivial⟩ [] trivial 0 P5_l2 O5_l2 (fun s => F5_s2 s.1 s.2.1 s.2.2.1 s.2.2.2) (.seq none .none (.seq none (.block (.seq none .none (.seq none .none (.block (.loop L5_l3))))) .none)) [(L5_l3, sub [1, 1, 1, 1, 1, 1, 0, 1, 0, 0, 1, 0, 0, 1, 1, 0, 0] (bodyOf Tryd.f5))] (by kernel_rfl) (by kernel_rfl) (by kernel_rfl) (by kernel_rfl) ⟨l5_l3, trivial⟩
abbrev J5_j1 : Jn Bool := ⟨⟨[1, 3, 5, 40], [0, 1001], 1002, ⟨[.ptr 0 0, .own 1, .data (.int .i64), .data .bool], [.var true 5 [.data (.slice (.int .i64)), .data (.int .i64), .data (.slice .str), .data (.slice tyPut), .data (.int .i64)], .row false 52 tyPut]⟩⟩, (fun s => F5_j1 s.1 s.2.1 s.2.2.1 s.2.2.2.1 s.2.2.2.2.1 s.2.2.2.2.2.1 s.2.2.2.2.2.2.1 s.2.2.2.2.2.2.2)⟩
def E5 : Entry := ⟨⟨[.bor tyAsk], []⟩, ⟨[.data .bool], []⟩, (fun s => F5 s)⟩
theorem e5 : EntryOK Tryd.prog 5 E5 :=
  entryBody base_ [(21, E21), (22, E22), (23, E23), (24, E24), (25, E25)] ⟨e21, e22, e23, e24, e25, trivial⟩ [] trivial 0 E5 (.seq none .none (.seq none .none (.seq none .none (.seq none .none (.seq none (.seq (some J5_j1) .none .none) (.seq none .none (.seq none (.seq none .none (.block (.loop L5_l2))) .none))))))) [(L5_l2, sub [1, 1, 1, 1, 1, 1, 0, 1, 0, 0] (bodyOf Tryd.f5))] Tryd.func5 (by kernel_rfl) (by kernel_rfl) (by kernel_rfl) (by kernel_rfl) ⟨l5_l2, trivial⟩

abbrev J6_j3 : Jn Bool := ⟨⟨[2, 9, 86], [0, 1001], 1002, ⟨[.ptr 0 0, .own 1, .data .bool], [.var true 5 [.data (.slice (.int .i64)), .data (.int .i64), .data (.slice .str), .data (.slice tyPut), .data (.int .i64)], .row false 52 tyPut]⟩⟩, (fun s => F6_j3 s.1 s.2.1 s.2.2.1 s.2.2.2.1 s.2.2.2.2.1 s.2.2.2.2.2.1 s.2.2.2.2.2.2)⟩
abbrev J6_j2 : Jn Bool := ⟨⟨[2, 65], [0], 1000, ⟨[.ptr 0 0, .data .bool], [.var true 5 [.data (.slice (.int .i64)), .data (.int .i64), .data (.slice .str), .data (.slice tyPut), .data (.int .i64)]]⟩⟩, (fun s => F6_j2 s.1 s.2.1 s.2.2.1 s.2.2.2.1 s.2.2.2.2.1 s.2.2.2.2.2)⟩
abbrev J6_j1 : Jn Bool := ⟨⟨[1, 2, 19], [0], 1000, ⟨[.data (.int .u8), .ptr 0 0, .data .bool], [.var true 5 [.data (.slice (.int .i64)), .data (.int .i64), .data (.slice .str), .data (.slice tyPut), .data (.int .i64)]]⟩⟩, (fun s => F6_j1 s.1 s.2.1 s.2.2.1 s.2.2.2.1 s.2.2.2.2.1 s.2.2.2.2.2.1 s.2.2.2.2.2.2)⟩
def E6 : Entry := ⟨⟨[.bor tyAsk, .bor (.int .u8)], []⟩, ⟨[.data .bool], []⟩, (fun s => F6 s.1 s.2)⟩
theorem e6 : EntryOK Tryd.prog 6 E6 :=
  entryBody base_ [(21, E21), (22, E22), (23, E23), (25, E25), (26, E26), (27, E27)] ⟨e21, e22, e23, e25, e26, e27, trivial⟩ [] trivial 0 E6 (.seq none .none (.seq none (.seq (some J6_j1) .none .none) (.seq none .none (.seq none .none (.seq none .none (.seq none (.seq (some J6_j2) .none .none) (.seq none .none (.seq none (.seq (some J6_j3) .none .none) .none)))))))) [] Tryd.func6 (by kernel_rfl) (by kernel_rfl) (by kernel_rfl) (by kernel_rfl) trivial

abbrev J7_j2 : Jn Bool := ⟨⟨[3, 4, 6, 8, 10, 96], [1000, 1001], 1002, ⟨[.data (.int .i64), .own 0, .own 1, .data (.int .i64), .data (.int .i64), .data .bool], [.row false 52 tyPut, .row false 52 tyPut]⟩⟩, (fun s => F7_j2 s.1 s.2.1 s.2.2.1 s.2.2.2.1 s.2.2.2.2.1 s.2.2.2.2.2)⟩
abbrev J7_j1 : Jn Bool := ⟨⟨[1, 20], [0], 1000, ⟨[.ptr 0 0, .data .bool], [.var true 5 [.data (.slice (.int .i64)), .data (.int .i64), .data (.slice .str), .data (.slice tyPut), .data (.int .i64)]]⟩⟩, (fun s => F7_j1 s.1 s.2.1 s.2.2.1 s.2.2.2.1 s.2.2.2.2.1 s.2.2.2.2.2)⟩
def E7 : Entry := ⟨⟨[.bor tyAsk], []⟩, ⟨[.data .bool], []⟩, (fun s => F7 s)⟩
theorem e7 : EntryOK Tryd.prog 7 E7 :=
  entryBody base_ [(21, E21), (22, E22), (23, E23), (24, E24), (28, E28)] ⟨e21, e22, e23, e24, e28, trivial⟩ [] trivial 0 E7 (.seq none .none (.seq none (.seq (some J7_j1) .none .none) (.seq none .none (.seq none .none (.seq none .none (.seq none .none (.seq none .none (.seq none (.seq (some J7_j2) .none .none) .none)))))))) [] Tryd.func7 (by kernel_rfl) (by kernel_rfl) (by kernel_rfl) (by kernel_rfl) trivial

def E8 : Entry := ⟨⟨[.bor (.int .u8), .bor (.int .u8)], []⟩, ⟨[.data .bool], []⟩, (fun s => F8 s.1 s.2)⟩
theorem e8 : EntryOK Tryd.prog 8 E8 :=
  entryBody base_ [(24, E24), (22, E22)] ⟨e24, e22, trivial⟩ [] trivial 0 E8 .none [] Tryd.func8 (by kernel_rfl) (by kernel_rfl) (by kernel_rfl) (by kernel_rfl) trivial

abbrev J29_j2 : Jn (((List ByteArray) × Int × (List ByteArray)) ⊕ (List ByteArray)) := ⟨⟨[0, 3, 4, 13], [1000], 1001, ⟨[.data (.slice .str), .own 0, .data (.int .i64), .data .bool], [.row false 9 .str]⟩⟩, (fun s => F29_j2 s.1 s.2.1 s.2.2.1 s.2.2.2)⟩
abbrev P29_l1 : CPat := ⟨[0, 3, 4], [0], 1, ⟨[.data (.slice .str), .own 0, .data (.int .i64)], [.row false 9 .str]⟩⟩
abbrev O29_l1 : List (Ex × CPat) := [((.exit 0), ⟨[3], [], 0, ⟨[.own 1], [.gone, .row false 9 .str]⟩⟩)]
def L29_l1 : LoopE := ⟨P29_l1, O29_l1, loopN (fun s => F29_s1 s.1 s.2.1 s.2.2)⟩
theorem l29_l1 : LoopOK Tryd.prog L29_l1 (sub [1, 1, 0, 1, 0, 0] (bodyOf Tryd.f29)) Tryd.f29.ntmps :=
  loopBody base_ [] trivial [] trivial 0 P29_l1 O29_l1 (fun s => F29_s1 s.1 s.2.1 s.2.2) (.seq none (.seq (some J29_j2) .none .none) .none) [] (by kernel_rfl) (by kernel_rfl) (by kernel_rfl) (by kernel_rfl) trivial
def E29 : Entry := ⟨⟨[.data (.slice .str)], []⟩, ⟨[.own 0], [.row false 9 .str]⟩, (fun s => F29 s)⟩
theorem e29 : EntryOK Tryd.prog 29 E29 :=
  entryBody base_ [] trivial [] trivial 0 E29 (.seq none .none (.seq none .none (.seq none (.seq none .none (.block (.loop L29_l1))) .none))) [(L29_l1, sub [1, 1, 0, 1, 0, 0] (bodyOf Tryd.f29))] Tryd.func29 (by kernel_rfl) (by kernel_rfl) (by kernel_rfl) (by kernel_rfl) ⟨l29_l1, trivial⟩

abbrev P33_l1 : CPat := ⟨[3, 6, 7, 8], [0], 1, ⟨[.own 0, .data (.slice tyPut), .data (.int .i64), .data (.int .i64)], [.row false 9 .str]⟩⟩
abbrev O33_l1 : List (Ex × CPat) := [(.ret, ⟨[2], [], 0, ⟨[.data (.int .i64)], [.gone]⟩⟩), ((.exit 0), ⟨[3], [], 0, ⟨[.own 1], [.gone, .row false 9 .str]⟩⟩)]
def L33_l1 : LoopE := ⟨P33_l1, O33_l1, loopN (fun s => F33_s1 s.1 s.2.1 s.2.2.1 s.2.2.2)⟩
theorem l33_l1 : LoopOK Tryd.prog L33_l1 (sub [1, 1, 0, 1, 0, 0] (bodyOf Tryd.f33)) Tryd.f33.ntmps :=
  loopBody base_ [] trivial [] trivial 0 P33_l1 O33_l1 (fun s => F33_s1 s.1 s.2.1 s.2.2.1 s.2.2.2) .none [] (by kernel_rfl) (by kernel_rfl) (by kernel_rfl) (by kernel_rfl) trivial
def E33 : Entry := ⟨⟨[.bor (.slice tyPut)], []⟩, ⟨[.data (.int .i64)], []⟩, (fun s => F33 s)⟩
theorem e33 : EntryOK Tryd.prog 33 E33 :=
  entryBody base_ [(34, E34)] ⟨e34, trivial⟩ [] trivial 0 E33 (.seq none .none (.seq none .none (.seq none (.seq none .none (.block (.loop L33_l1))) .none))) [(L33_l1, sub [1, 1, 0, 1, 0, 0] (bodyOf Tryd.f33))] Tryd.func33 (by kernel_rfl) (by kernel_rfl) (by kernel_rfl) (by kernel_rfl) ⟨l33_l1, trivial⟩

def E66 : Entry := ⟨⟨[.bor .str], []⟩, ⟨[.data .bool], []⟩, (fun s => F66 s)⟩
theorem e66 : EntryOK Tryd.prog 66 E66 :=
  entryBody base_ [] trivial [] trivial 0 E66 .none [] Tryd.func66 (by kernel_rfl) (by kernel_rfl) (by kernel_rfl) (by kernel_rfl) trivial

def E50 : Entry := ⟨⟨[.bor .str, .bor .str], []⟩, ⟨[.data (.int .i64)], []⟩, (fun s => F50 s.1 s.2)⟩
theorem e50 : EntryOK Tryd.prog 50 E50 :=
  entryBody base_ [(66, E66)] ⟨e66, trivial⟩ [] trivial 0 E50 .none [] Tryd.func50 (by kernel_rfl) (by kernel_rfl) (by kernel_rfl) (by kernel_rfl) trivial

def E49 : Entry := ⟨⟨[.bor tyPut, .bor .str], []⟩, ⟨[.data (.int .i64)], []⟩, (fun s => F49 s.1 s.2)⟩
theorem e49 : EntryOK Tryd.prog 49 E49 :=
  entryBody base_ [(50, E50)] ⟨e50, trivial⟩ [] trivial 0 E49 .none [] Tryd.func49 (by kernel_rfl) (by kernel_rfl) (by kernel_rfl) (by kernel_rfl) trivial

abbrev P48_l1 : CPat := ⟨[0, 1, 2, 8, 9, 10], [], 0, ⟨[.data (.slice tyPut), .data .str, .fn 49 0 0, .data (.int .i64), .data (.int .i64), .data (.int .i64)], []⟩⟩
abbrev O48_l1 : List (Ex × CPat) := [((.exit 0), ⟨[0, 1, 2, 8, 9], [], 0, ⟨[.data (.slice tyPut), .data .str, .fn 49 0 0, .data (.int .i64), .data (.int .i64)], []⟩⟩)]
def L48_l1 : LoopE := ⟨P48_l1, O48_l1, loopN (fun s => F48_s1 s.1 s.2.1 s.2.2.1 s.2.2.2.1 s.2.2.2.2)⟩
theorem l48_l1 : LoopOK Tryd.prog L48_l1 (sub [1, 1, 1, 0, 0, 0] (bodyOf Tryd.f48)) Tryd.f48.ntmps :=
  loopBody base_ [(49, E49)] ⟨e49, trivial⟩ [] trivial 0 P48_l1 O48_l1 (fun s => F48_s1 s.1 s.2.1 s.2.2.1 s.2.2.2.1 s.2.2.2.2) .none [] (by kernel_rfl) (by kernel_rfl) (by kernel_rfl) (by kernel_rfl) trivial
def E48 : Entry := ⟨⟨[.bor (.slice tyPut), .bor .str, .fn 49 0 0], []⟩, ⟨[.data (.int .i64), .data .bool], []⟩, (fun s => F48 s.1 s.2)⟩
theorem e48 : EntryOK Tryd.prog 48 E48 :=
  entryBody base_ [(49, E49)] ⟨e49, trivial⟩ [] trivial 0 E48 (.seq none .none (.seq none .none (.seq none .none (.seq none (.block (.loop L48_l1)) .none)))) [(L48_l1, sub [1, 1, 1, 0, 0, 0] (bodyOf Tryd.f48))] Tryd.func48 (by kernel_rfl) (by kernel_rfl) (by kernel_rfl) (by kernel_rfl) ⟨l48_l1, trivial⟩

def E31 : Entry := ⟨⟨[.bor (.slice tyPut), .bor .str], []⟩, ⟨[.data (.int .i64), .data (.int .i64)], []⟩, (fun s => F31 s.1 s.2)⟩
theorem e31 : EntryOK Tryd.prog 31 E31 :=
  entryBody base_ [(33, E33), (48, E48)] ⟨e33, e48, trivial⟩ [] trivial 0 E31 .none [] Tryd.func31 (by kernel_rfl) (by kernel_rfl) (by kernel_rfl) (by kernel_rfl) trivial

abbrev J32_j2 : Jn (((List Put) × Int × (List ByteArray)) ⊕ (Bool ⊕ (List ByteArray))) := ⟨⟨[2], [], 1000, ⟨[.data .bool], []⟩⟩, (fun s => F32_j2 s)⟩
abbrev P32_l1 : CPat := ⟨[0, 3, 4], [0], 1, ⟨[.data (.slice tyPut), .own 0, .data (.int .i64)], [.row false 9 .str]⟩⟩
abbrev O32_l1 : List (Ex × CPat) := [(.ret, ⟨[2], [], 0, ⟨[.data .bool], [.gone]⟩⟩), ((.exit 0), ⟨[3], [], 0, ⟨[.own 1], [.gone, .row false 9 .str]⟩⟩)]
def L32_l1 : LoopE := ⟨P32_l1, O32_l1, loopN (fun s => F32_s1 s.1 s.2.1 s.2.2)⟩
theorem l32_l1 : LoopOK Tryd.prog L32_l1 (sub [1, 1, 0, 1, 0, 0] (bodyOf Tryd.f32)) Tryd.f32.ntmps :=
  loopBody base_ [] trivial [] trivial 0 P32_l1 O32_l1 (fun s => F32_s1 s.1 s.2.1 s.2.2) (.seq none .none (.seq none (.block (.seq none (.seq none .none (.cond (.seq (some J32_j2) .none .none) .none)) .none)) .none)) [] (by kernel_rfl) (by kernel_rfl) (by kernel_rfl) (by kernel_rfl) trivial
def E32 : Entry := ⟨⟨[.bor (.slice tyPut)], []⟩, ⟨[.data .bool], []⟩, (fun s => F32 s)⟩
theorem e32 : EntryOK Tryd.prog 32 E32 :=
  entryBody base_ [(35, E35)] ⟨e35, trivial⟩ [] trivial 0 E32 (.seq none .none (.seq none .none (.seq none (.seq none .none (.block (.loop L32_l1))) .none))) [(L32_l1, sub [1, 1, 0, 1, 0, 0] (bodyOf Tryd.f32))] Tryd.func32 (by kernel_rfl) (by kernel_rfl) (by kernel_rfl) (by kernel_rfl) ⟨l32_l1, trivial⟩

abbrev P30_l1 : CPat := ⟨[0, 1, 5], [], 0, ⟨[.data (.int .i64), .data (.int .i64), .data (.int .i64)], []⟩⟩
abbrev O30_l1 : List (Ex × CPat) := [((.exit 0), ⟨[5], [], 0, ⟨[.data (.int .i64)], []⟩⟩)]
def L30_l1 : LoopE := ⟨P30_l1, O30_l1, loopN (fun s => F30_s1 s.1 s.2.1 s.2.2)⟩
theorem l30_l1 : LoopOK Tryd.prog L30_l1 (sub [1, 1, 0, 0, 0] (bodyOf Tryd.f30)) Tryd.f30.ntmps :=
  loopBody base_ [] trivial [] trivial 0 P30_l1 O30_l1 (fun s => F30_s1 s.1 s.2.1 s.2.2) .none [] (by kernel_rfl) (by kernel_rfl) (by kernel_rfl) (by kernel_rfl) trivial
def E30 : Entry := ⟨⟨[.bor (.int .i64), .bor (.int .i64)], []⟩, ⟨[.data (.int .i64)], []⟩, (fun s => F30 s.1 s.2)⟩
theorem e30 : EntryOK Tryd.prog 30 E30 :=
  entryBody base_ [] trivial [] trivial 0 E30 (.seq none .none (.seq none .none (.seq none (.block (.loop L30_l1)) .none))) [(L30_l1, sub [1, 1, 0, 0, 0] (bodyOf Tryd.f30))] Tryd.func30 (by kernel_rfl) (by kernel_rfl) (by kernel_rfl) (by kernel_rfl) ⟨l30_l1, trivial⟩

abbrev P36_l2 : CPat := ⟨[0, 2, 7, 8, 9, 10, 11], [0, 1], 2, ⟨[.data (.slice (.int .i64)), .data (.slice .str), .data (.slice tyPoint), .own 0, .data (.int .i64), .own 1, .data (.int .i64)], [.row false 52 tyPut, .row false 3 (.int .i64)]⟩⟩
abbrev O36_l2 : List (Ex × CPat) := [((.exit 2), ⟨[0, 2, 7, 8, 9, 10, 11], [], 0, ⟨[.data (.slice (.int .i64)), .data (.slice .str), .data (.slice tyPoint), .own 2, .data (.int .i64), .own 3, .data (.int .i64)], [.gone, .gone, .row false 52 tyPut, .row false 3 (.int .i64)]⟩⟩)]
def L36_l2 : LoopE := ⟨P36_l2, O36_l2, loopN (fun s => F36_s2 s.1 s.2.1 s.2.2.1 s.2.2.2.1 s.2.2.2.2.1 s.2.2.2.2.2.1 s.2.2.2.2.2.2)⟩
theorem l36_l2 : LoopOK Tryd.prog L36_l2 (sub [1, 1, 1, 0, 1, 0, 0, 1, 0, 0, 1, 1, 0, 0, 0] (bodyOf Tryd.f36)) Tryd.f36.ntmps :=
  loopBody base_ [(27, E27), (30, E30)] ⟨e27, e30, trivial⟩ [] trivial 0 P36_l2 O36_l2 (fun s => F36_s2 s.1 s.2.1 s.2.2.1 s.2.2.2.1 s.2.2.2.2.1 s.2.2.2.2.2.1 s.2.2.2.2.2.2) .none [] (by kernel_rfl) (by kernel_rfl) (by kernel_rfl) (by kernel_rfl) trivial
abbrev P36_l1 : CPat := ⟨[0, 2, 7, 8, 9], [0], 1, ⟨[.data (.slice (.int .i64)), .data (.slice .str), .data (.slice tyPoint), .own 0, .data (.int .i64)], [.row false 52 tyPut]⟩⟩
abbrev O36_l1 : List (Ex × CPat) := [((.exit 0), ⟨[8], [], 0, ⟨[.own 1], [.gone, .row false 52 tyPut]⟩⟩)]
def L36_l1 : LoopE := ⟨P36_l1, O36_l1, loopN (fun s => F36_s1 s.1 s.2.1 s.2.2.1 s.2.2.2.1 s.2.2.2.2)⟩
theorem l36_l1 : LoopOK Tryd.prog L36_l1 (sub [1, 1, 1, 0, 1, 0, 0] (bodyOf Tryd.f36)) Tryd.f36.ntmps :=
  loopBody base_ [(26, E26)] ⟨e26, trivial⟩ [] trivial 0 P36_l1 O36_l1 (fun s => F36_s1 s.1 s.2.1 s.2.2.1 s.2.2.2.1 s.2.2.2.2) (.seq none .none (.seq none (.block (.seq none .none (.seq none .none (.seq none (.block (.loop L36_l2)) .none)))) .none)) [(L36_l2, sub [1, 1, 1, 0, 1, 0, 0, 1, 0, 0, 1, 1, 0, 0, 0] (bodyOf Tryd.f36))] (by kernel_rfl) (by kernel_rfl) (by kernel_rfl) (by kernel_rfl) ⟨l36_l2, trivial⟩
def E36 : Entry := ⟨⟨[.data (.slice (.int .i64)), .data (.int .i64), .data (.slice .str)], []⟩, ⟨[.own 0], [.row false 52 tyPut]⟩, (fun s => F36 s.1 s.2.1 s.2.2)⟩
theorem e36 : EntryOK Tryd.prog 36 E36 :=
  entryBody base_ [(25, E25)] ⟨e25, trivial⟩ [] trivial 0 E36 (.seq none .none (.seq none .none (.seq none .none (.seq none (.seq none .none (.block (.loop L36_l1))) .none)))) [(L36_l1, sub [1, 1, 1, 0, 1, 0, 0] (bodyOf Tryd.f36))] Tryd.func36 (by kernel_rfl) (by kernel_rfl) (by kernel_rfl) (by kernel_rfl) ⟨l36_l1, trivial⟩

abbrev P9_l10 : CPat := ⟨[1, 3, 4, 5, 8, 9, 10, 11, 12, 13], [0], 1, ⟨[.ptr 0 0, .data (.slice (.int .i64)), .data (.slice .str), .data (.slice tyPut), .data .str, .data (.int .i64), .data (.int .i64), .data (.int .i64), .data (.int .i64), .data (.int .i64)], [.var true 5 [.data (.slice (.int .i64)), .data (.int .i64), .data (.slice .str), .data (.slice tyPut), .data (.int .i64)]]⟩⟩
abbrev O9_l10 : List (Ex × CPat) := [((.exit 0), ⟨[1, 3, 4, 5, 9, 10, 11, 12], [], 0, ⟨[.ptr 0 0, .data (.slice (.int .i64)), .data (.slice .str), .data (.slice tyPut), .data (.int .i64), .data (.int .i64), .data (.int .i64), .data (.int .i64)], [.var true 5 [.data (.slice (.int .i64)), .data (.int .i64), .data (.slice .str), .data (.slice tyPut), .data (.int .i64)]]⟩⟩)]
def L9_l10 : LoopE := ⟨P9_l10, O9_l10, loopN (fun s => F9_s10 s.1 s.2.1 s.2.2.1 s.2.2.2.1 s.2.2.2.2.1 s.2.2.2.2.2.1 s.2.2.2.2.2.2.1 s.2.2.2.2.2.2.2.1 s.2.2.2.2.2.2.2.2.1 s.2.2.2.2.2.2.2.2.2.1 s.2.2.2.2.2.2.2.2.2.2.1 s.2.2.2.2.2.2.2.2.2.2.2.1 s.2.2.2.2.2.2.2.2.2.2.2.2.1 s.2.2.2.2.2.2.2.2.2.2.2.2.2)⟩
theorem l9_l10 : LoopOK Tryd.prog L9_l10 (sub [1, 1, 1, 1, 1, 1, 1, 1, 1, 1, 1, 1, 0, 1, 0, 0] (bodyOf Tryd.f9)) Tryd.f9.ntmps :=
  loopBody base_ [] trivial [] trivial 0 P9_l10 O9_l10 (fun s => F9_s10 s.1 s.2.1 s.2.2.1 s.2.2.2.1 s.2.2.2.2.1 s.2.2.2.2.2.1 s.2.2.2.2.2.2.1 s.2.2.2.2.2.2.2.1 s.2.2.2.2.2.2.2.2.1 s.2.2.2.2.2.2.2.2.2.1 s.2.2.2.2.2.2.2.2.2.2.1 s.2.2.2.2.2.2.2.2.2.2.2.1 s.2.2.2.2.2.2.2.2.2.2.2.2.1 s.2.2.2.2.2.2.2.2.2.2.2.2.2) .none [] (by kernel_rfl) (by kernel_rfl) (by kernel_rfl) (by kernel_rfl) trivial
abbrev J9_j14 : Jn Bool := ⟨⟨[2], [], 1000, ⟨[.data .bool], []⟩⟩, (fun s => F9_j14 s)⟩
abbrev J9_j15 : Jn Bool := ⟨⟨[2], [], 1000, ⟨[.data .bool], []⟩⟩, (fun s => F9_j15 s)⟩
abbrev J9_j13 : Jn Bool := ⟨⟨[1, 3, 4, 14, 15, 173], [0, 1001], 1002, ⟨[.ptr 0 0, .data (.slice (.int .i64)), .data (.slice .str), .own 1, .data (.int .i64), .data .bool], [.var true 5 [.data (.slice (.int .i64)), .data (.int .i64), .data (.slice .str), .data (.slice tyPut), .data (.int .i64)], .row false 52 tyPut]⟩⟩, (fun s => F9_j13 s.1 s.2.1 s.2.2.1 s.2.2.2.1 s.2.2.2.2.1 s.2.2.2.2.2.1 s.2.2.2.2.2.2.1 s.2.2.2.2.2.2.2.1 s.2.2.2.2.2.2.2.2.1 s.2.2.2.2.2.2.2.2.2)⟩
abbrev J9_j12 : Jn Bool := ⟨⟨[1, 3, 4, 147], [0], 1000, ⟨[.ptr 0 0, .data (.slice (.int .i64)), .data (.slice .str), .data .bool], [.var true 5 [.data (.slice (.int .i64)), .data (.int .i64), .data (.slice .str), .data (.slice tyPut), .data (.int .i64)]]⟩⟩, (fun s => F9_j12 s.1 s.2.1 s.2.2.1 s.2.2.2.1 s.2.2.2.2.1 s.2.2.2.2.2.1 s.2.2.2.2.2.2.1 s.2.2.2.2.2.2.2)⟩
abbrev J9_j11 : Jn Bool := ⟨⟨[1, 3, 4, 5, 9, 10, 11, 12], [0], 1000, ⟨[.ptr 0 0, .data (.slice (.int .i64)), .data (.slice .str), .data (.slice tyPut), .data (.int .i64), .data (.int .i64), .data (.int .i64), .data (.int .i64)], [.var true 5 [.data (.slice (.int .i64)), .data (.int .i64), .data (.slice .str), .data (.slice tyPut), .data (.int .i64)]]⟩⟩, (fun s => F9_j11 s.1 s.2.1 s.2.2.1 s.2.2.2.1 s.2.2.2.2.1 s.2.2.2.2.2.1 s.2.2.2.2.2.2.1 s.2.2.2.2.2.2.2.1 s.2.2.2.2.2.2.2.2.1 s.2.2.2.2.2.2.2.2.2.1 s.2.2.2.2.2.2.2.2.2.2.1 s.2.2.2.2.2.2.2.2.2.2.2)⟩
abbrev J9_j9 : Jn Bool := ⟨⟨[1, 3, 4, 5, 8], [0], 1000, ⟨[.ptr 0 0, .data (.slice (.int .i64)), .data (.slice .str), .data (.slice tyPut), .data .str], [.var true 5 [.data (.slice (.int .i64)), .data (.int .i64), .data (.slice .str), .data (.slice tyPut), .data (.int .i64)]]⟩⟩, (fun s => F9_j9 s.1 s.2.1 s.2.2.1 s.2.2.2.1 s.2.2.2.2.1 s.2.2.2.2.2.1 s.2.2.2.2.2.2.1 s.2.2.2.2.2.2.2.1 s.2.2.2.2.2.2.2.2)⟩
abbrev J9_j8 : Jn Bool := ⟨⟨[1, 3, 4, 5], [0], 1000, ⟨[.ptr 0 0, .data (.slice (.int .i64)), .data (.slice .str), .data (.slice tyPut)], [.var true 5 [.data (.slice (.int .i64)), .data (.int .i64), .data (.slice .str), .data (.slice tyPut), .data (.int .i64)]]⟩⟩, (fun s => F9_j8 s.1 s.2.1 s.2.2.1 s.2.2.2.1 s.2.2.2.2.1 s.2.2.2.2.2.1 s.2.2.2.2.2.2.1 s.2.2.2.2.2.2.2)⟩
abbrev J9_j7 : Jn Bool := ⟨⟨[1, 3, 4, 5, 79], [0], 1000, ⟨[.ptr 0 0, .data (.slice (.int .i64)), .data (.slice .str), .data (.slice tyPut), .data .bool], [.var true 5 [.data (.slice (.int .i64)), .data (.int .i64), .data (.slice .str), .data (.slice tyPut), .data (.int .i64)]]⟩⟩, (fun s => F9_j7 s.1 s.2.1 s.2.2.1 s.2.2.2.1 s.2.2.2.2.1 s.2.2.2.2.2.1 s.2.2.2.2.2.2.1 s.2.2.2.2.2.2.2.1 s.2.2.2.2.2.2.2.2)⟩
abbrev J9_j16 : Jn Bool := ⟨⟨[1, 3, 4, 5, 90], [0], 1000, ⟨[.ptr 0 0, .data (.slice (.int .i64)), .data (.slice .str), .data (.slice tyPut), .data .bool], [.var true 5 [.data (.slice (.int .i64)), .data (.int .i64), .data (.slice .str), .data (.slice tyPut), .data (.int .i64)]]⟩⟩, (fun s => F9_j16 s.1 s.2.1 s.2.2.1 s.2.2.2.1 s.2.2.2.2.1 s.2.2.2.2.2.1 s.2.2.2.2.2.2.1 s.2.2.2.2.2.2.2.1 s.2.2.2.2.2.2.2.2)⟩
abbrev J9_j6 : Jn Bool := ⟨⟨[1, 3, 4, 5, 6, 7, 73], [0], 1000, ⟨[.ptr 0 0, .data (.slice (.int .i64)), .data (.slice .str), .data (.slice tyPut), .data (.int .i64), .data (.int .i64), .data .bool], [.var true 5 [.data (.slice (.int .i64)), .data (.int .i64), .data (.slice .str), .data (.slice tyPut), .data (.int .i64)]]⟩⟩, (fun s => F9_j6 s.1 s.2.1 s.2.2.1 s.2.2.2.1 s.2.2.2.2.1 s.2.2.2.2.2.1 s.2.2.2.2.2.2.1 s.2.2.2.2.2.2.2.1 s.2.2.2.2.2.2.2.2.1 s.2.2.2.2.2.2.2.2.2.1 s.2.2.2.2.2.2.2.2.2.2)⟩
abbrev J9_j5 : Jn Bool := ⟨⟨[1, 3, 4, 5], [0], 1000, ⟨[.ptr 0 0, .data (.slice (.int .i64)), .data (.slice .str), .data (.slice tyPut)], [.var true 5 [.data (.slice (.int .i64)), .data (.int .i64), .data (.slice .str), .data (.slice tyPut), .data (.int .i64)]]⟩⟩, (fun s => F9_j5 s.1 s.2.1 s.2.2.1 s.2.2.2.1 s.2.2.2.2.1 s.2.2.2.2.2.1 s.2.2.2.2.2.2.1 s.2.2.2.2.2.2.2)⟩
abbrev J9_j4 : Jn Bool := ⟨⟨[1, 3, 4], [0], 1000, ⟨[.ptr 0 0, .data (.slice (.int .i64)), .data (.slice .str)], [.var true 5 [.data (.slice (.int .i64)), .data (.int .i64), .data (.slice .str), .data (.slice tyPut), .data (.int .i64)]]⟩⟩, (fun s => F9_j4 s.1 s.2.1 s.2.2.1 s.2.2.2.1 s.2.2.2.2.1 s.2.2.2.2.2.1 s.2.2.2.2.2.2)⟩
abbrev J9_j3 : Jn Bool := ⟨⟨[1, 3, 4, 38], [0, 1001], 1002, ⟨[.ptr 0 0, .data (.slice (.int .i64)), .own 1, .data .bool], [.var true 5 [.data (.slice (.int .i64)), .data (.int .i64), .data (.slice .str), .data (.slice tyPut), .data (.int .i64)], .row false 9 .str]⟩⟩, (fun s => F9_j3 s.1 s.2.1 s.2.2.1 s.2.2.2.1 s.2.2.2.2.1 s.2.2.2.2.2.1 s.2.2.2.2.2.2.1 s.2.2.2.2.2.2.2)⟩
abbrev J9_j2 : Jn Bool := ⟨⟨[1, 3, 4], [0, 1001], 1002, ⟨[.ptr 0 0, .data (.slice (.int .i64)), .own 1], [.var true 5 [.data (.slice (.int .i64)), .data (.int .i64), .data (.slice .str), .data (.slice tyPut), .data (.int .i64)], .row false 9 .str]⟩⟩, (fun s => F9_j2 s.1 s.2.1 s.2.2.1 s.2.2.2.1 s.2.2.2.2.1 s.2.2.2.2.2.1 s.2.2.2.2.2.2)⟩
abbrev J9_j1 : Jn Bool := ⟨⟨[1, 3, 4, 28], [0, 1001], 1002, ⟨[.ptr 0 0, .data (.slice (.int .i64)), .own 1, .data .bool], [.var true 5 [.data (.slice (.int .i64)), .data (.int .i64), .data (.slice .str), .data (.slice tyPut), .data (.int .i64)], .row false 9 .str]⟩⟩, (fun s => F9_j1 s.1 s.2.1 s.2.2.1 s.2.2.2.1 s.2.2.2.2.1 s.2.2.2.2.2.1 s.2.2.2.2.2.2.1 s.2.2.2.2.2.2.2)⟩
def E9 : Entry := ⟨⟨[.bor tyAsk], []⟩, ⟨[.data .bool], []⟩, (fun s => F9 s)⟩
theorem e9 : EntryOK Tryd.prog 9 E9 :=
  entryBody base_ [(12, E12), (29, E29), (14, E14), (24, E24), (31, E31), (32, E32), (33, E33), (23, E23), (22, E22), (36, E36), (28, E28), (35, E35), (34, E34), (30, E30)] ⟨e12, e29, e14, e24, e31, e32, e33, e23, e22, e36, e28, e35, e34, e30, trivial⟩ [] trivial 0 E9 (.seq none .none (.seq none .none (.seq (some J9_j2) (.seq (some J9_j1) .none .none) (.seq (some J9_j4) (.seq (some J9_j3) .none .none) (.seq none .none (.seq (some J9_j5) .none (.seq none .none (.seq (some J9_j8) (.seq (some J9_j6) .none (.cond (.seq (some J9_j7) .none .none) (.seq (some J9_j16) .none .none))) (.seq none .none (.seq (some J9_j9) .none (.seq none .none (.seq none .none (.seq none (.seq none .none (.block (.loop L9_l10))) (.seq (some J9_j11) .none (.seq none (.seq (some J9_j12) .none .none) (.seq none .none (.seq none (.seq (some J9_j13) .none (.cond (.seq (some J9_j14) .none .none) .none)) (.seq none (.seq none .none (.cond (.seq (some J9_j15) .none .none) .none)) .none)))))))))))))))))) [(L9_l10, sub [1, 1, 1, 1, 1, 1, 1, 1, 1, 1, 1, 1, 0, 1, 0, 0] (bodyOf Tryd.f9))] Tryd.func9 (by kernel_rfl) (by kernel_rfl) (by kernel_rfl) (by kernel_rfl) ⟨l9_l10, trivial⟩

abbrev J10_j3 : Jn ((Int × Int × (List Int) × Int × (List ByteArray) × (List Put) × Int × (List Put)) ⊕ (Bool ⊕ (Int × (List Int) × Int × (List ByteArray) × (List Put) × Int))) := ⟨⟨[2], [], 1000, ⟨[.data .bool], []⟩⟩, (fun s => F10_j3 s)⟩
abbrev P10_l2 : CPat := ⟨[1, 3, 5, 7], [0, 1], 2, ⟨[.ptr 0 0, .own 1, .data (.int .i64), .data (.int .i64)], [.var true 5 [.data (.slice (.int .i64)), .data (.int .i64), .data (.slice .str), .data (.slice tyPut), .data (.int .i64)], .row false 52 tyPut]⟩⟩
abbrev O10_l2 : List (Ex × CPat) := [(.ret, ⟨[2], [], 0, ⟨[.data .bool], [.gone, .gone]⟩⟩), ((.exit 0), ⟨[1, 5], [], 0, ⟨[.ptr 0 0, .data (.int .i64)], [.var true 5 [.data (.slice (.int .i64)), .data (.int .i64), .data (.slice .str), .data (.slice tyPut), .data (.int .i64)], .gone]⟩⟩)]
def L10_l2 : LoopE := ⟨P10_l2, O10_l2, loopN (fun s => F10_s2 s.1 s.2.1 s.2.2.1 s.2.2.2.1 s.2.2.2.2.1 s.2.2.2.2.2.1 s.2.2.2.2.2.2.1 s.2.2.2.2.2.2.2)⟩
theorem l10_l2 : LoopOK Tryd.prog L10_l2 (sub [1, 1, 1, 1, 1, 0, 1, 0, 0] (bodyOf Tryd.f10)) Tryd.f10.ntmps :=
  loopBody base_ [(19, E19), (27, E27), (31, E31)] ⟨e19, e27, e31, trivial⟩ [] trivial 0 P10_l2 O10_l2 (fun s => F10_s2 s.1 s.2.1 s.2.2.1 s.2.2.2.1 s.2.2.2.2.1 s.2.2.2.2.2.1 s.2.2.2.2.2.2.1 s.2.2.2.2.2.2.2) (.seq none .none (.seq none (.block (.seq none (.seq none .none (.cond (.seq (some J10_j3) .none .none) .none)) .none)) .none)) [] (by kernel_rfl) (by kernel_rfl) (by kernel_rfl) (by kernel_rfl) trivial
abbrev J10_j1 : Jn Bool := ⟨⟨[1, 3, 5, 52], [0, 1001], 1002, ⟨[.ptr 0 0, .own 1, .data (.int .i64), .data .bool], [.var true 5 [.data (.slice (.int .i64)), .data (.int .i64), .data (.slice .str), .data (.slice tyPut), .data (.int .i64)], .row false 52 tyPut]⟩⟩, (fun s => F10_j1 s.1 s.2.1 s.2.2.1 s.2.2.2.1 s.2.2.2.2.1 s.2.2.2.2.2.1 s.2.2.2.2.2.2.1 s.2.2.2.2.2.2.2)⟩
def E10 : Entry := ⟨⟨[.bor tyAsk], []⟩, ⟨[.data .bool], []⟩, (fun s => F10 s)⟩
theorem e10 : EntryOK Tryd.prog 10 E10 :=
  entryBody base_ [(21, E21), (22, E22), (23, E23), (24, E24), (33, E33)] ⟨e21, e22, e23, e24, e33, trivial⟩ [] trivial 0 E10 (.seq none .none (.seq none .none (.seq none .none (.seq none .none (.seq none (.seq (some J10_j1) .none .none) (.seq none (.seq none .none (.block (.loop L10_l2))) .none)))))) [(L10_l2, sub [1, 1, 1, 1, 1, 0, 1, 0, 0] (bodyOf Tryd.f10))] Tryd.func10 (by kernel_rfl) (by kernel_rfl) (by kernel_rfl) (by kernel_rfl) ⟨l10_l2, trivial⟩

abbrev P11_l3 : CPat := ⟨[1, 2, 9, 10, 11, 12], [0], 1, ⟨[.data .str, .ptr 0 0, .data (.int .i64), .data (.int .i64), .data .bool, .data (.int .i64)], [.var true 5 [.data (.slice (.int .i64)), .data (.int .i64), .data (.slice .str), .data (.slice tyPut), .data (.int .i64)]]⟩⟩
abbrev O11_l3 : List (Ex × CPat) := [((.exit 0), ⟨[9, 10, 11], [], 0, ⟨[.data (.int .i64), .data (.int .i64), .data .bool], [.gone]⟩⟩)]
def L11_l3 : LoopE := ⟨P11_l3, O11_l3, loopN (fun s => F11_s3 s.1 s.2.1 s.2.2.1 s.2.2.2.1 s.2.2.2.2.1 s.2.2.2.2.2.1 s.2.2.2.2.2.2.1 s.2.2.2.2.2.2.2.1 s.2.2.2.2.2.2.2.2.1 s.2.2.2.2.2.2.2.2.2)⟩
theorem l11_l3 : LoopOK Tryd.prog L11_l3 (sub [1, 1, 1, 1, 1, 1, 1, 0, 1, 0, 0] (bodyOf Tryd.f11)) Tryd.f11.ntmps :=
  loopBody base_ [] trivial [] trivial 0 P11_l3 O11_l3 (fun s => F11_s3 s.1 s.2.1 s.2.2.1 s.2.2.2.1 s.2.2.2.2.1 s.2.2.2.2.2.1 s.2.2.2.2.2.2.1 s.2.2.2.2.2.2.2.1 s.2.2.2.2.2.2.2.2.1 s.2.2.2.2.2.2.2.2.2) .none [] (by kernel_rfl) (by kernel_rfl) (by kernel_rfl) (by kernel_rfl) trivial
abbrev J11_j2 : Jn Bool := ⟨⟨[1, 2, 5, 57], [0, 1001], 1002, ⟨[.data .str, .ptr 0 0, .own 1, .data .bool], [.var true 5 [.data (.slice (.int .i64)), .data (.int .i64), .data (.slice .str), .data (.slice tyPut), .data (.int .i64)], .row false 52 tyPut]⟩⟩, (fun s => F11_j2 s.1 s.2.1 s.2.2.1 s.2.2.2.1 s.2.2.2.2.1 s.2.2.2.2.2.1 s.2.2.2.2.2.2.1 s.2.2.2.2.2.2.2)⟩
abbrev J11_j1 : Jn Bool := ⟨⟨[1, 2, 20], [0], 1000, ⟨[.data .str, .ptr 0 0, .data .bool], [.var true 5 [.data (.slice (.int .i64)), .data (.int .i64), .data (.slice .str), .data (.slice tyPut), .data (.int .i64)]]⟩⟩, (fun s => F11_j1 s.1 s.2.1 s.2.2.1 s.2.2.2.1 s.2.2.2.2.1 s.2.2.2.2.2.1 s.2.2.2.2.2.2)⟩
def E11 : Entry := ⟨⟨[.bor tyAsk, .bor .str], []⟩, ⟨[.data .bool], []⟩, (fun s => F11 s.1 s.2)⟩
theorem e11 : EntryOK Tryd.prog 11 E11 :=
  entryBody base_ [(21, E21), (22, E22), (23, E23), (31, E31), (28, E28)] ⟨e21, e22, e23, e31, e28, trivial⟩ [] trivial 0 E11 (.seq none .none (.seq none (.seq (some J11_j1) .none .none) (.seq none .none (.seq none .none (.seq none (.seq (some J11_j2) .none .none) (.seq none .none (.seq none .none (.seq none (.seq none .none (.block (.loop L11_l3))) .none)))))))) [(L11_l3, sub [1, 1, 1, 1, 1, 1, 1, 0, 1, 0, 0] (bodyOf Tryd.f11))] Tryd.func11 (by kernel_rfl) (by kernel_rfl) (by kernel_rfl) (by kernel_rfl) ⟨l11_l3, trivial⟩
end
end Go.Proofs.YtomijlhmjenaoaaDoor
