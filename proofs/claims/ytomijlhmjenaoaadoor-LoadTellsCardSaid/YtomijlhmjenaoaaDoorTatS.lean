/- The comparison of points: what the sort is handed. -/
import Derived.Test.YtomijlhmjenaoaaDoorTatD
import Derived.Test.YtomijlhmjenaoaaDoorTatF
import Derived.Test.YtomijlhmjenaoaaDoorProg
namespace Go.Proofs.YtomijlhmjenaoaaDoor
open Go Go.Tat Go.Shelf Go.RowKit Go.Sort
set_option linter.unusedVariables false
/- The shelf's laying of the sort, in plain words. -/
def sort42_ren : Go.Shelf.Ren := ⟨fun | 6 => 42 | 15 => 59 | 14 => 58 | 28 => 78 | 29 => 79 | 20 => 70 | 21 => 71 | 22 => 72 | 23 => 73 | 24 => 74 | 25 => 75 | 26 => 76 | 27 => 77 | 46 => 86 | 47 => 87 | 48 => 88 | 49 => 89 | 50 => 90 | 57 => 95 | n => n, fun | 22 => 29 | 24 => 68 | 25 => 74 | 3 => 3 | 39 => 87 | 0 => 0 | 53 => 105 | 55 => 66 | 4 => 4 | 46 => 99 | 45 => 98 | 50 => 79 | 5 => 5 | 9 => 9 | 66 => 113 | 70 => 117 | 76 => 123 | 77 => 124 | n => n, fun | n => n⟩
theorem sort42L : Go.Proofs.SlLaysF0.n6 Tryd.prog sort42_ren := {
  mixed := by kernel_rfl,
  f6 := ⟨Tryd.f42.name, by decide, Tryd.func42.trans (congrArg some (by kernel_rfl))⟩,
  f14 := ⟨Tryd.f58.name, by decide, Tryd.func58.trans (congrArg some (by kernel_rfl))⟩,
  f15 := Tryd.func59.trans (congrArg some (by kernel_rfl)),
  f20 := ⟨Tryd.f70.name, by decide, Tryd.func70.trans (congrArg some (by kernel_rfl))⟩,
  f21 := ⟨Tryd.f71.name, by decide, Tryd.func71.trans (congrArg some (by kernel_rfl))⟩,
  f22 := ⟨Tryd.f72.name, by decide, Tryd.func72.trans (congrArg some (by kernel_rfl))⟩,
  f23 := ⟨Tryd.f73.name, by decide, Tryd.func73.trans (congrArg some (by kernel_rfl))⟩,
  f24 := ⟨Tryd.f74.name, by decide, Tryd.func74.trans (congrArg some (by kernel_rfl))⟩,
  f25 := ⟨Tryd.f75.name, by decide, Tryd.func75.trans (congrArg some (by kernel_rfl))⟩,
  f26 := ⟨Tryd.f76.name, by decide, Tryd.func76.trans (congrArg some (by kernel_rfl))⟩,
  f27 := ⟨Tryd.f77.name, by decide, Tryd.func77.trans (congrArg some (by kernel_rfl))⟩,
  f28 := Tryd.func78.trans (congrArg some (by kernel_rfl)),
  f29 := Tryd.func79.trans (congrArg some (by kernel_rfl)),
  f46 := ⟨Tryd.f86.name, by decide, Tryd.func86.trans (congrArg some (by kernel_rfl))⟩,
  f47 := Tryd.func87.trans (congrArg some (by kernel_rfl)),
  f48 := Tryd.func88.trans (congrArg some (by kernel_rfl)),
  f49 := ⟨Tryd.f89.name, by decide, Tryd.func89.trans (congrArg some (by kernel_rfl))⟩,
  f50 := ⟨Tryd.f90.name, by decide, Tryd.func90.trans (congrArg some (by kernel_rfl))⟩,
  f57 := ⟨Tryd.f95.name, by decide, Tryd.func95.trans (congrArg some (by kernel_rfl))⟩,
  t0 := Tryd.underlying0,
  a0 := Tryd.isAgg0,
  z0 := Tryd.sizeOf0,
  v0 := Tryd.zeroValue0,
  t3 := Tryd.underlying3,
  a3 := Tryd.isAgg3,
  z3 := Tryd.sizeOf3,
  v3 := Tryd.zeroValue3,
  t4 := Tryd.underlying4,
  a4 := Tryd.isAgg4,
  z4 := Tryd.sizeOf4,
  v4 := Tryd.zeroValue4,
  t5 := Tryd.underlying5,
  a5 := Tryd.isAgg5,
  z5 := Tryd.sizeOf5,
  v5 := Tryd.zeroValue5,
  t9 := Tryd.underlying9,
  a9 := Tryd.isAgg9,
  z9 := Tryd.sizeOf9,
  v9 := Tryd.zeroValue9,
  t22 := Tryd.underlying29,
  a22 := Tryd.isAgg29,
  z22 := Tryd.sizeOf29,
  v22 := Tryd.zeroValue29,
  t25 := Tryd.underlying74,
  a25 := Tryd.isAgg74,
  z25 := Tryd.sizeOf74,
  v25 := Tryd.zeroValue74,
  t39 := Tryd.underlying87,
  a39 := Tryd.isAgg87,
  z39 := Tryd.sizeOf87,
  v39 := Tryd.zeroValue87,
  t45 := Tryd.underlying98,
  a45 := Tryd.isAgg98,
  z45 := Tryd.sizeOf98,
  v45 := Tryd.zeroValue98,
  t46 := Tryd.underlying99,
  a46 := Tryd.isAgg99,
  z46 := Tryd.sizeOf99,
  v46 := Tryd.zeroValue99,
  t50 := Tryd.underlying79,
  a50 := Tryd.isAgg79,
  z50 := Tryd.sizeOf79,
  v50 := Tryd.zeroValue79,
  t53 := Tryd.underlying105,
  a53 := Tryd.isAgg105,
  z53 := Tryd.sizeOf105,
  v53 := Tryd.zeroValue105,
  t55 := Tryd.underlying66,
  a55 := Tryd.isAgg66,
  z55 := Tryd.sizeOf66,
  v55 := Tryd.zeroValue66,
  t66 := Tryd.underlying113,
  a66 := Tryd.isAgg113,
  z66 := Tryd.sizeOf113,
  v66 := Tryd.zeroValue113,
  t70 := Tryd.underlying117,
  a70 := Tryd.isAgg117,
  z70 := Tryd.sizeOf117,
  v70 := Tryd.zeroValue117,
  t76 := Tryd.underlying123,
  a76 := Tryd.isAgg123,
  z76 := Tryd.sizeOf123,
  v76 := Tryd.zeroValue123,
  t77 := Tryd.underlying124,
  a77 := Tryd.isAgg124,
  z77 := Tryd.sizeOf124,
  v77 := Tryd.zeroValue124 }

def cmpI (x y : Int) : Int := if x < y then -1 else if y < x then 1 else 0
theorem F61_eq (x y : Int) : F61 x y = some (cmpI x y) := by
  simp only [F61, F80, Option.bind_some, cmpI, bne_self_eq_false, cond_false]
  by_cases h1 : x < y
  · simp [h1]
  · by_cases h2 : y < x <;> simp [h1, h2]
theorem F62_eq (x y : Int) : F62 x y = some (cmpI x y) := by
  simp only [F62, F81, Option.bind_some, cmpI, bne_self_eq_false, cond_false]
  by_cases h1 : x < y
  · simp [h1]
  · by_cases h2 : y < x <;> simp [h1, h2]
theorem F60_eq (a b c : Int) : F60 [a, b, c] = some (if a ≠ 0 then a else if b ≠ 0 then b else c) := by
  by_cases ha : a = 0
  · by_cases hb : b = 0
    · by_cases hc : c = 0
      · subst ha; subst hb; subst hc
        rfl
      · subst ha; subst hb
        have e : F60_l1 0 [0, 0, c] 3 0 = some (.inl c) := by
          refine loopN_of (n := 3) ?_ (by omega)
          rw [iterω_inl (s' := (0, [0, 0, c], 3, 1)) rfl, iterω_inl (s' := (0, [0, 0, c], 3, 2)) rfl]
          refine iterω_inr (n := 0) ?_
          simp [F60_s1, show (c != 0) = true by simpa using hc]
        show (F60_l1 0 [0, 0, c] 3 0).bind _ = _
        rw [e]; simp
    · subst ha
      have e : F60_l1 0 [0, b, c] 3 0 = some (.inl b) := by
        refine loopN_of (n := 2) ?_ (by omega)
        rw [iterω_inl (s' := (0, [0, b, c], 3, 1)) rfl]
        refine iterω_inr (n := 0) ?_
        simp [F60_s1, show (b != 0) = true by simpa using hb]
      show (F60_l1 0 [0, b, c] 3 0).bind _ = _
      rw [e]; simp [hb]
  · have e : F60_l1 0 [a, b, c] 3 0 = some (.inl a) := by
      refine loopN_of (n := 1) ?_ (by omega)
      refine iterω_inr (n := 0) ?_
      simp [F60_s1, show (a != 0) = true by simpa using ha]
    show (F60_l1 0 [a, b, c] 3 0).bind _ = _
    rw [e]; simp [ha]
theorem cmp43_eq (x y : Point) : cmp43 x y = if cmpI x.1 y.1 ≠ 0 then cmpI x.1 y.1 else if cmpI x.2.1 y.2.1 ≠ 0 then cmpI x.2.1 y.2.1 else cmpI x.2.2 y.2.2 := by
  simp only [cmp43, F43, F61_eq, F62_eq, Option.bind_some, F60_eq, Option.getD_some]
theorem F43_eq (x y : Point) : F43 x y = some (cmp43 x y) := by
  simp only [cmp43, F43, F61_eq, F62_eq, Option.bind_some, F60_eq, Option.getD_some]
/-- One point ahead of another one. -/
def ptLt (x y : Point) : Prop := x.1 < y.1 ∨ x.1 = y.1 ∧ (x.2.1 < y.2.1 ∨ x.2.1 = y.2.1 ∧ x.2.2 < y.2.2)
theorem cmp43_lt (x y : Point) : cmp43 x y < 0 ↔ ptLt x y := by
  rw [cmp43_eq]; unfold cmpI ptLt
  repeat' split
  all_goals omega
theorem cmp43_ge (x y : Point) : cmp43 x y ≥ 0 ↔ ¬ ptLt x y := by rw [← cmp43_lt]; omega
instance (x y : Point) : Decidable (ptLt x y) := by unfold ptLt; infer_instance
theorem cmp43_swo : SWO (ltOf cmp43) where
  irrefl x := by rw [show ltOf cmp43 x x = decide (cmp43 x x < 0) from rfl, decide_eq_false_iff_not, cmp43_lt]; unfold ptLt; omega
  trans x y z h1 h2 := by
    simp only [ltOf, decide_eq_true_eq, cmp43_lt] at *
    unfold ptLt at *; omega
  ntrans x y z h1 h2 := by
    simp only [ltOf, decide_eq_false_iff_not, cmp43_lt] at *
    unfold ptLt at *; omega
theorem cmp43_total (x y : Point) (h1 : ltOf cmp43 x y = false) (h2 : ltOf cmp43 y x = false) : x = y := by
  simp only [ltOf, decide_eq_false_iff_not, cmp43_lt] at *
  obtain ⟨a, b, c⟩ := x
  obtain ⟨a', b', c'⟩ := y
  simp only [ptLt] at *
  have e1 : a = a' := by omega
  have e2 : b = b' := by omega
  have e3 : c = c' := by omega
  rw [e1, e2, e3]
end Go.Proofs.YtomijlhmjenaoaaDoor
