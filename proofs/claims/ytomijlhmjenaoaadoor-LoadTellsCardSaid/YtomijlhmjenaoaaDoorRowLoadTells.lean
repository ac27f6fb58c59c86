/- LoadTells: the law's function returns true for every input, and each argument reads behind the call as it read before; conditions: none beside the row's own (the listed variables hold what the program's text lays). -/
import Derived.Test.YtomijlhmjenaoaaDoorCards
import Derived.Test.YtomijlhmjenaoaaDoorTie
import Derived.Test.YtomijlhmjenaoaaDoorTatE
import Derived.Test.YtomijlhmjenaoaaDoorPureLoadTells
import Derived.Test.YtomijlhmjenaoaaDoorTatC
import Derived.Deep.DeepHandedRow
import Derived.LaidMore
import Derived.SevenTiedAt
namespace Go.Proofs.YtomijlhmjenaoaaDoor.LoadTellsRow
open Go.ChangeShapes Go.WideShapes Go.ChangeAt Go.RowKit Go.Tat

theorem own : ownKnob Tryd.prog.godebug = none := by kernel_rfl
theorem laidOut : laidOutB Tryd.prog = true := by kernel_rfl
theorem laid_met (os : Os) : laidMet Tryd.prog Rows.loadTellsRow.laid ((World.doorLaid Tryd.prog 24 os).forCall (fun _ _ => 0) ⟨#[], #[.agg #[.slice none 0 0, .int .i64 0, .slice none 0 0, .slice none 0 0, .int .i64 0]], []⟩).memory :=
  laidMet_of_run' 8 (by kernel_rfl) (by kernel_rfl)
theorem reads (os : Os) {H : Type} (enc : TypeId × Value → H) : ∃ places, DataW.whole enc Tryd.prog ((World.doorLaid Tryd.prog 24 os).forCall (fun _ _ => 0) ⟨#[], #[.agg #[.slice none 0 0, .int .i64 0, .slice none 0 0, .slice none 0 0, .int .i64 0]], []⟩).memory Tryd.f9.params.toList Rows.loadTellsSpec.vars false (#[.agg #[.slice none 0 0, .int .i64 0, .slice none 0 0, .slice none 0 0, .int .i64 0]] : Array Value).toList 8 = some ([.agg [.nil, .lit (.int .i64 0), .nil, .nil, .lit (.int .i64 0)]], [], places) :=
  ⟨[], by kernel_rfl⟩
theorem spec_eq {H : Type} : ∀ ds : List (DataW H), ds.length = Tryd.f9.params.size → Rows.loadTellsSpec.fn H (ds ++ []) = { results := [.lit (.bool true)], args := ds } := by
  intro ds h
  rw [List.append_nil]
  have h : ds.length = 1 := h
  match ds, h with
  | [d0], _ => rfl
theorem hpure : ∀ s, (∀ d ∈ unpack (Pat.tys ⟨[tyAsk].map SK.bor, []⟩) s, d.1.rng d.2) → (fun s => F9 s) s = some true := fun s h =>
  PureLoadTells.pure s (h _ (.head _))
set_option maxRecDepth 100000 in
theorem contract (H : Type) (enc : TypeId × Value → H) (W : World) (base : Nat) (args : Array Value) (ds gs : List (DataW H)) (before : List MemPlace)
    (hval : ∀ (j : Nat) t v, Tryd.f9.params[j]? = some t → args[j]? = some v → Value.okWide Tryd.prog W .any base t v)
    (hW : DataW.Whole enc Tryd.prog Tryd.f9.params.toList Rows.loadTellsSpec.vars false W args.toList ds gs before) :
    Calls Tryd.prog 9 args W fun e W' => ∃ v, e = .returned v ∧ Rows.loadTellsSpec.post enc Tryd.prog Tryd.f9 false true false false W args v W' :=
  law_contract base_.tab laidOut [tyAsk] _ e9 (by kernel_rfl) (by kernel_rfl) Tryd.underlying4 hpure rfl spec_eq hval hW

set_option maxRecDepth 100000 in
theorem lifted (os : Os) (started : os.Started) (H : Type) (enc : TypeId × Value → H) (F : Stop.Interp) :
    ReturnsInHanded {} Tryd.checked os 9 .any ((OpenSpec.ofChange Rows.loadTellsSpec).preRow enc Tryd.prog Tryd.f9 Rows.loadTellsRow.domain false Rows.loadTellsRow.laid) (((OpenSpec.ofChange Rows.loadTellsSpec).at F).post enc Tryd.prog Tryd.f9 false true false false) := by
  obtain ⟨places, hx⟩ := reads os enc
  refine returnsInHanded_of_row (C := Tryd.checked) (s := OpenSpec.ofChange Rows.loadTellsSpec) own started (by kernel_rfl) Tryd.func9
    (witness_row_at (enc := enc) (C := Tryd.checked) false (World.doorLaid Tryd.prog 24 os) #[.agg #[.slice none 0 0, .int .i64 0, .slice none 0 0, .slice none 0 0, .int .i64 0]] rfl (by kernel_rfl) (by kernel_rfl) (by kernel_rfl)
      (OpenSpec.preRow_of_cond 8 hx (by kernel_rfl) (fun k hk => by cases hk) (by kernel_rfl) (laid_met os))) ?_
  intro W base args ds gs before hval hW _ _ _ hL _ _
  exact contract H enc W base args ds gs before hval hW

theorem said : Rows.LoadTellsSaid :=
  OpenClaim.holds_of_cond 9 Tryd.f9 rfl rfl rfl rfl rfl rfl rfl ⟨rfl, rfl, rfl, rfl, rfl⟩ rfl rfl rfl rfl rfl (by kernel_rfl) Tryd.func9 (by kernel_rfl)
    (of_decide_eq_true (by kernel_rfl)) (by unfold Func.isWrapper; first | (rw [if_pos (by decide +kernel)]; kernel_rfl) | (rw [if_neg (by decide +kernel)]; exact ⟨rfl, rfl⟩))
    (fun os started H enc _ F => by rw [OpenClaim.pre_eq_preRow]; exact lifted os started H enc F)

theorem plain (f : FuncId) (fn : Func) (hf : Tryd.pinned.checked.prog.funcNamed "tattle/tattlelaw14.LoadTells" = some f) (hfn : Tryd.pinned.checked.prog.funcs[f]? = some fn) :
    false = Tryd.pinned.checked.prog.looks [] ∧ ∀ (j : Nat) t, fn.params[j]? = some t → Tryd.pinned.checked.prog.wantsStandIn t = false := by
  obtain rfl : f = 9 := Option.some.inj ((show Tryd.prog.funcNamed "tattle/tattlelaw14.LoadTells" = some 9 by kernel_rfl).symm.trans hf) |>.symm
  obtain rfl : fn = Tryd.f9 := (Option.some.inj (Tryd.func9.symm.trans hfn)).symm
  exact ⟨by kernel_rfl, fun j t ht => by
    rw [Tryd.params9] at ht
    have hm : t ∈ [44] := by simpa using Array.mem_of_getElem? ht
    have hall : ([44].all fun u => !Tryd.prog.wantsStandIn u) = true := by kernel_rfl
    exact (show Tryd.prog.wantsStandIn t = false by simpa using List.all_eq_true.1 hall t hm)⟩

theorem card : Rows.LoadTellsCardSaid :=
  Claim7.holds_tied_plain_at .later [] _ _ _ _ said (fun _ h => by cases h) (by kernel_rfl) (fun _ h => by cases h) loadTells_row_tie rfl ⟨rfl, rfl⟩ (by kernel_rfl) rfl plain (by kernel_rfl)
#print axioms card
end Go.Proofs.YtomijlhmjenaoaaDoor.LoadTellsRow

