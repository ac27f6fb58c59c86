/- LoadOne: the law's function returns true for every input, and each argument reads behind the call as it read before; conditions: none beside the row's own (the listed variables hold what the program's text lays). -/
import Derived.Test.YtomijlhmjenaoaaDoorCards
import Derived.Test.YtomijlhmjenaoaaDoorTie
import Derived.Test.YtomijlhmjenaoaaDoorTatE
import Derived.Test.YtomijlhmjenaoaaDoorPureLoadOne
import Derived.Test.YtomijlhmjenaoaaDoorTatC
import Derived.Deep.DeepHandedRow
import Derived.LaidMore
import Derived.SevenTiedAt
namespace Go.Proofs.YtomijlhmjenaoaaDoor.LoadOneRow
open Go.ChangeShapes Go.WideShapes Go.ChangeAt Go.RowKit Go.Tat

theorem own : ownKnob Tryd.prog.godebug = none := by kernel_rfl
theorem laidOut : laidOutB Tryd.prog = true := by kernel_rfl
theorem laid_met (os : Os) : laidMet Tryd.prog Rows.loadOneRow.laid ((World.doorLaid Tryd.prog 24 os).forCall (fun _ _ => 0) ⟨#[], #[.agg #[.slice none 0 0, .int .i64 0, .slice none 0 0, .slice none 0 0, .int .i64 0], .int .u8 0], []⟩).memory :=
  laidMet_of_run' 8 (by kernel_rfl) (by kernel_rfl)
theorem reads (os : Os) {H : Type} (enc : TypeId × Value → H) : ∃ places, DataW.whole enc Tryd.prog ((World.doorLaid Tryd.prog 24 os).forCall (fun _ _ => 0) ⟨#[], #[.agg #[.slice none 0 0, .int .i64 0, .slice none 0 0, .slice none 0 0, .int .i64 0], .int .u8 0], []⟩).memory Tryd.f6.params.toList Rows.loadOneSpec.vars false (#[.agg #[.slice none 0 0, .int .i64 0, .slice none 0 0, .slice none 0 0, .int .i64 0], .int .u8 0] : Array Value).toList 8 = some ([.agg [.nil, .lit (.int .i64 0), .nil, .nil, .lit (.int .i64 0)], .lit (.int .u8 0)], [], places) :=
  ⟨[], by kernel_rfl⟩
theorem spec_eq {H : Type} : ∀ ds : List (DataW H), ds.length = Tryd.f6.params.size → Rows.loadOneSpec.fn H (ds ++ []) = { results := [.lit (.bool true)], args := ds } := by
  intro ds h
  rw [List.append_nil]
  have h : ds.length = 2 := h
  match ds, h with
  | [d0, d1], _ => rfl
theorem hpure : ∀ s, (∀ d ∈ unpack (Pat.tys ⟨[tyAsk, .int .u8].map SK.bor, []⟩) s, d.1.rng d.2) → (fun s => F6 s.1 s.2) s = some true := fun s h =>
  PureLoadOne.pure s.1 s.2 (h _ (.head _)) (h _ (.tail _ (.head _)))
set_option maxRecDepth 100000 in
theorem contract (H : Type) (enc : TypeId × Value → H) (W : World) (base : Nat) (args : Array Value) (ds gs : List (DataW H)) (before : List MemPlace)
    (hval : ∀ (j : Nat) t v, Tryd.f6.params[j]? = some t → args[j]? = some v → Value.okWide Tryd.prog W .any base t v)
    (hW : DataW.Whole enc Tryd.prog Tryd.f6.params.toList Rows.loadOneSpec.vars false W args.toList ds gs before) :
    Calls Tryd.prog 6 args W fun e W' => ∃ v, e = .returned v ∧ Rows.loadOneSpec.post enc Tryd.prog Tryd.f6 false true false false W args v W' :=
  law_contract base_.tab laidOut [tyAsk, .int .u8] _ e6 (by kernel_rfl) (by kernel_rfl) Tryd.underlying4 hpure rfl spec_eq hval hW

set_option maxRecDepth 100000 in
theorem lifted (os : Os) (started : os.Started) (H : Type) (enc : TypeId × Value → H) (F : Stop.Interp) :
    ReturnsInHanded {} Tryd.checked os 6 .any ((OpenSpec.ofChange Rows.loadOneSpec).preRow enc Tryd.prog Tryd.f6 Rows.loadOneRow.domain false Rows.loadOneRow.laid) (((OpenSpec.ofChange Rows.loadOneSpec).at F).post enc Tryd.prog Tryd.f6 false true false false) := by
  obtain ⟨places, hx⟩ := reads os enc
  refine returnsInHanded_of_row (C := Tryd.checked) (s := OpenSpec.ofChange Rows.loadOneSpec) own started (by kernel_rfl) Tryd.func6
    (witness_row_at (enc := enc) (C := Tryd.checked) false (World.doorLaid Tryd.prog 24 os) #[.agg #[.slice none 0 0, .int .i64 0, .slice none 0 0, .slice none 0 0, .int .i64 0], .int .u8 0] rfl (by kernel_rfl) (by kernel_rfl) (by kernel_rfl)
      (OpenSpec.preRow_of_cond 8 hx (by kernel_rfl) (fun k hk => by cases hk) (by kernel_rfl) (laid_met os))) ?_
  intro W base args ds gs before hval hW _ _ _ hL _ _
  exact contract H enc W base args ds gs before hval hW

theorem said : Rows.LoadOneSaid :=
  OpenClaim.holds_of_cond 6 Tryd.f6 rfl rfl rfl rfl rfl rfl rfl ⟨rfl, rfl, rfl, rfl, rfl⟩ rfl rfl rfl rfl rfl (by kernel_rfl) Tryd.func6 (by kernel_rfl)
    (of_decide_eq_true (by kernel_rfl)) (by unfold Func.isWrapper; first | (rw [if_pos (by decide +kernel)]; kernel_rfl) | (rw [if_neg (by decide +kernel)]; exact ⟨rfl, rfl⟩))
    (fun os started H enc _ F => by rw [OpenClaim.pre_eq_preRow]; exact lifted os started H enc F)

theorem plain (f : FuncId) (fn : Func) (hf : Tryd.pinned.checked.prog.funcNamed "tattle/tattlelaw14.LoadOne" = some f) (hfn : Tryd.pinned.checked.prog.funcs[f]? = some fn) :
    false = Tryd.pinned.checked.prog.looks [] ∧ ∀ (j : Nat) t, fn.params[j]? = some t → Tryd.pinned.checked.prog.wantsStandIn t = false := by
  obtain rfl : f = 6 := Option.some.inj ((show Tryd.prog.funcNamed "tattle/tattlelaw14.LoadOne" = some 6 by kernel_rfl).symm.trans hf) |>.symm
  obtain rfl : fn = Tryd.f6 := (Option.some.inj (Tryd.func6.symm.trans hfn)).symm
  exact ⟨by kernel_rfl, fun j t ht => by
    rw [Tryd.params6] at ht
    have hm : t ∈ [44,5] := by simpa using Array.mem_of_getElem? ht
    have hall : ([44,5].all fun u => !Tryd.prog.wantsStandIn u) = true := by kernel_rfl
    exact (show Tryd.prog.wantsStandIn t = false by simpa using List.all_eq_true.1 hall t hm)⟩

theorem card : Rows.LoadOneCardSaid :=
  Claim7.holds_tied_plain_at .later [] _ _ _ _ said (fun _ h => by cases h) (by kernel_rfl) (fun _ h => by cases h) loadOne_row_tie rfl ⟨rfl, rfl⟩ (by kernel_rfl) rfl plain (by kernel_rfl)
#print axioms card
end Go.Proofs.YtomijlhmjenaoaaDoor.LoadOneRow

