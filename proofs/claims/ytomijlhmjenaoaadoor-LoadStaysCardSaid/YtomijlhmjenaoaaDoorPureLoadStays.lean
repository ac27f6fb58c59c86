/- The law LoadStays, plainly. -/
import Derived.Test.YtomijlhmjenaoaaDoorPLoad3
namespace Go.Proofs.YtomijlhmjenaoaaDoor.PureLoadStays
open Go Go.Tat PureRingWalks PureLoadMost
set_option linter.unusedVariables false
theorem j1_true (name : ByteArray) (a : List Int) (b : Int) (c : List ByteArray) (d : List Put) (e : Int) : F11_j1 name true a b c d e = some true := by
  unfold F11_j1; rw [cond_true, awake14]; rfl
theorem loop_eq (name : ByteArray) (n g : Int) (a : List Int) (b : Int) (l : List ByteArray) (d : List Put) (e : Int) (hl : l.length ≤ 1000) :
    F11_l3 name n g false 0 a b l d e = some (n, g, l.any (fun x => decide (x = name))) := by
  have h := loopN_list (step := fun s : ByteArray × Int × Int × Bool × Int × List Int × Int × List ByteArray × List Put × Int => F11_s3 s.1 s.2.1 s.2.2.1 s.2.2.2.1 s.2.2.2.2.1 s.2.2.2.2.2.1 s.2.2.2.2.2.2.1 s.2.2.2.2.2.2.2.1 s.2.2.2.2.2.2.2.2.1 s.2.2.2.2.2.2.2.2.2)
    (l := l) (fun i (t : Bool) => (name, n, g, t, (i : Int), a, b, l, d, e))
    (fun _ x t => .inl (t || decide (x = name))) (fun t => (n, g, t)) (fun i _ => True) (by omega)
    (fun i t x hx hi => by
      have hlt := at_lt hx
      simp only [F11_s3, toNat_cast, at_getD hx]
      rw [dT (show (i : Int) < l.length by omega), dT (show (0 : Int) ≤ i by omega), wr_succ (by omega)]
      cases t with
      | true => rfl
      | false =>
        have : (ByteArray.toList x == ByteArray.toList name) = decide (x = name) := by
          by_cases e : x = name
          · rw [e, beq_self_eq_true, dT rfl]
          · rw [dF e, beq_eq_false_iff_ne]; exact fun h => e (bytes_ext h)
        rw [this]; rfl)
    (fun i x a a' hx hi hf => trivial)
    (fun t hi => by simp only [F11_s3]; rw [dF (by omega), cond_false]) false trivial
  rw [foldE_foldl] at h
  have ef : ∀ (r : List ByteArray) (t : Bool), r.foldl (fun t x => t || decide (x = name)) t = (t || r.any (fun x => decide (x = name))) := by
    intro r
    induction r with
    | nil => intro t; simp
    | cons x r ih => intro t; rw [List.foldl_cons, ih, List.any_cons, Bool.or_assoc]
  rw [ef, Bool.false_or] at h
  exact h
theorem pure (q : Ask) (name : ByteArray) (h : Ty.rng tyAsk q) (_ : Ty.rng .str name) : F11 q name = some true := by
  obtain ⟨b, e1, hb⟩ := light_eq q h
  unfold F11
  rw [e1]
  cases b with
  | false => simp only [Option.bind_some, Bool.not_false, cond_true]; exact j1_true _ _ _ _ _ _
  | true =>
    obtain ⟨hok, hne, hn6, hl20, ht, hs1, hs8⟩ := hb rfl
    obtain ⟨nodes, spots, l, puts, T⟩ := q
    simp only [] at *
    simp only [Option.bind_some, Bool.not_true, cond_false]
    by_cases h30 : (name.size : Int) > 30
    · rw [dT h30]; exact j1_true _ _ _ _ _ _
    · rw [dF h30]
      obtain ⟨s, hs⟩ : ∃ s : Nat, (s : Int) = spots := ⟨spots.toNat, by omega⟩
      subst hs
      have hpos := List.length_pos_iff.2 hne
      have hput := assign_put (s := s) l hok (by omega) (bd l.length nodes.length) (bd_room hpos)
      have hlen := hput.length
      unfold F11_j1
      rw [cond_false, assign_eq hok hne (by omega) (by omega) ht]
      simp only [Option.bind_some]
      generalize assign ((bd l.length nodes.length : Nat) : Int) (pts s nodes) l = a at *
      rw [dT (show (0 + nodes.length) * 8 ≤ 140737488355328 by omega), dT (show (0 + l.length) * 16 ≤ 140737488355328 by omega)]
      simp only [cond_true, show ((0 : Int) != 0) = false from rfl, cond_false]
      rw [same_put a (by omega)]
      simp only [Option.bind_some, Bool.not_true]
      unfold F11_j2
      rw [cond_false]
      have hof := of_eq (l := a) name (fun x hx => hok.2 _ (hput.node (by omega) hx)) (by rw [hput.tasks]; exact ht)
      rcases hof with ⟨x, hx, ex, ef⟩ | ⟨hno, ef⟩
      · rw [ef]
        simp only [Option.bind_some]
        rw [loop_eq name _ _ _ _ _ _ _ (by omega)]
        have : l.any (fun x => decide (x = name)) = true := by
          rw [List.any_eq_true]
          refine ⟨name, ?_, by simp⟩
          rw [← hput.tasks, ← ex]
          exact List.mem_map_of_mem hx
        rw [this, awake14]; rfl
      · rw [ef]
        simp only [Option.bind_some]
        rw [loop_eq name _ _ _ _ _ _ _ (by omega)]
        have : l.any (fun x => decide (x = name)) = false := by
          rw [List.any_eq_false]
          intro y hy
          rw [← hput.tasks] at hy
          obtain ⟨x, hx, rfl⟩ := List.mem_map.1 hy
          simpa using hno x hx
        rw [this, awake14]; rfl
end Go.Proofs.YtomijlhmjenaoaaDoor.PureLoadStays
