/- The reference of the ring, plainly: its walk. -/
import Derived.Test.YtomijlhmjenaoaaDoorPLoadRef
namespace Go.Proofs.YtomijlhmjenaoaaDoor
open Go Go.Tat PureRingWalks PureLoadMost
set_option linter.unusedVariables false
theorem ref_place {l : List Point} (key : ByteArray) (hs : key.size ≤ 4611686018427387904) (h : PtsOk l) (hne : l ≠ []) : F47 l key = (F44 l key).map (·.1) := by
  have hf := h.few
  have hpos : 0 < l.length := List.length_pos_iff.2 hne
  obtain ⟨k, b, hk, h1, h2, e⟩ := search_eq (l := l) (sum [key]) (by omega) h.rise
  have e3 : F40 [key] = some (sum [key]) := sum_eq _ (by simp) (by simp; omega)
  have e4 : F44 l key = some (((k % l.length : Nat) : Int), 0) := by
    unfold F44
    rw [check_eq h]
    simp only [Option.bind_some, show ((0 : Int) != 0) = false from rfl, cond_false]
    rw [show (((l.length : Nat) : Int) == 0) = false by simp; exact hne, cond_false, e3]
    simp only [Option.bind_some, e]
    rw [dF (show ¬ (l.length : Int) = 0 by omega), cond_false, Int.tmod_eq_emod_of_nonneg (by omega)]
    simp
  have hh := loopN_list (step := fun z : List Point × Int × Int => F47_s1 z.1 z.2.1 z.2.2) (l := l) (fun i (a : Unit) => (l, sum [key], (i : Int)))
    (fun i x _ => cond (decide (x.1 ≥ sum [key])) (.inr (.inl (i : Int))) (.inl ())) (fun a => (.inr () : Int ⊕ Unit)) (fun _ _ => True) (by omega)
    (fun i a x hx _ => by
      have hi := at_lt hx
      simp only [F47_s1, toNat_cast, at_getD hx]
      rw [dT (show (i : Int) < l.length by omega), dT (show (0 : Int) ≤ i by omega), wr_succ (by omega)]
      simp only [cond_true, Bool.and_self]
      cases decide (x.1 ≥ sum [key]) <;> rfl)
    (fun i x a a' hx ha hf => trivial)
    (fun u hm => by simp only [F47_s1]; rw [dF (by omega), cond_false]) () trivial
  have ef : ∀ (r pre : List Point), l = pre ++ r → pre.length ≤ k → foldE (fun i x (_ : Unit) => cond (decide (x.1 ≥ sum [key])) (.inr (.inl (i : Int))) (.inl () : Unit ⊕ (Int ⊕ Unit))) (fun a => (.inr () : Int ⊕ Unit)) pre.length r () = if k < l.length then .inl (k : Int) else .inr () := by
    intro r
    induction r with
    | nil =>
      intro pre hp hpk
      have := congrArg List.length hp
      simp at this
      simp only [foldE]
      rw [if_neg (by omega)]
    | cons x r ih =>
      intro pre hp hpk
      have hx : l[pre.length]? = some x := by rw [hp]; simp
      have hlt := at_lt hx
      simp only [foldE]
      by_cases hc : x.1 ≥ sum [key]
      · have hkp : k = pre.length := by
          by_cases h : pre.length < k
          · have := h1 pre.length h
            rw [at_getD hx] at this; omega
          · omega
        rw [dT hc, cond_true, if_pos (by omega), hkp]
      · have hkp : pre.length < k := by
          by_cases h : k ≤ pre.length
          · have := h2 pre.length h hlt
            rw [at_getD hx] at this; omega
          · omega
        rw [dF hc, cond_false]
        have := ih (pre ++ [x]) (by rw [hp]; simp) (by simp; omega)
        rw [show (pre ++ [x]).length = pre.length + 1 by simp] at this
        exact this
  have ef0 := ef l [] rfl (by simp)
  rw [show ([] : List Point).length = 0 from rfl] at ef0
  rw [ef0] at hh
  unfold F47 F47_l1
  rw [e4, ref_sum1 key hs]
  simp only [Option.bind_some, Option.map_some]
  rw [show loopN (S := List Point × Int × Int) (O := Int ⊕ Unit) (fun z => F47_s1 z.1 z.2.1 z.2.2) (l, sum [key], 0) = _ from hh]
  by_cases hkl : k < l.length
  · rw [if_pos hkl, Nat.mod_eq_of_lt hkl]; rfl
  · have : k = l.length := by omega
    rw [if_neg hkl, this, Nat.mod_self]; rfl
theorem ref_walk {l : List Point} (key : ByteArray) (hs : key.size ≤ 4611686018427387904) (h : PtsOk l) (hne : l ≠ []) : F26 l key = some (walk l (sum [key])) := by
  have hf := h.few
  obtain ⟨k, hk, e, et⟩ := place_eq key hs h hne
  have hh := loopN_list (step := fun s : List Point × Int × Int × List Int => F26_s1 s.1 s.2.1 s.2.2.1 s.2.2.2)
    (l := l.drop k ++ l.take k) (fun i (a : List Int) => (l, (k : Int), (i : Int), a))
    (fun _ x a => .inl (addN a x.2.1)) (fun a => a) (fun i a => a.length ≤ i) (by simp; omega)
    (fun i a x hx hi => by
      have hlt := at_lt hx
      simp at hlt
      have hx' := turned_at hk hx
      have e1 : wr .i64 ((k : Int) + i) = ((k + i : Nat) : Int) := by rw [wr_i64 (by omega) (by omega)]; omega
      have e2 : Int.tmod ((k + i : Nat) : Int) (l.length : Int) = (((k + i) % l.length : Nat) : Int) := by
        rw [Int.tmod_eq_emod_of_nonneg (by omega)]; simp
      have h3 : (k + i) % l.length < l.length := Nat.mod_lt _ (by omega)
      simp only [F26_s1, e1, e2, toNat_cast, at_getD hx', many_eq a x.2.1 (by omega), Option.bind_some]
      rw [dT (show (i : Int) < l.length by omega), dF (show ¬ (l.length : Int) = 0 by omega), dT (show (0 : Int) ≤ (((k + i) % l.length : Nat) : Int) by omega), dT (show (((k + i) % l.length : Nat) : Int) < l.length by omega), wr_succ (by omega)]
      simp only [cond_true, cond_false, Bool.and_self]
      by_cases hm : x.2.1 ∈ a
      · have : a.count x.2.1 ≠ 0 := fun h => List.count_eq_zero.1 h hm
        rw [show (((a.count x.2.1 : Nat) : Int) == 0) = false by rw [beq_eq_false_iff_ne]; omega, addN, if_pos hm]; rfl
      · rw [List.count_eq_zero.2 hm, addN, if_neg hm, dT (by omega)]; rfl)
    (fun i x a a' hx hi hf => by
      simp only [Sum.inl.injEq] at hf
      subst hf
      unfold addN
      split
      · omega
      · simp only [List.length_append, List.length_cons, List.length_nil]; omega)
    (fun a hi => by simp only [F26_s1]; rw [dF (by simp; omega), cond_false]) [] (by simp)
  rw [foldE_foldl] at hh
  unfold F26 F26_l1
  rw [ref_place key hs h hne, e]
  simp only [Option.map_some, Option.bind_some]
  rw [show loopN (S := List Point × Int × Int × List Int) (O := List Int) (fun s => F26_s1 s.1 s.2.1 s.2.2.1 s.2.2.2) (l, (k : Int), 0, []) = _ from hh]
  simp only [Option.bind_some]
  rw [walk, et, List.foldl_map]
end Go.Proofs.YtomijlhmjenaoaaDoor
