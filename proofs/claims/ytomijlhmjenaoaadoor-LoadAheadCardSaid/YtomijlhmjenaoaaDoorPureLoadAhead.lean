/- The law LoadAhead, plainly. -/
import Derived.Test.YtomijlhmjenaoaaDoorPLoad3
namespace Go.Proofs.YtomijlhmjenaoaaDoor.PureLoadAhead
open Go Go.Tat PureRingWalks PureLoadMost
set_option linter.unusedVariables false
theorem j1_true (a : List Int) (b : Int) (c : List ByteArray) (d : List Put) (e : Int) : F7_j1 true a b c d e = some true := by
  unfold F7_j1; rw [cond_true, awake14]; rfl
theorem bd_step {k n : Nat} (hn : 1 ≤ n) : bd k n ≤ bd (k + 1) n ∧ bd (k + 1) n ≤ bd k n + 2 := by
  have h1 := bd_spec (t := k) hn
  have h2 := bd_spec (t := k + 1) hn
  generalize bd k n = x at *
  generalize bd (k + 1) n = y at *
  constructor
  · by_cases h : x ≤ y
    · exact h
    · have := Nat.mul_le_mul_left (4 * n) (show y + 1 ≤ x by omega)
      rw [Nat.mul_add] at this; omega
  · by_cases h : y ≤ x + 2
    · exact h
    · have := Nat.mul_le_mul_left (4 * n) (show x + 3 ≤ y by omega)
      rw [Nat.mul_add] at this; omega
theorem assign_snoc (m : Int) (p : List Point) (l : List ByteArray) (t : ByteArray) : assign m p (l ++ [t]) = putStep m p (assign m p l) t := by simp [assign]
theorem take_put (m : Int) (p : List Point) (t : ByteArray) {a : List Put} {k : Nat} (h : a.length = k) : List.take k (putStep m p a t) = a := by
  subst h
  unfold putStep
  split
  · rw [List.take_left]
  · rw [List.take_length]
theorem pure (q : Ask) (h : Ty.rng tyAsk q) : F7 q = some true := by
  obtain ⟨b, e1, hb⟩ := light_eq q h
  unfold F7
  rw [e1]
  cases b with
  | false => simp only [Option.bind_some, Bool.not_false, cond_true]; exact j1_true _ _ _ _ _
  | true =>
    obtain ⟨hok, hne, hn6, hl20, ht, hs1, hs8⟩ := hb rfl
    obtain ⟨nodes, spots, l, puts, T⟩ := q
    simp only [] at *
    simp only [Option.bind_some, Bool.not_true, cond_false]
    rcases List.eq_nil_or_concat l with rfl | ⟨l, t, rfl⟩
    · rw [show ((([] : List ByteArray).length : Int) == 0) = true from rfl]; exact j1_true _ _ _ _ _
    · rw [List.concat_eq_append] at *
      obtain ⟨s, hs⟩ : ∃ s : Nat, (s : Int) = spots := ⟨spots.toNat, by omega⟩
      subst hs
      have hpos := List.length_pos_iff.2 hne
      have hll : (l ++ [t]).length = l.length + 1 := by simp
      have ht' : tasksB l = true := by
        obtain ⟨t1, t2, t3⟩ := tasks_iff.1 ht
        exact tasks_iff.2 ⟨by omega, fun x hx => t2 x (by simp [hx]), t3.sublist (List.sublist_append_left _ _)⟩
      have hput := assign_put (s := s) (l ++ [t]) hok (by omega) (bd (l ++ [t]).length nodes.length) (bd_room hpos)
      have hput' := assign_put (s := s) l hok (by omega) (bd l.length nodes.length) (bd_room hpos)
      have hst := bd_step (k := l.length) hpos
      have eb1 := bd_eq (t := l.length) (n := nodes.length) (by omega) hpos (by omega)
      have eb2 := bd_eq (t := l.length + 1) (n := nodes.length) (by omega) hpos (by omega)
      have hsp := bd_spec (t := l.length) hpos
      have hbig : bd l.length nodes.length ≤ 1000 := by
        have := Nat.le_mul_of_pos_left (bd l.length nodes.length) (show 0 < 4 * nodes.length by omega)
        omega
      rw [show (((l ++ [t]).length : Int) == 0) = false by rw [beq_eq_false_iff_ne]; omega]
      unfold F7_j1
      have w1 : wr .i64 (((l ++ [t]).length : Int) - 1) = (l.length : Int) := by rw [wr_i64 (by omega) (by omega)]; omega
      have w2 : wr .i64 ((l.length : Int) + 1) = ((l.length + 1 : Nat) : Int) := wr_succ (by omega)
      rw [cond_false, assign_eq hok hne (by omega) (by omega) ht]
      simp only [Option.bind_some, w1, w2, toNat_cast, eb1, eb2]
      rw [show List.drop 0 (List.take l.length (l ++ [t])) = l by simp, assign_eq hok hne (by omega) (by omega) ht', dT (show (0 : Int) ≤ l.length by omega), dT (show (l.length : Int) ≤ (l ++ [t]).length by omega)]
      simp only [Option.bind_some, cond_true, Bool.and_self, show ((0 : Int) != 0) = false from rfl, cond_false]
      rw [hput.length, hll, show (((l.length + 1 : Nat) : Int) != ((l.length + 1 : Nat) : Int)) = false by simp, cond_false, dF (show ¬ ((bd (l.length + 1) nodes.length : Nat) : Int) < (bd l.length nodes.length : Nat) by omega), cond_false,
        show wr .i64 (((bd l.length nodes.length : Nat) : Int) + 2) = ((bd l.length nodes.length : Nat) : Int) + 2 from wr_i64 (by omega) (by omega), dF (show ¬ ((bd (l.length + 1) nodes.length : Nat) : Int) > ((bd l.length nodes.length : Nat) : Int) + 2 by omega)]
      unfold F7_j2
      rw [cond_false]
      by_cases hxy : bd (l.length + 1) nodes.length = bd l.length nodes.length
      · rw [hll, hxy] at hput
        rw [hxy, show (((bd l.length nodes.length : Nat) : Int) != ((bd l.length nodes.length : Nat) : Int)) = false by simp, cond_false, toNat_cast]
        have hlen := hput.length
        rw [hll] at hlen
        have hlen' := hput'.length
        rw [assign_snoc] at *
        have htake : List.take l.length (putStep ((bd l.length nodes.length : Nat) : Int) (pts s nodes) (assign ((bd l.length nodes.length : Nat) : Int) (pts s nodes) l) t) = assign ((bd l.length nodes.length : Nat) : Int) (pts s nodes) l := take_put _ _ _ hlen'
        rw [hlen, htake, List.drop_zero, same_put _ (by omega), dT (show (0 : Int) ≤ l.length by omega), dT (show (l.length : Int) ≤ ((l.length + 1 : Nat) : Int) by omega), awake14]
        rfl
      · rw [show (((bd (l.length + 1) nodes.length : Nat) : Int) != ((bd l.length nodes.length : Nat) : Int)) = true by simp; omega, cond_true, awake14]; rfl
end Go.Proofs.YtomijlhmjenaoaaDoor.PureLoadAhead
