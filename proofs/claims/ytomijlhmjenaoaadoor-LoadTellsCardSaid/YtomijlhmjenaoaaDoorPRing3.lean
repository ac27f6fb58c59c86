/- The ring's functions, plainly: points, and their check. -/
import Derived.Test.YtomijlhmjenaoaaDoorPRing2
namespace Go.Proofs.YtomijlhmjenaoaaDoor
open Go Go.Tat
set_option linter.unusedVariables false
def hash (n i : Int) : Int := sum [dig n, ⟨#[47]⟩, dig i]
def ptsOf (s : Nat) (n : Int) : List Point := (List.range s).map fun (i : Nat) => (hash n (i : Int), n, (i : Int))
def allPts (s : Nat) (l : List Int) : List Point := l.flatMap (ptsOf s)
def pts (s : Nat) (l : List Int) : List Point := sortBy (fun x y => decide (cmp43 x y < 0)) (allPts s l)
theorem foldl_snoc {E B : Type} (g : E → B) : ∀ (l : List E) (a : List B), l.foldl (fun a x => a ++ [g x]) a = a ++ l.map g
  | [], a => by simp
  | x :: r, a => by rw [List.foldl_cons, foldl_snoc g r]; simp
theorem foldl_app {E B : Type} (g : E → List B) : ∀ (l : List E) (a : List B), l.foldl (fun a x => a ++ g x) a = a ++ l.flatMap g
  | [], a => by simp
  | x :: r, a => by rw [List.foldl_cons, foldl_app g r]; simp
theorem range_at {n i x : Nat} (h : (List.range n)[i]? = some x) : x = i ∧ i < n := by
  have := at_lt h
  simp at this
  rw [List.getElem?_range this] at h
  exact ⟨(Option.some.inj h).symm, this⟩
theorem inner_eq {s : Nat} {n : Int} (t21 : List Int) (t22 t23 : Int) (out : List Point) (hs : s ≤ 32) (h0 : 0 ≤ n) (h1 : n ≤ 63) (ho : out.length ≤ 5000) :
    F16_l3 s n t21 t22 t23 s 0 out = some ((s : Int), t21, t22, t23, out ++ ptsOf s n) := by
  have h := loopN_list (step := fun s : Int × Int × List Int × Int × Int × Int × Int × List Point => F16_s3 s.1 s.2.1 s.2.2.1 s.2.2.2.1 s.2.2.2.2.1 s.2.2.2.2.2.1 s.2.2.2.2.2.2.1 s.2.2.2.2.2.2.2)
    (l := List.range s) (fun i (a : List Point) => ((s : Int), n, t21, t22, t23, (s : Int), (i : Int), a))
    (fun _ x a => .inl (a ++ [(hash n (x : Int), n, (x : Int))])) (fun a => ((s : Int), t21, t22, t23, a)) (fun i a => a.length = out.length + i) (by simp; omega)
    (fun i a x hx hi => by
      obtain ⟨rfl, hi'⟩ := range_at hx
      have e1 := itoa_eq h0 (show n < 100 by omega)
      have e2 := itoa_eq (show (0 : Int) ≤ (x : Int) by omega) (show (x : Int) < 100 by omega)
      have e3 : F40 [dig n, ⟨#[47]⟩, dig x] = some (hash n x) := sum_eq _ (by simp) (by
        intro z hz
        simp only [List.mem_cons, List.not_mem_nil, or_false] at hz
        rcases hz with rfl | rfl | rfl
        · have := e1.2; omega
        · exact Nat.le_of_lt_succ (by decide)
        · have := e2.2; omega)
      simp only [F16_s3]
      rw [dT (show (x : Int) < s by omega), e1.1, e2.1]
      simp only [cond_true, Option.bind_some]
      rw [e3]
      simp only [Option.bind_some]
      rw [dT (by omega), cond_true, wr_succ (by omega)])
    (fun i x a a' hx hi hf => by
      simp only [Sum.inl.injEq] at hf
      subst hf; simp; omega)
    (fun a hi => by simp only [F16_s3, List.length_range]; rw [dF (by omega), cond_false]) out (by simp)
  rw [foldE_foldl, foldl_snoc] at h
  exact h
theorem ptsOf_length (s : Nat) (n : Int) : (ptsOf s n).length = s := by simp [ptsOf]
theorem outer_eq {s : Nat} {l : List Int} (hs : s ≤ 32) (hok : NodesOk l) : F16_l2 s l (l.length : Int) 0 [] = some (allPts s l) := by
  have hl := hok.length
  have h := loopN_list (step := fun s : Int × List Int × Int × Int × List Point => F16_s2 s.1 s.2.1 s.2.2.1 s.2.2.2.1 s.2.2.2.2)
    (l := l) (fun i (a : List Point) => ((s : Int), l, (l.length : Int), (i : Int), a))
    (fun _ x a => .inl (a ++ ptsOf s x)) (fun a => a) (fun i a => a.length = s * i) (by omega)
    (fun i a x hx hi => by
      have hlt := at_lt hx
      have hr := hok.2 x (List.mem_of_getElem? hx)
      have hb : a.length ≤ 5000 := by
        have : s * i ≤ 32 * 64 := Nat.mul_le_mul hs (by omega)
        omega
      simp only [F16_s2, toNat_cast, at_getD hx]
      rw [dT (show (i : Int) < l.length by omega), dT (show (0 : Int) ≤ i by omega), inner_eq l _ _ a hs hr.1 hr.2 hb]
      simp only [cond_true, Bool.and_self, Option.bind_some]
      rw [wr_succ (by omega)])
    (fun i x a a' hx hi hf => by
      simp only [Sum.inl.injEq] at hf
      subst hf; simp [ptsOf_length, hi, Nat.mul_succ])
    (fun a hi => by simp only [F16_s2]; rw [dF (by omega), cond_false]) [] (by simp)
  rw [foldE_foldl, foldl_app] at h
  exact h
theorem allPts_length (s : Nat) : ∀ l : List Int, (allPts s l).length = s * l.length
  | [] => by simp [allPts]
  | x :: r => by
    have := allPts_length s r
    simp only [allPts, List.flatMap_cons, List.length_append, ptsOf_length, List.length_cons] at *
    rw [this, Nat.mul_succ]; omega
theorem points_eq {s : Nat} {l : List Int} (h1 : 1 ≤ s) (h2 : s ≤ 32) (hok : NodesOk l) : F16 l s = some (0, pts s l) := by
  have hl := hok.length
  have hb : (allPts s l).length ≤ 2048 := by rw [allPts_length]; exact Nat.le_trans (Nat.mul_le_mul h2 hl) (by decide)
  unfold F16 F16_j1
  rw [turn_nodes l (by omega), if_pos hok]
  simp only [Option.bind_some, show ((0 : Int) != 0) = false from rfl, cond_false]
  rw [dF (show ¬ (s : Int) < 1 by omega), dF (show ¬ (s : Int) > 32 by omega), outer_eq h2 hok]
  simp only [Option.bind_some, cond_false, F42]
  rw [show Nat.blt (allPts s l).length 4611686018427387904 = true from Nat.ble_eq_true_of_le (by omega)]
  rfl
theorem points_bad {spots : Int} {l : List Int} (hl : l.length ≤ 4611686018427387904) (h : ¬ (1 ≤ spots ∧ spots ≤ 32 ∧ NodesOk l)) : F16 l spots = some (1, []) := by
  unfold F16 F16_j1
  rw [turn_nodes l hl]
  by_cases hok : NodesOk l
  · rw [if_pos hok]
    simp only [Option.bind_some, show ((0 : Int) != 0) = false from rfl, cond_false]
    by_cases h1 : spots < 1
    · rw [dT h1]; rfl
    · rw [dF h1, dT (show spots > 32 by
        by_cases h2 : spots > 32
        · exact h2
        · exact (h ⟨by omega, by omega, hok⟩).elim)]; rfl
  · rw [if_neg hok]; rfl

/-! ### Points are in their order -/
structure PtsOk (l : List Point) : Prop where
  sorted : l.Pairwise ptLt
  nodes : ∀ x ∈ l, 0 ≤ x.2.1 ∧ x.2.1 ≤ 63
  few : l.length ≤ 2048
theorem mem_ptsOf {s : Nat} {n : Int} {x : Point} : x ∈ ptsOf s n ↔ ∃ i : Nat, i < s ∧ x = (hash n i, n, (i : Int)) := by
  simp only [ptsOf, List.mem_map, List.mem_range]
  exact ⟨fun ⟨i, h, e⟩ => ⟨i, h, e.symm⟩, fun ⟨i, h, e⟩ => ⟨i, h, e.symm⟩⟩
theorem mem_allPts {s : Nat} {l : List Int} {x : Point} : x ∈ allPts s l ↔ ∃ n ∈ l, x ∈ ptsOf s n := by simp [allPts]
theorem ptsOf_nodup (s : Nat) (n : Int) : (ptsOf s n).Nodup := by
  unfold ptsOf List.Nodup
  rw [List.pairwise_map]
  refine List.Pairwise.imp (fun {a b} h e => ?_) (List.nodup_range (n := s))
  simp only [Prod.mk.injEq] at e
  omega
theorem allPts_nodup (s : Nat) : ∀ {l : List Int}, l.Nodup → (allPts s l).Nodup
  | [], _ => by simp [allPts]
  | x :: r, h => by
    rw [List.nodup_cons] at h
    simp only [allPts, List.flatMap_cons]
    rw [List.nodup_append]
    refine ⟨ptsOf_nodup s x, allPts_nodup s h.2, ?_⟩
    intro a ha b hb e
    subst e
    obtain ⟨n, hn, hb⟩ := mem_allPts.1 hb
    obtain ⟨i, _, rfl⟩ := mem_ptsOf.1 ha
    obtain ⟨j, _, hj⟩ := mem_ptsOf.1 hb
    simp only [Prod.mk.injEq] at hj
    exact h.1 (hj.2.1 ▸ hn)
theorem pts_perm (s : Nat) (l : List Int) : (pts s l).Perm (allPts s l) := sortBy_perm _
theorem pts_nodup (s : Nat) {l : List Int} (h : l.Nodup) : (pts s l).Nodup := (pts_perm s l).nodup_iff.2 (allPts_nodup s h)
theorem pts_le (s : Nat) (l : List Int) : (pts s l).Pairwise (fun a b => decide (cmp43 b a < 0) = false) :=
  sortBy_sorted (fun x y z h1 h2 => by
      simp only [decide_eq_false_iff_not, cmp43_lt] at *
      unfold ptLt at *; omega)
    (fun x y h => by
      simp only [decide_eq_false_iff_not, decide_eq_true_eq, cmp43_lt] at *
      unfold ptLt at *; omega) _
theorem pts_ok {s : Nat} {l : List Int} (h2 : s ≤ 32) (hok : NodesOk l) : PtsOk (pts s l) where
  sorted := by
    have hnd := pts_nodup s hok.nodup
    refine (hnd.and (pts_le s l)).imp fun {a b} h => ?_
    obtain ⟨hne, h⟩ := h
    simp only [decide_eq_false_iff_not, cmp43_lt] at h
    obtain ⟨a1, a2, a3⟩ := a
    obtain ⟨b1, b2, b3⟩ := b
    unfold ptLt at *
    simp only [] at *
    by_cases e1 : a1 = b1
    · by_cases e2 : a2 = b2
      · by_cases e3 : a3 = b3
        · exact (hne (by rw [e1, e2, e3])).elim
        · omega
      · omega
    · omega
  nodes x hx := by
    obtain ⟨n, hn, hb⟩ := mem_allPts.1 ((pts_perm s l).mem_iff.1 hx)
    obtain ⟨i, _, rfl⟩ := mem_ptsOf.1 hb
    exact hok.2 n hn
  few := by
    rw [(pts_perm s l).length_eq, allPts_length]
    exact Nat.le_trans (Nat.mul_le_mul h2 hok.length) (by decide)
theorem ptLt_at {l : List Point} (h : l.Pairwise ptLt) {i j : Nat} (hij : i < j) (hj : j < l.length) : ptLt (l.getD i (0, 0, 0)) (l.getD j (0, 0, 0)) := by
  rw [List.pairwise_iff_getElem] at h
  have := h i j (by omega) hj hij
  rw [List.getD_eq_getElem?_getD, List.getD_eq_getElem?_getD, List.getElem?_eq_getElem (by omega), List.getElem?_eq_getElem hj]
  exact this
theorem check_eq {l : List Point} (h : PtsOk l) : F63 l = some 0 := by
  have hf := h.few
  have hh := loopN_list (step := fun s : List Point × List Point × Int × Int => F63_s1 s.1 s.2.1 s.2.2.1 s.2.2.2)
    (l := l) (fun i (_ : Unit) => (l, l, (l.length : Int), (i : Int)))
    (fun _ x a => .inl ()) (fun a => (.inr () : Int ⊕ Unit)) (fun i a => True) (by omega)
    (fun i a x hx hi => by
      have hlt := at_lt hx
      have hr := h.nodes x (List.mem_of_getElem? hx)
      simp only [F63_s1, toNat_cast, at_getD hx]
      rw [dT (show (i : Int) < l.length by omega), dT (show (0 : Int) ≤ i by omega), dF (show ¬ x.2.1 < 0 by omega), dF (show ¬ x.2.1 ≥ 64 by omega)]
      simp only [cond_true, cond_false, Bool.and_self]
      by_cases h0 : i = 0
      · subst h0
        rw [dF (by omega), cond_false, wr_succ (by omega)]
      · have e1 : wr .i64 ((i : Int) - 1) = ((i - 1 : Nat) : Int) := by rw [wr_i64 (by omega) (by omega)]; omega
        have hp := ptLt_at h.sorted (show i - 1 < i by omega) hlt
        rw [at_getD hx] at hp
        rw [dT (by omega), cond_true, e1, dT (show (0 : Int) ≤ ((i - 1 : Nat) : Int) by omega), dT (show ((i - 1 : Nat) : Int) < l.length by omega), toNat_cast, F43_eq]
        simp only [cond_true, Bool.and_self, Option.bind_some]
        rw [dF (by have := (cmp43_lt _ _).2 hp; omega), cond_false, wr_succ (by omega)])
    (fun i x a a' hx hi hf => trivial)
    (fun a hi => by simp only [F63_s1]; rw [dF (by omega), cond_false]) () trivial
  rw [foldE_foldl] at hh
  unfold F63 F63_l1
  rw [dF (show ¬ (l.length : Int) > 2048 by omega), cond_false, show loopN (S := List Point × List Point × Int × Int) (O := Int ⊕ Unit) (fun s => F63_s1 s.1 s.2.1 s.2.2.1 s.2.2.2) (l, l, (l.length : Int), 0) = _ from hh]
  rfl
end Go.Proofs.YtomijlhmjenaoaaDoor
