/- The ring's functions, plainly: nodes, numbers, sums. -/
import Derived.Test.YtomijlhmjenaoaaDoorTatF
import Derived.Test.YtomijlhmjenaoaaDoorTatS
import Derived.KernelRfl
namespace Go.Proofs.YtomijlhmjenaoaaDoor
open Go Go.Tat
set_option linter.unusedVariables false
theorem awake13 : F15 = some true := by kernel_rfl

/-! ### Few -/
theorem few_text (s : ByteArray) : ∃ s', F13 s = some s' ∧ s'.size ≤ 300 := by
  unfold F13
  by_cases h : (s.size : Int) > 300
  · refine ⟨s.extract 0 300, ?_, by simp; omega⟩
    rw [dT h, cond_true, dT (show (300 : Int) ≤ s.size by omega), cond_true]
  · exact ⟨s, by rw [dF h, cond_false], by omega⟩
theorem few_nodes (l : List Int) : ∃ l', F12 l = some l' ∧ l'.length ≤ 65 := by
  unfold F12
  by_cases h : (l.length : Int) > 65
  · refine ⟨List.drop 0 (List.take 65 l), ?_, by simp; omega⟩
    rw [dT h, cond_true, dT (show (65 : Int) ≤ l.length by omega), cond_true]
  · exact ⟨l, by rw [dF h, cond_false], by omega⟩

/-! ### How often, and the same -/
theorem many_eq (l : List Int) (n : Int) (hl : l.length ≤ 4611686018427387904) : F19 l n = some ((l.count n : Nat) : Int) := by
  have h := loopN_list (step := fun s : List Int × Int × Int × Int => F19_s1 s.1 s.2.1 s.2.2.1 s.2.2.2) (l := l) (fun i (k : Nat) => (l, n, (k : Int), (i : Int)))
    (fun _ x k => if x = n then .inl (k + 1) else .inl k) (fun k => (k : Int)) (fun i k => k ≤ i) (by omega)
    (fun i k x hx hk => by
      have hi := at_lt hx
      simp only [F19_s1, toNat_cast, at_getD hx]
      rw [dT (show (i : Int) < l.length by omega), dT (show (0 : Int) ≤ i by omega)]
      simp only [cond_true, Bool.and_self]
      by_cases hxn : x = n
      · rw [show (x == n) = true by simpa using hxn, cond_true, if_pos hxn, wr_succ (by omega), wr_succ (by omega)]
      · rw [show (x == n) = false by simpa using hxn, cond_false, if_neg hxn, wr_succ (by omega)])
    (fun i x a a' hx ha hf => by
      by_cases hxn : x = n
      · rw [if_pos hxn] at hf; cases hf; omega
      · rw [if_neg hxn] at hf; cases hf; omega)
    (fun k hk => by
      simp only [F19_s1]
      rw [dF (by omega), cond_false]) 0 (by omega)
  have e : ∀ (r : List Int) (i k : Nat), foldE (fun _ x (k : Nat) => if x = n then (.inl (k + 1) : Nat ⊕ Int) else .inl k) (fun k => (k : Int)) i r k = ((k + r.count n : Nat) : Int) := by
    intro r
    induction r with
    | nil => intro i k; simp [foldE]
    | cons x r ih =>
      intro i k
      simp only [foldE]
      by_cases hxn : x = n
      · rw [if_pos hxn]; simp only []; rw [ih, hxn, List.count_cons_self]; congr 1; omega
      · rw [if_neg hxn]; simp only []; rw [ih, List.count_cons_of_ne hxn]
  rw [e] at h
  unfold F19 F19_l1
  rw [show loopN (S := List Int × Int × Int × Int) (O := Int) (fun s => F19_s1 s.1 s.2.1 s.2.2.1 s.2.2.2) (l, n, 0, 0) = _ from h]
  simp
theorem same_eq (a b : List Int) (hl : a.length ≤ 4611686018427387904) : F20 a b = some (decide (a = b)) := by
  unfold F20
  by_cases hab : a.length = b.length
  · rw [show (((a.length : Nat) : Int) != (b.length : Nat)) = false by simp [hab], cond_false]
    have h := loopN_list (step := fun s : List Int × List Int × Int => F20_s1 s.1 s.2.1 s.2.2) (l := a) (fun i (_ : Unit) => (a, b, (i : Int)))
      (fun i x _ => if x = b.getD i 0 then .inl () else .inr (.inl false)) (fun _ => .inr ()) (fun _ _ => True) (by omega)
      (fun i k x hx hk => by
        have hi := at_lt hx
        simp only [F20_s1, toNat_cast, at_getD hx]
        rw [dT (show (i : Int) < a.length by omega), dT (show (0 : Int) ≤ i by omega), dT (show (i : Int) < b.length by omega)]
        simp only [cond_true, Bool.and_self]
        by_cases hxn : x = b.getD i 0
        · rw [show (x != b.getD i 0) = false by simpa using hxn, cond_false, if_pos hxn, wr_succ (by omega)]
        · rw [show (x != b.getD i 0) = true by simpa using hxn, cond_true, if_neg hxn])
      (fun i x a a' hx ha hf => trivial)
      (fun k hk => by
        simp only [F20_s1]
        rw [dF (by omega), cond_false]) () trivial
    have e : ∀ (r pre q : List Int), b = pre ++ q → r.length = q.length → foldE (fun i x (_ : Unit) => if x = b.getD i 0 then (.inl () : Unit ⊕ (Bool ⊕ Unit)) else .inr (.inl false)) (fun _ => .inr ()) pre.length r () = if r = q then .inr () else .inl false := by
      intro r
      induction r with
      | nil => intro pre q hb hq; have := List.eq_nil_of_length_eq_zero hq.symm; subst this; simp [foldE]
      | cons x r ih =>
        intro pre q hb hq
        cases q with
        | nil => simp at hq
        | cons y q =>
          simp only [foldE]
          have hy : b.getD pre.length 0 = y := by rw [hb]; simp
          rw [hy]
          by_cases hxy : x = y
          · rw [if_pos hxy]; simp only []
            have := ih (pre ++ [y]) q (by rw [hb]; simp) (by simpa using hq)
            rw [show (pre ++ [y]).length = pre.length + 1 by simp] at this
            rw [this]
            simp [hxy]
          · rw [if_neg hxy]; simp only []; simp [hxy]
    have e0 := e a [] b rfl hab
    rw [show ([] : List Int).length = 0 from rfl] at e0
    rw [e0] at h
    unfold F20_l1
    rw [show loopN (S := List Int × List Int × Int) (O := Bool ⊕ Unit) (fun s => F20_s1 s.1 s.2.1 s.2.2) (a, b, 0) = _ from h]
    by_cases hq : a = b <;> simp [hq]
  · rw [show (((a.length : Nat) : Int) != (b.length : Nat)) = true by simp; omega, cond_true]
    have : a ≠ b := fun h => hab (by rw [h])
    simp [this]

/-! ### Which nodes may be -/
def NodesOk (l : List Int) : Prop := l.Pairwise (· < ·) ∧ ∀ x ∈ l, 0 ≤ x ∧ x ≤ 63
theorem NodesOk.nodup {l : List Int} (h : NodesOk l) : l.Nodup := h.1.imp (by omega)
theorem NodesOk.length {l : List Int} (h : NodesOk l) : l.length ≤ 64 := by
  have h1 : l.map Int.toNat ⊆ List.range 64 := fun y hy => by
    obtain ⟨x, hx, rfl⟩ := List.mem_map.1 hy
    have := h.2 x hx
    simp; omega
  have h2 : (l.map Int.toNat).Nodup := by
    rw [List.Nodup, List.pairwise_map]
    refine List.Pairwise.imp_of_mem ?_ h.1
    intro a b ha hb hab
    have := h.2 a ha; have := h.2 b hb; omega
  have h3 := h2.length_le_of_subset h1
  simpa using h3
theorem pairwise_of_adj {R : Int → Int → Prop} (htr : ∀ a b c, R a b → R b c → R a c) : ∀ l : List Int, (∀ j, j + 1 < l.length → R (l.getD j 0) (l.getD (j + 1) 0)) → l.Pairwise R
  | [], _ => List.Pairwise.nil
  | x :: r, h => by
    rw [List.pairwise_cons]
    refine ⟨fun y hy => ?_, pairwise_of_adj htr r fun j hj => by have := h (j + 1) (by simp; omega); simpa using this⟩
    obtain ⟨k, hk⟩ := List.getElem?_of_mem hy
    have key : ∀ k, k < r.length → R x (r.getD k 0) := by
      intro k
      induction k with
      | zero => intro hk; have := h 0 (by simp; omega); simpa using this
      | succ k ih => intro hk; exact htr _ _ _ (ih (by omega)) (by have := h (k + 1) (by simp; omega); simpa using this)
    have := key k (at_lt hk)
    rwa [at_getD hk] at this
theorem adj_of_pairwise {R : Int → Int → Prop} {l : List Int} (h : l.Pairwise R) (j : Nat) (hj : j + 1 < l.length) : R (l.getD j 0) (l.getD (j + 1) 0) := by
  have := List.pairwise_iff_getElem.1 h j (j + 1) (by omega) hj (by omega)
  simpa [List.getD_eq_getElem?_getD, List.getElem?_eq_getElem hj, List.getElem?_eq_getElem (show j < l.length by omega)] using this
theorem getD_set (m : List Bool) (i j : Nat) (h : i < m.length) : (m.set i true).getD j false = if i = j then true else m.getD j false := by
  simp only [List.getD_eq_getElem?_getD, List.getElem?_set]
  by_cases hij : i = j
  · subst hij; simp [h]
  · simp [hij]
theorem distinct_eq (l : List Int) (hl : l.length ≤ 4611686018427387904) : F54 l = some (decide (l.Nodup ∧ ∀ x ∈ l, 0 ≤ x ∧ x ≤ 63)) := by
  let f : Nat → Int → List Bool → List Bool ⊕ (Bool ⊕ Unit) := fun _ x met => if x < 0 ∨ x ≥ 64 then .inr (.inl false) else if met.getD x.toNat false = true then .inr (.inl false) else .inl (met.set x.toNat true)
  have h := loopN_list (step := fun s : List Int × Int × Int × List Bool => F54_s1 s.1 s.2.1 s.2.2.1 s.2.2.2) (l := l) (fun i (met : List Bool) => (l, (l.length : Int), (i : Int), met))
    f (fun _ => .inr ()) (fun _ met => met.length = 64) (by omega)
    (fun i met x hx hm => by
      have hi := at_lt hx
      simp only [F54_s1, toNat_cast, at_getD hx, f]
      rw [dT (show (i : Int) < l.length by omega), dT (show (0 : Int) ≤ i by omega)]
      simp only [cond_true, Bool.and_self]
      by_cases h1 : x < 0
      · rw [dT h1, cond_true, if_pos (.inl h1)]
      · rw [dF h1, cond_false]
        by_cases h2 : x ≥ 64
        · rw [dT h2, cond_true, if_pos (.inr h2)]
        · rw [dF h2, cond_false, if_neg (by omega), dT (show 0 ≤ x by omega), dT (show x < met.length by omega)]
          simp only [cond_true, Bool.and_self]
          cases h3 : met.getD x.toNat false with
          | true => rfl
          | false => simp only [cond_false, Bool.false_eq_true, if_false]; rw [wr_succ (by omega)])
    (fun i x a a' hx ha hf => by
      simp only [f] at hf
      split at hf
      · cases hf
      · split at hf
        · cases hf
        · cases hf; simpa using ha)
    (fun met hm => by simp only [F54_s1]; rw [dF (by omega), cond_false]) (List.replicate 64 false) (by simp)
  have e : ∀ (r : List Int) (i : Nat) (met : List Bool), met.length = 64 → foldE f (fun _ => .inr ()) i r met = if (r.Nodup ∧ ∀ x ∈ r, 0 ≤ x ∧ x ≤ 63 ∧ met.getD x.toNat false = false) then .inr () else .inl false := by
    intro r
    induction r with
    | nil => intro i met hm; simp [foldE]
    | cons x r ih =>
      intro i met hm
      simp only [foldE, f]
      by_cases h1 : x < 0 ∨ x ≥ 64
      · rw [if_pos h1]; simp only []; rw [if_neg (fun h => by have := h.2 x (by simp); omega)]
      · rw [if_neg h1]
        cases h2 : met.getD x.toNat false with
        | true =>
          rw [if_pos rfl]; simp only []; rw [if_neg (fun h => by have := (h.2 x (by simp)).2.2; rw [h2] at this; cases this)]
        | false =>
          rw [if_neg (by simp)]; simp only []
          rw [ih (i + 1) _ (by simpa using hm)]
          have hx : x.toNat < met.length := by omega
          congr 1
          apply propext
          constructor
          · rintro ⟨g1, g2⟩
            refine ⟨List.nodup_cons.2 ⟨fun hm => ?_, g1⟩, fun y hy => ?_⟩
            · have := (g2 x hm).2.2
              rw [getD_set _ _ _ hx, if_pos rfl] at this; cases this
            · cases hy with
              | head => exact ⟨by omega, by omega, h2⟩
              | tail _ hy =>
                have := g2 y hy
                refine ⟨this.1, this.2.1, ?_⟩
                have h3 := this.2.2
                rw [getD_set _ _ _ hx] at h3
                split at h3
                · cases h3
                · exact h3
          · rintro ⟨g1, g2⟩
            rw [List.nodup_cons] at g1
            refine ⟨g1.2, fun y hy => ?_⟩
            have := g2 y (by simp [hy])
            refine ⟨this.1, this.2.1, ?_⟩
            rw [getD_set _ _ _ hx, if_neg (fun e => ?_)]
            · exact this.2.2
            · have hxy : x = y := by omega
              exact g1.1 (hxy ▸ hy)
  rw [e l 0 _ (by simp)] at h
  unfold F54 F54_l1
  rw [show loopN (S := List Int × Int × Int × List Bool) (O := Bool ⊕ Unit) (fun s => F54_s1 s.1 s.2.1 s.2.2.1 s.2.2.2) (l, (l.length : Int), 0, List.replicate 64 false) = _ from h]
  have hd : (l.Nodup ∧ ∀ x ∈ l, 0 ≤ x ∧ x ≤ 63 ∧ (List.replicate 64 false).getD x.toNat false = false) ↔ (l.Nodup ∧ ∀ x ∈ l, 0 ≤ x ∧ x ≤ 63) := by
    constructor
    · exact fun ⟨h1, h2⟩ => ⟨h1, fun x hx => ⟨(h2 x hx).1, (h2 x hx).2.1⟩⟩
    · refine fun ⟨h1, h2⟩ => ⟨h1, fun x hx => ⟨(h2 x hx).1, (h2 x hx).2, ?_⟩⟩
      simp only [List.getD_eq_getElem?_getD, List.getElem?_replicate]; split <;> rfl
  by_cases hq : (l.Nodup ∧ ∀ x ∈ l, 0 ≤ x ∧ x ≤ 63)
  · rw [if_pos (hd.2 hq), dT hq]; rfl
  · rw [if_neg (fun h => hq (hd.1 h)), dF hq]; rfl
theorem less_eq (x y : Int) : F68 x y = some (decide (x < y)) := by simp [F68, F81]
open Classical in
theorem sorted_eq (l : List Int) (hl : l.length ≤ 4611686018427387904) : F55 l = some (decide (∀ j, j + 1 < l.length → l.getD j 0 ≤ l.getD (j + 1) 0)) := by
  have key : ∀ m, m < l.length → iterω (fun s : List Int × Int => F55_s1 s.1 s.2) (m + 1) (l, (m : Int)) = some (if (∀ j, j + 1 ≤ m → l.getD j 0 ≤ l.getD (j + 1) 0) then .inr () else .inl false) := by
    intro m
    induction m with
    | zero =>
      intro hm
      rw [iterω_inr (o := .inr ()) (by simp [F55_s1]), if_pos (fun j hj => by omega)]
    | succ m ih =>
      intro hm
      have hm1 : ((m + 1 : Nat) : Int) - 1 = (m : Int) := by omega
      have hw : wr .i64 ((m : Nat) : Int) = (m : Int) := wr_i64 (by omega) (by omega)
      have hstep : F55_s1 l ((m + 1 : Nat) : Int) = if l.getD (m + 1) 0 < l.getD m 0 then some (.inr (.inl false)) else some (.inl (l, (m : Int))) := by
        simp only [F55_s1, hm1, hw, less_eq, toNat_cast, Option.bind_some]
        rw [dT (show ((m + 1 : Nat) : Int) > 0 by omega), dT (show (0 : Int) ≤ ((m + 1 : Nat) : Int) by omega), dT (show ((m + 1 : Nat) : Int) < l.length by omega), dT (show (0 : Int) ≤ (m : Int) by omega), dT (show (m : Int) < l.length by omega)]
        simp only [cond_true, Bool.and_self]
        by_cases h : l.getD (m + 1) 0 < l.getD m 0
        · rw [dT h, cond_true, if_pos h]
        · rw [dF h, cond_false, if_neg h]
      by_cases h : l.getD (m + 1) 0 < l.getD m 0
      · rw [if_pos h] at hstep
        rw [iterω_inr hstep, if_neg (fun hh => by have := hh m (by omega); omega)]
      · rw [if_neg h] at hstep
        rw [iterω_inl hstep, ih (by omega)]
        congr 1
        have : (∀ j, j + 1 ≤ m → l.getD j 0 ≤ l.getD (j + 1) 0) ↔ (∀ j, j + 1 ≤ m + 1 → l.getD j 0 ≤ l.getD (j + 1) 0) := by
          constructor
          · intro hh j hj
            by_cases hjm : j = m
            · subst hjm; omega
            · exact hh j (by omega)
          · exact fun hh j hj => hh j (by omega)
        simp only [this]
  unfold F55 F55_l1
  cases hn : l.length with
  | zero =>
    have h0 : wr .i64 (((0 : Nat) : Int) - 1) = -1 := wr_i64 (by omega) (by omega)
    rw [h0]
    rw [show loopN (S := List Int × Int) (O := Bool ⊕ Unit) (fun s => F55_s1 s.1 s.2) (l, -1) = some (.inr ()) from loopN_of (n := 1) (iterω_inr (by simp [F55_s1])) (by omega)]
    rw [dT (fun j hj => by omega)]; rfl
  | succ n =>
    have h0 : wr .i64 (((n + 1 : Nat) : Int) - 1) = (n : Int) := by rw [show ((n + 1 : Nat) : Int) - 1 = (n : Int) by omega]; exact wr_i64 (by omega) (by omega)
    rw [h0]
    rw [show loopN (S := List Int × Int) (O := Bool ⊕ Unit) (fun s => F55_s1 s.1 s.2) (l, (n : Int)) = _ from loopN_of (key n (by omega)) (by omega)]
    have : (∀ j, j + 1 ≤ n → l.getD j 0 ≤ l.getD (j + 1) 0) ↔ (∀ j, j + 1 < n + 1 → l.getD j 0 ≤ l.getD (j + 1) 0) := ⟨fun h j hj => h j (by omega), fun h j hj => h j (by omega)⟩
    by_cases hq : (∀ j, j + 1 < n + 1 → l.getD j 0 ≤ l.getD (j + 1) 0)
    · rw [if_pos (this.2 hq), dT hq]; rfl
    · rw [if_neg (fun h => hq (this.1 h)), dF hq]; rfl
theorem nodes_iff (l : List Int) : NodesOk l ↔ (l.Nodup ∧ ∀ x ∈ l, 0 ≤ x ∧ x ≤ 63) ∧ ∀ j, j + 1 < l.length → l.getD j 0 ≤ l.getD (j + 1) 0 := by
  constructor
  · exact fun h => ⟨⟨h.nodup, h.2⟩, fun j hj => Int.le_of_lt (adj_of_pairwise h.1 j hj)⟩
  · rintro ⟨⟨h1, h2⟩, h3⟩
    refine ⟨?_, h2⟩
    have := pairwise_of_adj (R := (· ≤ ·)) (fun a b c => Int.le_trans) l h3
    exact (List.pairwise_and_iff.2 ⟨this, h1⟩).imp (fun ⟨a, b⟩ => by omega)
open Classical in
theorem turn_nodes (l : List Int) (hl : l.length ≤ 4611686018427387904) : F39 l = some (if NodesOk l then 0 else 1) := by
  unfold F39
  rw [distinct_eq l hl, Option.bind_some, sorted_eq l hl]
  have hi := nodes_iff l
  by_cases h1 : (l.Nodup ∧ ∀ x ∈ l, 0 ≤ x ∧ x ≤ 63)
  · by_cases h2 : ∀ j, j + 1 < l.length → l.getD j 0 ≤ l.getD (j + 1) 0
    · rw [if_pos (hi.2 ⟨h1, h2⟩), dT h1, dT h2]; rfl
    · rw [if_neg (fun h => h2 (hi.1 h).2), dT h1, dF h2]; rfl
  · rw [if_neg (fun h => h1 (hi.1 h).1), dF h1]; rfl
end Go.Proofs.YtomijlhmjenaoaaDoor
