/- The ring's functions, plainly: the search, a key's place, the walk. -/
import Derived.Test.YtomijlhmjenaoaaDoorPRing3
namespace Go.Proofs.YtomijlhmjenaoaaDoor
open Go Go.Tat
set_option linter.unusedVariables false
theorem F65_eq (p : Point) (h : Int) : F65 p h = some (cmpI p.1 h) := by simp only [F65, F61_eq, Option.bind_some]
theorem mid_eq {i j : Nat} (hj : j ≤ 1000000000000) (hi : i ≤ j) : wr .i64 (Int.fdiv (wr .u64 (wr .i64 ((i : Int) + j))) (pow2 1)) = (((i + j) / 2 : Nat) : Int) := by
  rw [wr_i64 (x := (i : Int) + j) (by omega) (by omega), wr_u64 (by omega) (by omega), show pow2 1 = 2 from rfl, Int.fdiv_eq_ediv_of_nonneg _ (by omega), wr_i64 (by omega) (by omega)]
  omega
theorem cmpI_ge {x y : Int} (h : ¬ x < y) : ¬ cmpI x y < 0 := by
  unfold cmpI
  repeat' split
  all_goals omega
/-- The hashes rise. -/
def Rise (l : List Point) : Prop := ∀ i j, i ≤ j → j < l.length → (l.getD i (0, 0, 0)).1 ≤ (l.getD j (0, 0, 0)).1
theorem PtsOk.rise {l : List Point} (h : PtsOk l) : Rise l := fun i j hij hj => by
  by_cases e : i = j
  · subst e; exact Int.le_refl _
  · have := ptLt_at h.sorted (show i < j by omega) hj
    unfold ptLt at this; omega
theorem search_loop {l : List Point} {t n : Int} (hl : l.length ≤ 1000000000000) (hr : Rise l) : ∀ (m i j : Nat), j - i ≤ m → i ≤ j → j ≤ l.length → (∀ k, k < i → (l.getD k (0, 0, 0)).1 < t) → (∀ k, j ≤ k → k < l.length → t ≤ (l.getD k (0, 0, 0)).1) →
    ∃ k : Nat, k ≤ l.length ∧ (∀ i, i < k → (l.getD i (0, 0, 0)).1 < t) ∧ (∀ i, k ≤ i → i < l.length → t ≤ (l.getD i (0, 0, 0)).1) ∧
      iterω (fun s : List Point × Int × Int × Int × Int => F64_s1 s.1 s.2.1 s.2.2.1 s.2.2.2.1 s.2.2.2.2) (m + 1) (l, t, n, (i : Int), (j : Int)) = some (l, t, n, (k : Int))
  | m, i, j, hm, hij, hj, h1, h2 => by
    by_cases hlt : i < j
    · obtain ⟨m', rfl⟩ : ∃ m', m = m' + 1 := ⟨m - 1, by omega⟩
      by_cases hc : (l.getD ((i + j) / 2) (0, 0, 0)).1 < t
      · obtain ⟨k, hk, a, b, c⟩ := search_loop (n := n) hl hr m' ((i + j) / 2 + 1) j (by omega) (by omega) hj (fun k hk => by
          have := hr k ((i + j) / 2) (by omega) (by omega); omega) h2
        refine ⟨k, hk, a, b, ?_⟩
        rw [iterω_inl (s' := (l, t, n, (((i + j) / 2 + 1 : Nat) : Int), (j : Int))) ?_]
        · exact c
        · simp only [F64_s1, mid_eq (show j ≤ 1000000000000 by omega) hij, toNat_cast]
          rw [dT (show (i : Int) < j by omega), dT (show (0 : Int) ≤ (((i + j) / 2 : Nat) : Int) by omega), dT (show (((i + j) / 2 : Nat) : Int) < l.length by omega), F65_eq, wr_succ (by omega)]
          simp only [cond_true, Bool.and_self, Option.bind_some]
          rw [dT (show cmpI (l.getD ((i + j) / 2) (0, 0, 0)).1 t < 0 by unfold cmpI; split <;> omega), cond_true]
      · obtain ⟨k, hk, a, b, c⟩ := search_loop (n := n) hl hr m' i ((i + j) / 2) (by omega) (by omega) (by omega) h1 (fun k hk1 hk2 => by
          have := hr ((i + j) / 2) k (by omega) (by omega); omega)
        refine ⟨k, hk, a, b, ?_⟩
        rw [iterω_inl (s' := (l, t, n, (i : Int), (((i + j) / 2 : Nat) : Int))) ?_]
        · exact c
        · simp only [F64_s1, mid_eq (show j ≤ 1000000000000 by omega) hij, toNat_cast]
          rw [dT (show (i : Int) < j by omega), dT (show (0 : Int) ≤ (((i + j) / 2 : Nat) : Int) by omega), dT (show (((i + j) / 2 : Nat) : Int) < l.length by omega), F65_eq]
          simp only [cond_true, Bool.and_self, Option.bind_some]
          rw [dF (cmpI_ge hc), cond_false]
    · have e : i = j := by omega
      subst e
      exact ⟨i, hj, h1, h2, iterω_inr (by simp only [F64_s1]; rw [dF (by omega), cond_false])⟩
theorem search_eq {l : List Point} (t : Int) (hl : l.length ≤ 1000000000000) (hr : Rise l) :
    ∃ (k : Nat) (b : Bool), k ≤ l.length ∧ (∀ i, i < k → (l.getD i (0, 0, 0)).1 < t) ∧ (∀ i, k ≤ i → i < l.length → t ≤ (l.getD i (0, 0, 0)).1) ∧ F64 l t = some ((k : Int), b) := by
  obtain ⟨k, hk, a, b, c⟩ := search_loop (n := (l.length : Int)) (t := t) hl hr l.length 0 l.length (by omega) (by omega) (by omega) (fun k hk => by omega) (fun k h1 h2 => by omega)
  have h := loopN_of (n := l.length + 1) c (by omega)
  unfold F64 F64_l1
  rw [show loopN (S := List Point × Int × Int × Int × Int) (O := List Point × Int × Int × Int) (fun s => F64_s1 s.1 s.2.1 s.2.2.1 s.2.2.2.1 s.2.2.2.2) (l, t, (l.length : Int), 0, (l.length : Int)) = _ from h]
  simp only [Option.bind_some]
  by_cases hkl : k < l.length
  · rw [dT (show (k : Int) < l.length by omega), dT (show (0 : Int) ≤ k by omega), F65_eq]
    exact ⟨k, _, hk, a, b, rfl⟩
  · rw [dF (show ¬ (k : Int) < l.length by omega)]
    exact ⟨k, _, hk, a, b, rfl⟩
/-- The points in the order of a walk. -/
def turned (l : List Point) (t : Int) : List Point := l.filter (fun x => decide (t ≤ x.1)) ++ l.filter (fun x => decide (x.1 < t))
theorem take_filter {l : List Point} {t : Int} {k : Nat} (hk : k ≤ l.length) (a : ∀ i, i < k → (l.getD i (0, 0, 0)).1 < t) (b : ∀ i, k ≤ i → i < l.length → t ≤ (l.getD i (0, 0, 0)).1) :
    l.filter (fun x => decide (x.1 < t)) = l.take k ∧ l.filter (fun x => decide (t ≤ x.1)) = l.drop k := by
  have h1 : ∀ x ∈ l.take k, x.1 < t := by
    intro x hx
    obtain ⟨i, hi, e⟩ := List.getElem_of_mem hx
    simp at hi
    have := a i (by omega)
    rw [at_getD (x := x)] at this
    · exact this
    · rw [← e, List.getElem_take, List.getElem?_eq_getElem]
  have h2 : ∀ x ∈ l.drop k, t ≤ x.1 := by
    intro x hx
    obtain ⟨i, hi, e⟩ := List.getElem_of_mem hx
    simp at hi
    have := b (k + i) (by omega) (by omega)
    rw [at_getD (x := x)] at this
    · exact this
    · rw [← e, List.getElem_drop, List.getElem?_eq_getElem]
  constructor
  · conv => lhs; rw [← List.take_append_drop k l]
    rw [List.filter_append, List.filter_eq_self.2 (fun x hx => by simpa using h1 x hx), List.filter_eq_nil_iff.2 (fun x hx => by have := h2 x hx; simp; omega), List.append_nil]
  · conv => lhs; rw [← List.take_append_drop k l]
    rw [List.filter_append, List.filter_eq_nil_iff.2 (fun x hx => by have := h1 x hx; simp; omega), List.filter_eq_self.2 (fun x hx => by simpa using h2 x hx), List.nil_append]
theorem place_eq {l : List Point} (key : ByteArray) (hs : key.size ≤ 4611686018427387904) (h : PtsOk l) (hne : l ≠ []) :
    ∃ at' : Nat, at' < l.length ∧ F44 l key = some ((at' : Int), 0) ∧ turned l (sum [key]) = l.drop at' ++ l.take at' := by
  have hf := h.few
  have hpos : 0 < l.length := List.length_pos_iff.2 hne
  obtain ⟨k, b, hk, h1, h2, e⟩ := search_eq (l := l) (sum [key]) (by omega) h.rise
  have ht := take_filter hk h1 h2
  have e3 : F40 [key] = some (sum [key]) := sum_eq _ (by simp) (by simp; omega)
  have e4 : F44 l key = some (((k % l.length : Nat) : Int), 0) := by
    unfold F44
    rw [check_eq h]
    simp only [Option.bind_some, show ((0 : Int) != 0) = false from rfl, cond_false]
    rw [show (((l.length : Nat) : Int) == 0) = false by simp; exact hne, cond_false, e3]
    simp only [Option.bind_some, e]
    rw [dF (show ¬ (l.length : Int) = 0 by omega), cond_false, Int.tmod_eq_emod_of_nonneg (by omega)]
    simp
  refine ⟨k % l.length, Nat.mod_lt _ hpos, e4, ?_⟩
  unfold turned
  rw [ht.1, ht.2]
  by_cases hkl : k < l.length
  · rw [Nat.mod_eq_of_lt hkl]
  · have : k = l.length := by omega
    subst this
    simp
theorem place_nil (key : ByteArray) : F44 [] key = some (0, 6) := by
  unfold F44
  rw [check_eq (l := []) ⟨List.Pairwise.nil, by simp, by simp⟩]
  rfl
theorem turned_at {l : List Point} {k : Nat} (hk : k < l.length) {i : Nat} {x : Point} (h : (l.drop k ++ l.take k)[i]? = some x) : l[(k + i) % l.length]? = some x := by
  have hi := at_lt h
  simp at hi
  by_cases h1 : i < l.length - k
  · rw [List.getElem?_append_left (by simp; omega), List.getElem?_drop] at h
    rw [Nat.mod_eq_of_lt (by omega)]; exact h
  · rw [List.getElem?_append_right (by simp; omega), List.length_drop, List.getElem?_take_of_lt (by omega)] at h
    have : (k + i) % l.length = i - (l.length - k) := by
      rw [Nat.mod_eq_sub_mod (by omega), Nat.mod_eq_of_lt (by omega)]; omega
    rw [this]; exact h
/-- One more node, if it is not there yet. -/
def addN (out : List Int) (x : Int) : List Int := if x ∈ out then out else out ++ [x]
def walk (l : List Point) (t : Int) : List Int := ((turned l t).map (·.2.1)).foldl addN []
def metOf (out : List Int) : List Bool := (List.range 64).map fun (n : Nat) => decide ((n : Int) ∈ out)
theorem metOf_get {out : List Int} {x : Int} (h0 : 0 ≤ x) (h1 : x ≤ 63) : List.getD (metOf out) x.toNat false = decide (x ∈ out) := by
  have : ((x.toNat : Nat) : Int) = x := by omega
  rw [List.getD_eq_getElem?_getD, metOf, List.getElem?_map, List.getElem?_range (by omega)]
  simp [this]
theorem metOf_set {out : List Int} {x : Int} (h0 : 0 ≤ x) (h1 : x ≤ 63) : List.set (metOf out) x.toNat true = metOf (out ++ [x]) := by
  apply List.ext_getElem?
  intro n
  by_cases hn : n < 64
  · rw [List.getElem?_set]
    simp only [metOf, List.getElem?_map, List.getElem?_range hn, List.length_map, List.length_range, Option.map_some]
    by_cases e : x.toNat = n
    · rw [if_pos e, if_pos (by omega)]
      have : (n : Int) = x := by omega
      simp [this]
    · rw [if_neg e]
      have : ¬ (n : Int) = x := by omega
      simp [this]
  · rw [List.getElem?_eq_none (by simp [metOf]; omega), List.getElem?_eq_none (by simp [metOf]; omega)]
theorem walk_eq {l : List Point} (key : ByteArray) (hs : key.size ≤ 4611686018427387904) (h : PtsOk l) (hne : l ≠ []) : F17 l key = some (0, walk l (sum [key])) := by
  have hf := h.few
  obtain ⟨k, hk, e, et⟩ := place_eq key hs h hne
  have hh := loopN_list (step := fun s : List Point × Int × Int × Int × List Bool × List Int => F17_s1 s.1 s.2.1 s.2.2.1 s.2.2.2.1 s.2.2.2.2.1 s.2.2.2.2.2)
    (l := l.drop k ++ l.take k) (fun i (a : List Int) => (l, (k : Int), (l.length : Int), (i : Int), metOf a, a))
    (fun _ x a => .inl (addN a x.2.1)) (fun a => a) (fun i a => a.length ≤ i) (by simp; omega)
    (fun i a x hx hi => by
      have hlt := at_lt hx
      simp at hlt
      have hx' := turned_at hk hx
      have hr := h.nodes x (List.mem_of_getElem? hx')
      have e1 : wr .i64 ((k : Int) + i) = ((k + i : Nat) : Int) := by rw [wr_i64 (by omega) (by omega)]; omega
      have e2 : Int.tmod ((k + i : Nat) : Int) (l.length : Int) = (((k + i) % l.length : Nat) : Int) := by
        rw [Int.tmod_eq_emod_of_nonneg (by omega)]; simp
      have h3 : (k + i) % l.length < l.length := Nat.mod_lt _ (by omega)
      simp only [F17_s1, e1, e2, toNat_cast, at_getD hx', metOf_get hr.1 hr.2, metOf_set hr.1 hr.2]
      rw [dT (show (i : Int) < l.length by omega), dF (show ¬ (l.length : Int) = 0 by omega), dT (show (0 : Int) ≤ (((k + i) % l.length : Nat) : Int) by omega), dT (show (((k + i) % l.length : Nat) : Int) < l.length by omega),
        dT hr.1, dT (show x.2.1 < ((metOf a).length : Int) by simp [metOf]; omega), wr_succ (by omega)]
      simp only [cond_true, cond_false, Bool.and_self]
      by_cases hm : x.2.1 ∈ a
      · rw [dT hm, addN, if_pos hm]; rfl
      · rw [dF hm, addN, if_neg hm, dT (by omega)]; rfl)
    (fun i x a a' hx hi hf => by
      simp only [Sum.inl.injEq] at hf
      subst hf
      unfold addN
      split
      · omega
      · simp only [List.length_append, List.length_cons, List.length_nil]; omega)
    (fun a hi => by simp only [F17_s1]; rw [dF (by simp; omega), cond_false]) [] (by simp)
  rw [foldE_foldl] at hh
  unfold F17 F17_l1
  rw [e]
  simp only [Option.bind_some, show ((0 : Int) != 0) = false from rfl, cond_false]
  rw [show loopN (S := List Point × Int × Int × Int × List Bool × List Int) (O := List Int) (fun s => F17_s1 s.1 s.2.1 s.2.2.1 s.2.2.2.1 s.2.2.2.2.1 s.2.2.2.2.2) (l, (k : Int), (l.length : Int), 0, List.replicate 64 false, []) = _ from hh]
  simp only [Option.bind_some]
  rw [walk, et, List.foldl_map]
theorem walk_nil (key : ByteArray) : F17 [] key = some (6, []) := by unfold F17; rw [place_nil]; rfl
theorem owner_eq {l : List Point} (key : ByteArray) (hs : key.size ≤ 4611686018427387904) (h : PtsOk l) (hne : l ≠ []) : ∃ x r, turned l (sum [key]) = x :: r ∧ F18 l key = some (x.2.1, 0) := by
  have hf := h.few
  obtain ⟨k, hk, e, et⟩ := place_eq key hs h hne
  rw [List.drop_eq_getElem_cons hk, List.cons_append] at et
  refine ⟨_, _, et, ?_⟩
  unfold F18
  rw [e]
  simp only [Option.bind_some, show ((0 : Int) != 0) = false from rfl, cond_false, toNat_cast]
  rw [dT (show (0 : Int) ≤ k by omega), dT (show (k : Int) < l.length by omega), List.getD_eq_getElem?_getD, List.getElem?_eq_getElem hk]
  rfl
end Go.Proofs.YtomijlhmjenaoaaDoor
