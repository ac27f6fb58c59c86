/- The load's functions, plainly: what is put, and where. -/
import Derived.Test.YtomijlhmjenaoaaDoorPLoad2
import Derived.Test.YtomijlhmjenaoaaDoorPureRingWalks
namespace Go.Proofs.YtomijlhmjenaoaaDoor
open Go Go.Tat PureRingWalks PureLoadMost
set_option linter.unusedVariables false
def bd (t n : Nat) : Nat := (5 * t + 4 * n - 1) / (4 * n)
theorem bd_eq {t n : Nat} (h1 : t ≤ 100) (h2 : 1 ≤ n) (h3 : n ≤ 64) : F24 (t : Int) (n : Int) = some ((bd t n : Int), 0) := by
  rw [bound_eq (by omega) (by omega) (by omega) (by omega)]
  have : (5 * (t : Int) + 4 * n - 1) = ((5 * t + 4 * n - 1 : Nat) : Int) := by omega
  rw [this, bd, Int.natCast_ediv]; rfl
theorem bd_spec {t n : Nat} (h2 : 1 ≤ n) : 5 * t ≤ 4 * n * bd t n ∧ 4 * n * bd t n ≤ 5 * t + 4 * n - 1 := by
  have e1 := Nat.div_add_mod (5 * t + 4 * n - 1) (4 * n)
  have e3 := Nat.mod_lt (5 * t + 4 * n - 1) (show 4 * n > 0 by omega)
  unfold bd
  constructor <;> omega
theorem bd_room {t n : Nat} (h2 : 1 ≤ n) : t ≤ n * bd t n := by
  have := (bd_spec (t := t) h2).1
  rw [Nat.mul_assoc] at this; omega
theorem walk_perm {s : Nat} {nodes : List Int} (h1 : 1 ≤ s) (hok : NodesOk nodes) (t : Int) : (walk (pts s nodes) t).Perm nodes := nodup_perm (walk_nodup _ _) hok.nodup fun y => walk_mem h1 t y
theorem assign_eq {nodes : List Int} {s : Nat} {l : List ByteArray} (hok : NodesOk nodes) (hne : nodes ≠ []) (h1 : 1 ≤ s) (h2 : s ≤ 32) (ht : tasksB l = true) :
    F23 nodes s l = some (0, assign (bd l.length nodes.length : Nat) (pts s nodes) l) := by
  obtain ⟨t1, t2, t3⟩ := tasks_iff.1 ht
  have hpos := List.length_pos_iff.2 hne
  have hs : ∀ x ∈ l, x.size ≤ 20 := fun x hx => name_size (t2 x hx)
  unfold F23
  rw [points_eq h1 h2 hok]
  simp only [Option.bind_some, show ((0 : Int) != 0) = false from rfl, cond_false]
  rw [load_tasks l (by omega) (fun x hx => by have := hs x hx; omega), ht]
  simp only [Option.bind_some, cond_true, show ((0 : Int) != 0) = false from rfl, cond_false]
  rw [show ((nodes.length : Int) == 0) = false by simp only [beq_eq_false_iff_ne, ne_eq]; omega, cond_false, bd_eq t1 hpos hok.length]
  simp only [Option.bind_some, show ((0 : Int) != 0) = false from rfl, cond_false]
  rw [outer2_eq _ (pts_ok h2 hok) (pts_ne h1 hne) t1 hs (fun t => by rw [(walk_perm h1 hok t).length_eq]; have := hok.length; omega)]
  rfl
theorem sum_le {l : List Nat} {m : Nat} (h : ∀ x ∈ l, m ≤ x) : l.length * m ≤ l.sum := by
  induction l with
  | nil => simp
  | cons x r ih =>
    have h1 := ih fun y hy => h y (by simp [hy])
    have h2 := h x (by simp)
    rw [List.sum_cons, List.length_cons, Nat.succ_mul]; omega
theorem sum_cnt {nodes : List Int} (hnd : nodes.Nodup) : ∀ out : List Put, (nodes.map (cnt out)).sum ≤ out.length
  | [] => by
    have : nodes.map (cnt []) = nodes.map (fun _ => 0) := rfl
    rw [this]
    have : ∀ l : List Int, (l.map (fun _ => 0)).sum = 0 := fun l => by induction l with
      | nil => rfl
      | cons x r ih => rw [List.map_cons, List.sum_cons, ih]
    rw [this]; omega
  | p :: r => by
    have ih := sum_cnt hnd r
    have e : ∀ l : List Int, l.Nodup → (l.map (cnt (p :: r))).sum ≤ (l.map (cnt r)).sum + (if p.2 ∈ l then 1 else 0) := by
      intro l
      induction l with
      | nil => intro _; simp
      | cons x q ih2 =>
        intro hn
        rw [List.nodup_cons] at hn
        have := ih2 hn.2
        rw [List.map_cons, List.map_cons, List.sum_cons, List.sum_cons, cnt_cons]
        by_cases hx : p.2 = x
        · rw [if_pos hx, if_pos (by simp [hx])]
          rw [if_neg (by rw [hx]; exact hn.1)] at this
          omega
        · rw [if_neg hx]
          by_cases hq : p.2 ∈ q
          · rw [if_pos hq] at this; rw [if_pos (by simp [hq])]; omega
          · rw [if_neg hq] at this; rw [if_neg (by simp [hx, hq])]; omega
    have := e nodes hnd
    rw [List.length_cons]
    split at this <;> omega
theorem fold_put {p : List Point} {nodes : List Int} (hw : ∀ t, (walk p t).Perm nodes) (hnd : nodes.Nodup) (m : Nat) : ∀ (l : List ByteArray) (out : List Put), out.length + l.length ≤ nodes.length * m → (∀ n, cnt out n ≤ m) →
    ∃ r, l.foldl (putStep (m : Nat) p) out = out ++ r ∧ r.map (·.1) = l ∧ (∀ n, cnt (out ++ r) n ≤ m) ∧ ∀ x ∈ r, ∃ u v, walk p (sum [x.1]) = u ++ x.2 :: v ∧ ∀ k ∈ u, k ≠ x.2 ∧ cnt (out ++ r) k = m
  | [], out, hb, hc => ⟨[], by simp, rfl, by simpa using hc, by simp⟩
  | t :: l, out, hb, hc => by
    rw [List.length_cons] at hb
    have hf : ∃ n, (walk p (sum [t])).find? (fun n => decide ((cnt out n : Int) < (m : Nat))) = some n := by
      cases e : (walk p (sum [t])).find? (fun n => decide ((cnt out n : Int) < (m : Nat))) with
      | some n => exact ⟨n, rfl⟩
      | none =>
        rw [List.find?_eq_none] at e
        have h1 : ∀ x ∈ nodes.map (cnt out), m ≤ x := by
          intro x hx
          obtain ⟨n, hn, rfl⟩ := List.mem_map.1 hx
          have := e n ((hw _).mem_iff.2 hn)
          simp only [decide_eq_true_eq] at this; omega
        have h2 := sum_le h1
        have h3 := sum_cnt hnd out
        rw [List.length_map] at h2
        omega
    obtain ⟨n, hn⟩ := hf
    have e : putStep (m : Nat) p out t = out ++ [(t, n)] := by unfold putStep; rw [hn]
    obtain ⟨hlt, u, v, huv, hu⟩ := List.find?_eq_some_iff_append.1 hn
    simp only [decide_eq_true_eq] at hlt
    obtain ⟨r, e1, e2, e3, e4⟩ := fold_put hw hnd m l (out ++ [(t, n)]) (by simp; omega) (fun k => by
      rw [cnt_snoc]
      have := hc k
      by_cases h : n = k
      · subst h; rw [if_pos rfl]; omega
      · rw [if_neg h]; omega)
    rw [List.append_assoc] at e3
    refine ⟨(t, n) :: r, ?_, by simp [e2], e3, ?_⟩
    · rw [List.foldl_cons, e, e1]; simp
    · intro x hx
      rcases List.mem_cons.1 hx with rfl | hx
      · refine ⟨u, v, huv, fun k hk => ?_⟩
        have h1 := hu k hk
        simp only [Bool.not_eq_true', decide_eq_false_iff_not] at h1
        refine ⟨fun h => ?_, ?_⟩
        · simp only [] at h; subst h; omega
        · have h2 := e3 k
          rw [cnt_append] at h2
          have h3 : cnt (out ++ (t, n) :: r) k = cnt out k + cnt ((t, n) :: r) k := cnt_append _ _ _
          have h4 : cnt (out ++ ([(t, n)] ++ r)) k = cnt out k + cnt ((t, n) :: r) k := cnt_append _ _ _
          have := e3 k
          omega
      · obtain ⟨u', v', a, b⟩ := e4 x hx
        exact ⟨u', v', a, fun k hk => by
          have := b k hk
          rw [List.append_assoc] at this
          exact this⟩
/-- What is put. -/
structure IsPut (nodes : List Int) (p : List Point) (m : Nat) (l : List ByteArray) (a : List Put) : Prop where
  tasks : a.map (·.1) = l
  most : ∀ n, cnt a n ≤ m
  first : ∀ x ∈ a, ∃ u v, walk p (sum [x.1]) = u ++ x.2 :: v ∧ ∀ k ∈ u, k ≠ x.2 ∧ cnt a k = m
theorem IsPut.length {nodes : List Int} {p : List Point} {m : Nat} {l : List ByteArray} {a : List Put} (h : IsPut nodes p m l a) : a.length = l.length := by rw [← h.tasks]; simp
theorem assign_put {nodes : List Int} {s : Nat} (l : List ByteArray) (hok : NodesOk nodes) (h1 : 1 ≤ s) (m : Nat) (hm : l.length ≤ nodes.length * m) : IsPut nodes (pts s nodes) m l (assign (m : Nat) (pts s nodes) l) := by
  obtain ⟨r, e1, e2, e3, e4⟩ := fold_put (walk_perm h1 hok) hok.nodup m l [] (by simpa using hm) (fun n => by simp [cnt])
  rw [List.nil_append] at *
  have e1 : assign (m : Nat) (pts s nodes) l = r := e1
  rw [e1]
  exact ⟨e2, e3, e4⟩
theorem IsPut.node {nodes : List Int} {s : Nat} {m : Nat} {l : List ByteArray} {a : List Put} (h : IsPut nodes (pts s nodes) m l a) (h1 : 1 ≤ s) {x : Put} (hx : x ∈ a) : x.2 ∈ nodes := by
  obtain ⟨u, v, e, _⟩ := h.first x hx
  refine (walk_mem h1 (sum [x.1]) x.2).1 ?_
  rw [e]; simp

/-! ### A task's node -/
theorem check_put {l : List Put} (hn : ∀ x ∈ l, 0 ≤ x.2 ∧ x.2 ≤ 63) (ht : tasksB (l.map (·.1)) = true) : F33 l = some 0 := by
  obtain ⟨t1, t2, t3⟩ := tasks_iff.1 ht
  rw [List.length_map] at t1
  have h := loopN_list (step := fun s : List Put × Int × Int × List ByteArray => F33_s1 s.1 s.2.1 s.2.2.1 s.2.2.2)
    (l := l) (fun i (a : List ByteArray) => (l, (l.length : Int), (i : Int), a))
    (fun _ x a => .inl (a ++ [x.1])) (fun a => (.inr a : Int ⊕ List ByteArray)) (fun i a => a.length ≤ i) (by omega)
    (fun i a x hx hi => by
      have hlt := at_lt hx
      have hr := hn x (List.mem_of_getElem? hx)
      simp only [F33_s1, toNat_cast, at_getD hx]
      rw [dT (show (i : Int) < l.length by omega), dT (show (0 : Int) ≤ i by omega), dF (show ¬ x.2 < 0 by omega), dF (show ¬ x.2 ≥ 64 by omega), wr_succ (by omega), dT (show (a.length + 1) * 16 ≤ 140737488355328 by omega)]
      simp only [cond_true, cond_false, Bool.and_self])
    (fun i x a a' hx hi hf => by
      simp only [Sum.inl.injEq] at hf
      subst hf; simp only [List.length_append, List.length_cons, List.length_nil]; omega)
    (fun a hi => by simp only [F33_s1]; rw [dF (by omega), cond_false]) [] (Nat.le_refl _)
  rw [foldE_foldl, foldl_snoc, List.nil_append] at h
  unfold F33 F33_l1
  rw [show loopN (S := List Put × Int × Int × List ByteArray) (O := Int ⊕ List ByteArray) (fun s => F33_s1 s.1 s.2.1 s.2.2.1 s.2.2.2) (l, (l.length : Int), 0, []) = _ from h]
  simp only [Option.bind_some, Sum.elim_inr]
  rw [load_tasks _ (by rw [List.length_map]; omega) (fun x hx => by have := name_size (t2 x hx); omega), ht]
  rfl
def cmpS (x y : ByteArray) : Int := cond (ltS x y) (-1) (cond (!(ltS x y || x.toList == y.toList)) 1 0)
theorem F49_eq (p : Put) (t : ByteArray) : F49 p t = some (cmpS p.1 t) := by
  simp only [F49, F50, F66, beq_self_eq_true, Bool.not_true, Option.bind_some, cond_false]
  unfold cmpS ltS
  cases Op.bytesLess p.1.toList t.toList with
  | true => rfl
  | false => cases (p.1.toList == t.toList) <;> rfl
theorem cmpS_lt {x y : ByteArray} : decide (cmpS x y < 0) = ltS x y := by
  unfold cmpS
  cases ltS x y with
  | true => rfl
  | false => cases (x.toList == y.toList) <;> rfl
theorem ltS_irr (x : ByteArray) : ltS x x = false := less_irr _
theorem cmpS_eq {x y : ByteArray} : (cmpS x y == 0) = decide (x = y) := by
  unfold cmpS
  by_cases e : x = y
  · subst e; rw [ltS_irr, dT rfl]; simp
  · rw [dF e]
    have : (x.toList == y.toList) = false := by
      rw [beq_eq_false_iff_ne]; exact fun h => e (bytes_ext h)
    rw [this]
    cases ltS x y <;> rfl
abbrev pd : Put := ((⟨#[]⟩ : ByteArray), 0)
theorem put_search {l : List Put} {t : ByteArray} {n : Int} (hl : l.length ≤ 1000000000000) (hr : ∀ i j, i ≤ j → j < l.length → ltS (l.getD j pd).1 t = true → ltS (l.getD i pd).1 t = true) :
    ∀ (m i j : Nat), j - i ≤ m → i ≤ j → j ≤ l.length → (∀ k, k < i → ltS (l.getD k pd).1 t = true) → (∀ k, j ≤ k → k < l.length → ltS (l.getD k pd).1 t = false) →
    ∃ k : Nat, k ≤ l.length ∧ (∀ i, i < k → ltS (l.getD i pd).1 t = true) ∧ (∀ i, k ≤ i → i < l.length → ltS (l.getD i pd).1 t = false) ∧
      iterω (fun s : List Put × ByteArray × Int × Int × Int => F48_s1 s.1 s.2.1 s.2.2.1 s.2.2.2.1 s.2.2.2.2) (m + 1) (l, t, n, (i : Int), (j : Int)) = some (l, t, n, (k : Int))
  | m, i, j, hm, hij, hj, h1, h2 => by
    by_cases hlt : i < j
    · obtain ⟨m', rfl⟩ : ∃ m', m = m' + 1 := ⟨m - 1, by omega⟩
      have hstep : F48_s1 l t n (i : Int) (j : Int) = cond (ltS (l.getD ((i + j) / 2) pd).1 t) (some (.inl (l, t, n, (((i + j) / 2 + 1 : Nat) : Int), (j : Int)))) (some (.inl (l, t, n, (i : Int), (((i + j) / 2 : Nat) : Int)))) := by
        simp only [F48_s1, mid_eq (show j ≤ 1000000000000 by omega) hij, toNat_cast]
        rw [dT (show (i : Int) < j by omega), dT (show (0 : Int) ≤ (((i + j) / 2 : Nat) : Int) by omega), dT (show (((i + j) / 2 : Nat) : Int) < l.length by omega), F49_eq, wr_succ (by omega)]
        simp only [cond_true, Bool.and_self, Option.bind_some]
        rw [cmpS_lt]
      cases hc : ltS (l.getD ((i + j) / 2) pd).1 t with
      | true =>
        obtain ⟨k, hk, a, b, c⟩ := put_search (n := n) hl hr m' ((i + j) / 2 + 1) j (by omega) (by omega) hj (fun k hk => hr k ((i + j) / 2) (by omega) (by omega) hc) h2
        refine ⟨k, hk, a, b, ?_⟩
        rw [hc, cond_true] at hstep
        rw [iterω_inl (s' := (l, t, n, (((i + j) / 2 + 1 : Nat) : Int), (j : Int))) hstep]
        exact c
      | false =>
        obtain ⟨k, hk, a, b, c⟩ := put_search (n := n) hl hr m' i ((i + j) / 2) (by omega) (by omega) (by omega) h1 (fun k hk1 hk2 => by
          cases e : ltS (l.getD k pd).1 t with
          | false => rfl
          | true => rw [hr ((i + j) / 2) k hk1 hk2 e] at hc; cases hc)
        refine ⟨k, hk, a, b, ?_⟩
        rw [hc, cond_false] at hstep
        rw [iterω_inl (s' := (l, t, n, (i : Int), (((i + j) / 2 : Nat) : Int))) hstep]
        exact c
    · have e : i = j := by omega
      subst e
      exact ⟨i, hj, h1, h2, iterω_inr (by simp only [F48_s1]; rw [dF (by omega), cond_false])⟩
theorem names_at {l : List Put} (h : (l.map (·.1)).Pairwise (fun a b => ltS a b = true)) {i j : Nat} (hij : i < j) (hj : j < l.length) : ltS (l.getD i pd).1 (l.getD j pd).1 = true := by
  rw [List.pairwise_map, List.pairwise_iff_getElem] at h
  have := h i j (by omega) hj hij
  rw [List.getD_eq_getElem?_getD, List.getD_eq_getElem?_getD, List.getElem?_eq_getElem (by omega), List.getElem?_eq_getElem hj]
  exact this
theorem of_eq {l : List Put} (t : ByteArray) (hn : ∀ x ∈ l, 0 ≤ x.2 ∧ x.2 ≤ 63) (ht : tasksB (l.map (·.1)) = true) :
    (∃ x ∈ l, x.1 = t ∧ F31 l t = some (x.2, 0)) ∨ ((∀ x ∈ l, x.1 ≠ t) ∧ F31 l t = some (0, 6)) := by
  obtain ⟨t1, t2, t3⟩ := tasks_iff.1 ht
  rw [List.length_map] at t1
  obtain ⟨k, hk, a, b, c⟩ := put_search (l := l) (t := t) (n := (l.length : Int)) (by omega) (fun i j hij hj h => by
    by_cases e : i = j
    · subst e; exact h
    · exact ltS_trans (names_at t3 (by omega) hj) h) l.length 0 l.length (by omega) (by omega) (by omega) (fun k hk => by omega) (fun k h1 h2 => by omega)
  have h := loopN_of (n := l.length + 1) c (by omega)
  have e48 : F48 l t = some ((k : Int), decide (k < l.length ∧ (l.getD k pd).1 = t)) := by
    unfold F48 F48_l1
    rw [show loopN (S := List Put × ByteArray × Int × Int × Int) (O := List Put × ByteArray × Int × Int) (fun s => F48_s1 s.1 s.2.1 s.2.2.1 s.2.2.2.1 s.2.2.2.2) (l, t, (l.length : Int), 0, (l.length : Int)) = _ from h]
    simp only [Option.bind_some, toNat_cast]
    by_cases hkl : k < l.length
    · rw [dT (show (k : Int) < l.length by omega), dT (show (0 : Int) ≤ k by omega), F49_eq]
      simp only [cond_true, Bool.and_self, Option.bind_some]
      rw [cmpS_eq]
      simp [hkl]
    · rw [dF (show ¬ (k : Int) < l.length by omega), dF (show ¬ (k < l.length ∧ (l.getD k pd).1 = t) from fun h => hkl h.1)]; rfl
  unfold F31
  rw [check_put hn ht]
  simp only [Option.bind_some, show ((0 : Int) != 0) = false from rfl, cond_false, e48]
  by_cases hq : k < l.length ∧ (l.getD k pd).1 = t
  · left
    rw [dT hq]
    simp only [Bool.not_true, cond_false, toNat_cast]
    rw [dT (show (0 : Int) ≤ k by omega), dT (show (k : Int) < l.length by omega)]
    have hx : l[k]? = some (l[k]'hq.1) := List.getElem?_eq_getElem hq.1
    have hq2 := hq.2
    rw [at_getD hx] at hq2
    have e : (l.getD k pd) = l[k]'hq.1 := at_getD hx
    exact ⟨l[k]'hq.1, List.getElem_mem hq.1, hq2, by rw [← e]; rfl⟩
  · right
    rw [dF hq]
    refine ⟨fun x hx e => hq ?_, rfl⟩
    obtain ⟨j, hj, ej⟩ := List.getElem_of_mem hx
    have hjx : (l.getD j pd).1 = t := by rw [at_getD (List.getElem?_eq_getElem hj), ej, e]
    have h1 : k ≤ j := by
      by_cases h : j < k
      · have := a j h; rw [hjx, ltS_irr] at this; cases this
      · omega
    by_cases h2 : k = j
    · subst h2; exact ⟨hj, hjx⟩
    · have := names_at t3 (show k < j by omega) hj
      rw [hjx, b k (Nat.le_refl _) (by omega)] at this
      cases this
theorem same_put (a : List Put) (hl : a.length ≤ 4611686018427387904) : F28 a a = some true := by
  have h := loopN_list (step := fun s : List Put × List Put × Int => F28_s1 s.1 s.2.1 s.2.2)
    (l := a) (fun i (_ : Unit) => (a, a, (i : Int)))
    (fun _ x _ => .inl ()) (fun _ => (.inr () : Bool ⊕ Unit)) (fun i _ => True) (by omega)
    (fun i u x hx hi => by
      have hlt := at_lt hx
      simp only [F28_s1, toNat_cast]
      rw [dT (show (i : Int) < a.length by omega), dT (show (0 : Int) ≤ i by omega), wr_succ (by omega), (ba_beq (List.getD a i ((⟨#[]⟩ : ByteArray), 0)).1 _).2 rfl, beq_self_eq_true]
      rfl)
    (fun i x a a' hx hi hf => trivial)
    (fun u hi => by simp only [F28_s1]; rw [dF (by omega), cond_false]) () trivial
  rw [foldE_foldl] at h
  unfold F28 F28_l1
  rw [show ((a.length : Int) != a.length) = false by simp, cond_false, show loopN (S := List Put × List Put × Int) (O := Bool ⊕ Unit) (fun s => F28_s1 s.1 s.2.1 s.2.2) (a, a, 0) = _ from h]
  rfl
/-- Nodes, spots and tasks that are light. -/
theorem light_eq (q : Ask) (h : Ty.rng tyAsk q) : ∃ b, F21 q = some b ∧ (b = true → NodesOk q.1 ∧ q.1 ≠ [] ∧ q.1.length ≤ 6 ∧ q.2.2.1.length ≤ 20 ∧ tasksB q.2.2.1 = true ∧ 1 ≤ q.2.1 ∧ q.2.1 ≤ 8) := by
  have hsz : ∀ s ∈ q.2.2.1, ByteArray.size s ≤ 9223372036854775807 := h.2.2.1.2
  unfold F21
  by_cases h1 : ((List.length q.1 : Nat) : Int) ≥ 1
  · rw [dT h1, cond_true]
    by_cases h2 : ((List.length q.1 : Nat) : Int) ≤ 6
    · rw [dT h2, cond_true]
      by_cases h3 : ((List.length q.2.2.1 : Nat) : Int) ≤ 20
      · rw [dT h3, cond_true, ref_nodes q.1 (by omega)]
        simp only [Option.bind_some]
        by_cases h4 : NodesOk q.1
        · rw [@decide_eq_true _ (_) h4, cond_true]
          rw [ref_tasks q.2.2.1 (by omega) hsz]
          simp only [Option.bind_some]
          cases h5 : tasksB q.2.2.1 with
          | false => exact ⟨false, rfl, fun h => by cases h⟩
          | true =>
            rw [cond_true]
            by_cases h6 : q.2.1 ≥ 1
            · rw [dT h6, cond_true]
              refine ⟨decide (q.2.1 ≤ 8), rfl, fun h => ⟨h4, ?_, by omega, by omega, rfl, h6, of_decide_eq_true h⟩⟩
              intro e; rw [e] at h1; simp at h1
            · rw [dF h6]; exact ⟨false, rfl, fun h => by cases h⟩
        · rw [@decide_eq_false _ (_) h4]; exact ⟨false, rfl, fun h => by cases h⟩
      · rw [dF h3]; exact ⟨false, rfl, fun h => by cases h⟩
    · rw [dF h2]; exact ⟨false, rfl, fun h => by cases h⟩
  · rw [dF h1]; exact ⟨false, rfl, fun h => by cases h⟩
end Go.Proofs.YtomijlhmjenaoaaDoor
