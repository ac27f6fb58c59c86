/- The law LoadTells, plainly. -/
import Derived.Test.YtomijlhmjenaoaaDoorPLoadRef2
namespace Go.Proofs.YtomijlhmjenaoaaDoor.PureLoadTells
open Go Go.Tat PureRingWalks PureLoadMost
set_option linter.unusedVariables false
/-! ### The reference's bound -/
theorem ref_bound {t n : Nat} (ht : t ≤ 100) (h1 : 1 ≤ n) (h2 : n ≤ 64) : F30 (t : Int) (n : Int) = some ((bd t n : Nat) : Int) := by
  have hb := bd_spec (t := t) h1
  have hbig : bd t n ≤ 1000 := by
    have := Nat.le_mul_of_pos_left (bd t n) (show 0 < 4 * n by omega)
    omega
  have e4 : wr .i64 (4 * (n : Int)) = 4 * n := wr_i64 (by omega) (by omega)
  have e5 : wr .i64 (5 * (t : Int)) = 5 * t := wr_i64 (by omega) (by omega)
  have hk : ∀ k : Nat, k ≤ bd t n → wr .i64 (4 * (n : Int) * (k : Int)) = ((4 * n * k : Nat) : Int) := by
    intro k hk
    have : 4 * n * k ≤ 256 * 1000 := Nat.mul_le_mul (by omega) (by omega)
    have e : 4 * (n : Int) * (k : Int) = ((4 * n * k : Nat) : Int) := rfl
    rw [e, wr_i64 (by omega) (by omega)]
  have h := loopN_list (step := fun s : Int × Int × Int => F30_s1 s.1 s.2.1 s.2.2) (l := List.range (bd t n)) (fun i (_ : Unit) => ((t : Int), (n : Int), (i : Int)))
    (fun _ x _ => .inl ()) (fun _ => ((bd t n : Nat) : Int)) (fun i _ => True) (by simp; omega)
    (fun i a x hx hi => by
      have hlt := (range_at hx).2
      have hlt' : 4 * n * i < 5 * t := by
        have := Nat.mul_le_mul_left (4 * n) (show i + 1 ≤ bd t n by omega)
        rw [Nat.mul_add] at this; omega
      simp only [F30_s1, e4, e5, hk i (by omega)]
      rw [dT (show ((4 * n * i : Nat) : Int) < 5 * t by omega), cond_true, wr_succ (by omega)])
    (fun i x a a' hx hi hf => trivial)
    (fun u hm => by
      simp only [F30_s1, List.length_range, e4, e5, hk _ (Nat.le_refl _)]
      rw [dF (by omega), cond_false]) () trivial
  rw [foldE_foldl] at h
  unfold F30 F30_l1
  rw [show loopN (S := Int × Int × Int) (O := Int) (fun s => F30_s1 s.1 s.2.1 s.2.2) ((t : Int), (n : Int), 0) = _ from h]
  rfl
theorem bound_bad {t n : Int} (h : ¬ (0 ≤ t ∧ t ≤ 100 ∧ 1 ≤ n ∧ n ≤ 64)) : F24 t n = some (0, 1) := by
  have hj : F24_j1 t n true = some (0, 1) := rfl
  unfold F24
  by_cases h1 : t < 0
  · rw [dT h1, cond_true, hj]
  · rw [dF h1, cond_false]
    by_cases h2 : t > 100
    · rw [dT h2, cond_true, hj]
    · rw [dF h2, cond_false]
      by_cases h3 : n < 1
      · rw [dT h3, cond_true, hj]
      · rw [dF h3, cond_false, dT (show n > 64 by omega), hj]
/-! ### What is looked at -/
def cut (s : ByteArray) : ByteArray := if s.size > 21 then s.extract 0 21 else s
theorem cut_size (s : ByteArray) : (cut s).size ≤ 21 := by
  unfold cut
  split
  · simp; omega
  · omega
theorem few_texts (l : List ByteArray) : ∃ l', F29 l = some l' ∧ l'.length ≤ 101 ∧ ∀ s ∈ l', s.size ≤ 21 := by
  have hl : (l.take 101).length ≤ 101 := by simp; omega
  have h := loopN_list (step := fun s : List ByteArray × Int × List ByteArray => F29_s1 s.1 s.2.1 s.2.2) (l := l.take 101) (fun i (a : List ByteArray) => (l, (i : Int), a))
    (fun _ x a => .inl (a ++ [cut x])) (fun a => a) (fun i a => a.length ≤ i) (by omega)
    (fun i a x hx hi => by
      have hlt := at_lt hx
      have hx' : l[i]? = some x := by
        rw [List.getElem?_take_of_lt (by omega)] at hx; exact hx
      have hlt' := at_lt hx'
      simp only [F29_s1, F29_j2, toNat_cast, at_getD hx']
      rw [dT (show (i : Int) < l.length by omega), dT (show (i : Int) < 101 by omega), dT (show (0 : Int) ≤ i by omega), wr_succ (by omega), dT (show (a.length + 1) * 16 ≤ 140737488355328 by omega)]
      simp only [cond_true, Bool.and_self]
      unfold cut
      by_cases h : x.size > 21
      · rw [dT (show (x.size : Int) > 21 by omega), dT (show (21 : Int) ≤ x.size by omega), if_pos h]; rfl
      · rw [dF (show ¬ (x.size : Int) > 21 by omega), if_neg h]; rfl)
    (fun i x a a' hx hi hf => by
      simp only [Sum.inl.injEq] at hf
      subst hf; simp only [List.length_append, List.length_cons, List.length_nil]; omega)
    (fun a hi => by
      simp only [F29_s1, F29_j2]
      by_cases h : l.length ≤ 101
      · rw [List.take_of_length_le h, dF (show ¬ (l.length : Int) < l.length by omega)]; rfl
      · have e : (l.take 101).length = 101 := by simp; omega
        rw [e, dT (show ((101 : Nat) : Int) < l.length by omega), dF (show ¬ ((101 : Nat) : Int) < 101 by omega)]; rfl) [] (Nat.le_refl _)
  rw [foldE_foldl, foldl_snoc, List.nil_append] at h
  refine ⟨(l.take 101).map cut, ?_, by rw [List.length_map]; exact hl, ?_⟩
  · unfold F29 F29_l1
    rw [show loopN (S := List ByteArray × Int × List ByteArray) (O := List ByteArray) (fun s => F29_s1 s.1 s.2.1 s.2.2) (l, 0, []) = _ from h]
    rfl
  · intro s hs
    obtain ⟨x, _, rfl⟩ := List.mem_map.1 hs
    exact cut_size x
/-! ### What is put may be -/
def nodeB (p : Put) : Bool := decide (0 ≤ p.2) && decide (p.2 ≤ 63)
def mayB (l : List Put) : Bool := l.all nodeB && tasksB (l.map (·.1))
theorem foldE_names {O : Type} (bad : O) (good : List ByteArray → O) : ∀ (r : List Put) (i : Nat) (a : List ByteArray), foldE (fun _ x a => cond (nodeB x) (.inl (a ++ [x.1]) : List ByteArray ⊕ O) (.inr bad)) good i r a = cond (r.all nodeB) (good (a ++ r.map (·.1))) bad
  | [], i, a => by simp [foldE]
  | x :: r, i, a => by
    simp only [foldE, List.all_cons]
    cases nodeB x with
    | true => simp only [cond_true, Bool.true_and]; rw [foldE_names bad good r (i + 1)]; simp
    | false => rfl
theorem check_eq2 {l : List Put} (hl : l.length ≤ 101) (hs : ∀ x ∈ l, ByteArray.size x.1 ≤ 9223372036854775807) : F33 l = some (cond (mayB l) 0 1) := by
  have h := loopN_list (step := fun s : List Put × Int × Int × List ByteArray => F33_s1 s.1 s.2.1 s.2.2.1 s.2.2.2)
    (l := l) (fun i (a : List ByteArray) => (l, (l.length : Int), (i : Int), a))
    (fun _ x a => cond (nodeB x) (.inl (a ++ [x.1])) (.inr (.inl 1))) (fun a => (.inr a : Int ⊕ List ByteArray)) (fun i a => a.length ≤ i) (by omega)
    (fun i a x hx hi => by
      have hlt := at_lt hx
      simp only [F33_s1, toNat_cast, at_getD hx]
      rw [dT (show (i : Int) < l.length by omega), dT (show (0 : Int) ≤ i by omega), wr_succ (by omega), dT (show (a.length + 1) * 16 ≤ 140737488355328 by omega)]
      simp only [cond_true, Bool.and_self]
      unfold nodeB
      by_cases h1 : x.2 < 0
      · rw [dT h1, dF (show ¬ 0 ≤ x.2 by omega)]; rfl
      · rw [dF h1, dT (show 0 ≤ x.2 by omega)]
        by_cases h2 : x.2 ≥ 64
        · rw [dT h2, dF (show ¬ x.2 ≤ 63 by omega)]; rfl
        · rw [dF h2, dT (show x.2 ≤ 63 by omega)]; rfl)
    (fun i x a a' hx hi hf => by
      cases hb : nodeB x with
      | false => rw [hb] at hf; simp at hf
      | true =>
        rw [hb] at hf
        simp only [cond_true, Sum.inl.injEq] at hf
        subst hf; simp only [List.length_append, List.length_cons, List.length_nil]; omega)
    (fun a hi => by simp only [F33_s1]; rw [dF (by omega), cond_false]) [] (Nat.le_refl _)
  rw [foldE_names, List.nil_append] at h
  unfold F33 F33_l1 mayB
  rw [show loopN (S := List Put × Int × Int × List ByteArray) (O := Int ⊕ List ByteArray) (fun s => F33_s1 s.1 s.2.1 s.2.2.1 s.2.2.2) (l, (l.length : Int), 0, []) = _ from h]
  cases l.all nodeB with
  | false => rfl
  | true =>
    simp only [cond_true, Option.bind_some, Sum.elim_inr, Bool.true_and]
    rw [load_tasks _ (by rw [List.length_map]; omega) (fun x hx => by
      obtain ⟨y, hy, rfl⟩ := List.mem_map.1 hx
      exact hs y hy)]
    rfl
theorem may_eq {l : List Put} (hl : l.length ≤ 101) (hs : ∀ x ∈ l, ByteArray.size x.1 ≤ 9223372036854775807) : F32 l = some (mayB l) := by
  have h := loopN_list (step := fun s : List Put × Int × List ByteArray => F32_s1 s.1 s.2.1 s.2.2)
    (l := l) (fun i (a : List ByteArray) => (l, (i : Int), a))
    (fun _ x a => cond (nodeB x) (.inl (a ++ [x.1])) (.inr (.inl false))) (fun a => (.inr a : Bool ⊕ List ByteArray)) (fun i a => a.length ≤ i) (by omega)
    (fun i a x hx hi => by
      have hlt := at_lt hx
      simp only [F32_s1, F32_j2, toNat_cast, at_getD hx]
      rw [dT (show (i : Int) < l.length by omega), dT (show (0 : Int) ≤ i by omega), wr_succ (by omega), dT (show (a.length + 1) * 16 ≤ 140737488355328 by omega)]
      simp only [cond_true, Bool.and_self]
      unfold nodeB
      by_cases h1 : x.2 < 0
      · rw [dT h1, dF (show ¬ 0 ≤ x.2 by omega)]; rfl
      · rw [dF h1, dT (show 0 ≤ x.2 by omega)]
        by_cases h2 : x.2 > 63
        · rw [dT h2, dF (show ¬ x.2 ≤ 63 by omega)]; rfl
        · rw [dF h2, dT (show x.2 ≤ 63 by omega)]; rfl)
    (fun i x a a' hx hi hf => by
      cases hb : nodeB x with
      | false => rw [hb] at hf; simp at hf
      | true =>
        rw [hb] at hf
        simp only [cond_true, Sum.inl.injEq] at hf
        subst hf; simp only [List.length_append, List.length_cons, List.length_nil]; omega)
    (fun a hi => by simp only [F32_s1]; rw [dF (by omega), cond_false]) [] (Nat.le_refl _)
  rw [foldE_names, List.nil_append] at h
  unfold F32 F32_l1 mayB
  rw [show loopN (S := List Put × Int × List ByteArray) (O := Bool ⊕ List ByteArray) (fun s => F32_s1 s.1 s.2.1 s.2.2) (l, 0, []) = _ from h]
  cases l.all nodeB with
  | false => rfl
  | true =>
    simp only [cond_true, Option.bind_some, Sum.elim_inr, Bool.true_and]
    rw [ref_tasks _ (by rw [List.length_map]; omega) (fun x hx => by
      obtain ⟨y, hy, rfl⟩ := List.mem_map.1 hx
      exact hs y hy)]
    rfl
theorem of_bad {l : List Put} (t : ByteArray) (h : F33 l = some 1) : F31 l t = some (0, 1) := by unfold F31; rw [h]; rfl
/-- A task's node, the last one that is found. -/
def lastOf (t : ByteArray) (l : List Put) : Int × Int := l.foldl (fun a x => if x.1 = t then (x.2, 0) else a) (0, 6)
theorem last_loop (nodes : List Int) (l : List ByteArray) (puts : List Put) (task : ByteArray) (n f : Int) (qv : List Int) (qv2 : Int) (qv3 : List ByteArray) (qv4 : List Put) (qv5 : Int) (hl : puts.length ≤ 101) :
    F9_l10 nodes l puts task n f 0 6 0 qv qv2 qv3 qv4 qv5 = some (nodes, l, puts, n, f, (lastOf task puts).1, (lastOf task puts).2, qv, qv2, qv3, qv4, qv5) := by
  have h := loopN_list (step := fun s : List Int × List ByteArray × List Put × ByteArray × Int × Int × Int × Int × Int × List Int × Int × List ByteArray × List Put × Int => F9_s10 s.1 s.2.1 s.2.2.1 s.2.2.2.1 s.2.2.2.2.1 s.2.2.2.2.2.1 s.2.2.2.2.2.2.1 s.2.2.2.2.2.2.2.1 s.2.2.2.2.2.2.2.2.1 s.2.2.2.2.2.2.2.2.2.1 s.2.2.2.2.2.2.2.2.2.2.1 s.2.2.2.2.2.2.2.2.2.2.2.1 s.2.2.2.2.2.2.2.2.2.2.2.2.1 s.2.2.2.2.2.2.2.2.2.2.2.2.2)
    (l := puts) (fun i (a : Int × Int) => (nodes, l, puts, task, n, f, a.1, a.2, (i : Int), qv, qv2, qv3, qv4, qv5))
    (fun _ x a => .inl (if x.1 = task then (x.2, 0) else a)) (fun a => (nodes, l, puts, n, f, a.1, a.2, qv, qv2, qv3, qv4, qv5)) (fun i a => True) (by omega)
    (fun i a x hx hi => by
      have hlt := at_lt hx
      simp only [F9_s10, toNat_cast, at_getD hx]
      rw [dT (show (i : Int) < puts.length by omega), dT (show (0 : Int) ≤ i by omega), wr_succ (by omega)]
      simp only [cond_true, Bool.and_self]
      by_cases e : x.1 = task
      · rw [if_pos e, e, beq_self_eq_true]; rfl
      · rw [if_neg e, show (x.1.toList == task.toList) = false by rw [beq_eq_false_iff_ne]; exact fun h => e (bytes_ext h)]; rfl)
    (fun i x a a' hx hi hf => trivial)
    (fun a hi => by simp only [F9_s10]; rw [dF (by omega), cond_false]) (0, 6) trivial
  rw [foldE_foldl] at h
  exact h
theorem last_some (t : ByteArray) (n : Int) : ∀ (l : List Put) (a : Int × Int), (∀ y ∈ l, y.1 = t → y.2 = n) → ((∃ y ∈ l, y.1 = t) ∨ a = (n, 0)) → l.foldl (fun a x => if x.1 = t then (x.2, 0) else a) a = (n, 0)
  | [], a, h, he => by
    rcases he with ⟨y, hy, _⟩ | he
    · cases hy
    · exact he
  | x :: r, a, h, he => by
    rw [List.foldl_cons]
    refine last_some t n r _ (fun y hy => h y (by simp [hy])) ?_
    by_cases e : x.1 = t
    · rw [if_pos e, h x (by simp) e]; exact .inr rfl
    · rw [if_neg e]
      rcases he with ⟨y, hy, hyt⟩ | he
      · rcases List.mem_cons.1 hy with rfl | hy
        · exact (e hyt).elim
        · exact .inl ⟨y, hy, hyt⟩
      · exact .inr he
theorem last_none (t : ByteArray) : ∀ (l : List Put) (a : Int × Int), (∀ y ∈ l, y.1 ≠ t) → l.foldl (fun a x => if x.1 = t then (x.2, 0) else a) a = a
  | [], a, h => rfl
  | x :: r, a, h => by rw [List.foldl_cons, if_neg (h x (by simp)), last_none t r a fun y hy => h y (by simp [hy])]
theorem of_last {puts : List Put} (t : ByteArray) (h : mayB puts = true) : F31 puts t = some (lastOf t puts) := by
  unfold mayB at h
  rw [Bool.and_eq_true, List.all_eq_true] at h
  have hn : ∀ x ∈ puts, 0 ≤ x.2 ∧ x.2 ≤ 63 := by
    intro x hx
    have := h.1 x hx
    simpa [nodeB] using this
  rcases of_eq t hn h.2 with ⟨x, hx, ex, ef⟩ | ⟨hno, ef⟩
  · rw [ef]
    congr 1
    refine (last_some t x.2 puts (0, 6) ?_ (.inl ⟨x, hx, ex⟩)).symm
    intro y hy ey
    obtain ⟨i, hi, ei⟩ := List.getElem_of_mem hx
    obtain ⟨j, hj, ej⟩ := List.getElem_of_mem hy
    have t3 := (tasks_iff.1 h.2).2.2
    rcases Nat.lt_trichotomy i j with hij | hij | hij
    · have := names_at t3 hij hj
      rw [at_getD (List.getElem?_eq_getElem hi), at_getD (List.getElem?_eq_getElem hj), ei, ej, ex, ey, ltS_irr] at this; cases this
    · subst hij; rw [← ei, ej]
    · have := names_at t3 hij hi
      rw [at_getD (List.getElem?_eq_getElem hi), at_getD (List.getElem?_eq_getElem hj), ei, ej, ex, ey, ltS_irr] at this; cases this
  · rw [ef, lastOf, last_none t puts _ hno]
/-! ### The reference's assignment -/
theorem find_put {p : List Point} {nodes : List Int} (hw : ∀ t, (walk p t).Perm nodes) (hnd : nodes.Nodup) {m : Nat} {out : List Put} (hb : out.length < nodes.length * m) (t : Int) :
    ∃ n, (walk p t).find? (fun n => decide ((cnt out n : Int) < (m : Nat))) = some n := by
  cases e : (walk p t).find? (fun n => decide ((cnt out n : Int) < (m : Nat))) with
  | some n => exact ⟨n, rfl⟩
  | none =>
    rw [List.find?_eq_none] at e
    have h1 : ∀ x ∈ nodes.map (cnt out), m ≤ x := by
      intro x hx
      obtain ⟨n, hn, rfl⟩ := List.mem_map.1 hx
      have := e n ((hw _).mem_iff.2 hn)
      simp only [decide_eq_true_eq] at this; omega
    have h2 := sum_le h1
    have h3 := sum_cnt hnd out
    rw [List.length_map] at h2
    omega
theorem ref_assign_inner {nodes : List Int} {l : List ByteArray} {points : List Point} (i : Int) {out : List Put} {w u v : List Int} {n : Int} (h1 : 1 ≤ nodes.length) (h2 : nodes.length ≤ 64) (hl : l.length ≤ 100) (ho : out.length ≤ 1000)
    (hw : w = u ++ n :: v) (hwl : w.length ≤ 1000) (hn : cnt out n < bd l.length nodes.length) (hu : ∀ k ∈ u, bd l.length nodes.length ≤ cnt out k) :
    F36_l2 nodes l points i 0 out w = some (nodes, l, points, i, (u.length : Int), out, w) := by
  have hul : u.length < w.length := by rw [hw]; simp
  have h := loopN_list (step := fun s : List Int × List ByteArray × List Point × Int × Int × List Put × List Int => F36_s2 s.1 s.2.1 s.2.2.1 s.2.2.2.1 s.2.2.2.2.1 s.2.2.2.2.2.1 s.2.2.2.2.2.2)
    (l := u) (fun k (_ : Unit) => (nodes, l, points, i, (k : Int), out, w))
    (fun _ x _ => .inl ()) (fun _ => (nodes, l, points, i, (u.length : Int), out, w)) (fun i _ => True) (by omega)
    (fun k u' y hy hi => by
      have hk := at_lt hy
      have hwk : w[k]? = some y := by rw [hw, List.getElem?_append_left hk]; exact hy
      have h3 := hu y (List.mem_of_getElem? hy)
      simp only [F36_s2, toNat_cast, at_getD hwk, many_put out y (by omega), ref_bound hl h1 h2, Option.bind_some]
      rw [dT (show (k : Int) < w.length by omega), dT (show (0 : Int) ≤ k by omega), wr_succ (by omega), dT (show ((cnt out y : Nat) : Int) ≥ ((bd l.length nodes.length : Nat) : Int) by omega)]
      rfl)
    (fun i x a a' hx hi hf => trivial)
    (fun u' hi => by
      have hwk : w[u.length]? = some n := by rw [hw]; simp
      simp only [F36_s2, toNat_cast, at_getD hwk, many_put out n (by omega), ref_bound hl h1 h2, Option.bind_some]
      rw [dT (show (u.length : Int) < w.length by omega), dT (show (0 : Int) ≤ u.length by omega), dF (show ¬ ((cnt out n : Nat) : Int) ≥ ((bd l.length nodes.length : Nat) : Int) by omega)]
      rfl) () trivial
  rw [foldE_foldl] at h
  exact h
theorem ref_assign {nodes : List Int} {s : Nat} {l : List ByteArray} (hok : NodesOk nodes) (hne : nodes ≠ []) (h1 : 1 ≤ s) (h2 : s ≤ 32) (hl : l.length ≤ 100) (hs : ∀ x ∈ l, ByteArray.size x ≤ 21) :
    F36 nodes (s : Int) l = some (assign (bd l.length nodes.length : Nat) (pts s nodes) l) := by
  have hpos := List.length_pos_iff.2 hne
  have h64 := hok.length
  have hroom := bd_room (t := l.length) hpos
  have h := loopN_list (step := fun z : List Int × List ByteArray × List Point × Int × List Put => F36_s1 z.1 z.2.1 z.2.2.1 z.2.2.2.1 z.2.2.2.2)
    (l := l) (fun i (a : List Put) => (nodes, l, pts s nodes, (i : Int), a))
    (fun _ t a => .inl (putStep (bd l.length nodes.length : Nat) (pts s nodes) a t)) (fun a => a) (fun i a => a.length ≤ i) (by omega)
    (fun i a x hx hi => by
      have hlt := at_lt hx
      have hx20 := hs x (List.mem_of_getElem? hx)
      obtain ⟨n, hn⟩ := find_put (walk_perm h1 hok) hok.nodup (m := bd l.length nodes.length) (out := a) (by omega) (sum [x])
      obtain ⟨hlt2, u, v, huv, hu⟩ := List.find?_eq_some_iff_append.1 hn
      simp only [decide_eq_true_eq, Bool.not_eq_true', decide_eq_false_iff_not] at hlt2 hu
      have hwn : (walk (pts s nodes) (sum [x]))[u.length]? = some n := by rw [huv]; simp
      have hwl := at_lt hwn
      have hwp := (walk_perm h1 hok (sum [x])).length_eq
      simp only [F36_s1, toNat_cast, at_getD hx]
      rw [dT (show (i : Int) < l.length by omega), dT (show (0 : Int) ≤ i by omega), ref_walk x (by omega) (pts_ok h2 hok) (pts_ne h1 hne)]
      simp only [cond_true, Bool.and_self, Option.bind_some]
      rw [ref_assign_inner (i : Int) hpos h64 hl (by omega) huv (by omega) (by omega) (fun k hk => by have := hu k hk; omega)]
      simp only [Option.bind_some, toNat_cast, at_getD hx, at_getD hwn]
      rw [dT (show (i : Int) < l.length by omega), dT (show (0 : Int) ≤ i by omega), dT (show (0 : Int) ≤ u.length by omega), dT (show (u.length : Int) < (walk (pts s nodes) (sum [x])).length by omega), dT (show (a.length + 1) * 24 ≤ 140737488355328 by omega), wr_succ (by omega)]
      unfold putStep
      rw [hn]; rfl)
    (fun i x a a' hx hi hf => by
      simp only [Sum.inl.injEq] at hf
      subst hf; have := put_len (bd l.length nodes.length : Nat) (pts s nodes) a x; omega)
    (fun a hi => by simp only [F36_s1]; rw [dF (by omega), cond_false]) [] (Nat.le_refl _)
  rw [foldE_foldl] at h
  unfold F36 F36_l1
  rw [ref_points hok h2]
  simp only [Option.bind_some]
  rw [show loopN (S := List Int × List ByteArray × List Point × Int × List Put) (O := List Put) (fun z => F36_s1 z.1 z.2.1 z.2.2.1 z.2.2.2.1 z.2.2.2.2) (nodes, l, pts s nodes, 0, []) = _ from h]
  rfl
/-! ### The law -/
section
variable (qv : List Int) (qv3 : List ByteArray) (qv4 : List Put) (qv5 : Int)
theorem j13_bad (nodes : List Int) (l : List ByteArray) (spots : Int) : F9_j13 nodes l 1 true qv spots qv3 qv4 qv5 [] = some true := by
  unfold F9_j13
  rw [cond_true, show ((([] : List Put).length : Int) == 0) = true from rfl, cond_true, show ((1 : Int) == 1) = true from rfl, cond_true, awake14]; rfl
theorem j12_eq {nodes : List Int} {l : List ByteArray} (spots : Int) (hn : nodes.length ≤ 65) (hl : l.length ≤ 101) (hs : ∀ x ∈ l, ByteArray.size x ≤ 21) : F9_j12 nodes l false qv spots qv3 qv4 qv5 = some true := by
  unfold F9_j12
  rw [cond_false, ref_nodes nodes (by omega)]
  by_cases hok : NodesOk nodes
  · by_cases h1 : spots < 1
    · have e : F23 nodes spots l = some (1, []) := by unfold F23; rw [points_bad (by omega) (by omega)]; rfl
      rw [e, @decide_eq_true _ (_) hok]
      simp only [Option.bind_some, Bool.not_true, cond_false]
      rw [dT h1, cond_true, j13_bad]
    · by_cases h2 : spots > 32
      · have e : F23 nodes spots l = some (1, []) := by unfold F23; rw [points_bad (by omega) (by omega)]; rfl
        rw [e, @decide_eq_true _ (_) hok]
        simp only [Option.bind_some, Bool.not_true, cond_false]
        rw [dF h1, dT h2, cond_false, cond_true, j13_bad]
      · obtain ⟨s, rfl⟩ : ∃ s : Nat, spots = (s : Int) := ⟨spots.toNat, by omega⟩
        have es := fun x hx => Nat.le_trans (hs x hx) (show 21 ≤ 9223372036854775807 by omega)
        cases ht : tasksB l with
        | false =>
          have e : F23 nodes s l = some (1, []) := by
            unfold F23
            rw [points_eq (by omega) (by omega) hok]
            simp only [Option.bind_some, show ((0 : Int) != 0) = false from rfl, cond_false]
            rw [load_tasks l (by omega) es, ht]; rfl
          rw [e, @decide_eq_true _ (_) hok]
          simp only [Option.bind_some, Bool.not_true, cond_false]
          rw [dF h1, dF h2, cond_false, cond_false, ref_tasks l (by omega) es, ht]
          simp only [Option.bind_some, Bool.not_false]
          exact j13_bad qv qv3 qv4 qv5 nodes l s
        | true =>
          by_cases hne : nodes = []
          · have e : F23 nodes s l = some (6, []) := by
              unfold F23
              rw [points_eq (by omega) (by omega) hok]
              simp only [Option.bind_some, show ((0 : Int) != 0) = false from rfl, cond_false]
              rw [load_tasks l (by omega) es, ht]
              subst hne; rfl
            rw [e, @decide_eq_true _ (_) hok]
            simp only [Option.bind_some, Bool.not_true, cond_false]
            rw [dF h1, dF h2, cond_false, cond_false, ref_tasks l (by omega) es, ht]
            simp only [Option.bind_some, Bool.not_true]
            unfold F9_j13
            rw [cond_false, show ((nodes.length : Int) == 0) = true by rw [hne]; rfl, cond_true, show ((([] : List Put).length : Int) == 0) = true from rfl, cond_true, show ((6 : Int) == 6) = true from rfl, cond_true, awake14]; rfl
          · have hpos := List.length_pos_iff.2 hne
            have hl100 := (tasks_iff.1 ht).1
            have hput := assign_put (s := s) l hok (by omega) (bd l.length nodes.length) (bd_room hpos)
            have hlen := hput.length
            rw [assign_eq hok hne (by omega) (by omega) ht, @decide_eq_true _ (_) hok]
            simp only [Option.bind_some, Bool.not_true, cond_false]
            rw [dF h1, dF h2, cond_false, cond_false, ref_tasks l (by omega) es, ht]
            simp only [Option.bind_some, Bool.not_true]
            unfold F9_j13
            rw [cond_false, show ((nodes.length : Int) == 0) = false by rw [beq_eq_false_iff_ne]; omega, cond_false, ref_assign hok hne (by omega) (by omega) hl100 hs]
            simp only [Option.bind_some]
            rw [same_put _ (by omega)]
            simp only [Option.bind_some, cond_true]
            rw [show ((0 : Int) == 0) = true from rfl, cond_true, awake14]; rfl
  · have e : F23 nodes spots l = some (1, []) := by unfold F23; rw [points_bad (by omega) (fun h => hok h.2.2)]; rfl
    rw [e, @decide_eq_false _ (_) hok]
    simp only [Option.bind_some, Bool.not_false, cond_true]
    rw [j13_bad]
theorem j11_eq {nodes : List Int} {l : List ByteArray} {puts : List Put} (n f : Int) (spots : Int) (hn : nodes.length ≤ 65) (hl : l.length ≤ 101) (hs : ∀ x ∈ l, ByteArray.size x ≤ 21) (hp : puts.length ≤ 101) (hps : ∀ x ∈ puts, ByteArray.size x.1 ≤ 9223372036854775807) :
    F9_j11 nodes l puts n f n f qv spots qv3 qv4 qv5 = some true := by
  have es := fun x hx => Nat.le_trans (hs x hx) (show 21 ≤ 9223372036854775807 by omega)
  unfold F9_j11
  rw [check_eq2 hp hps, may_eq hp hps]
  simp only [Option.bind_some]
  rw [show (!((cond (mayB puts) (0 : Int) 1 == 0) == mayB puts)) = false by cases mayB puts <;> rfl, cond_false, show (n != n) = false by simp, cond_false, show (f != f) = false by simp, cond_false, load_tasks l (by omega) es, ref_tasks l (by omega) es]
  simp only [Option.bind_some]
  rw [show (!((cond (tasksB l) (0 : Int) 1 == 0) == tasksB l)) = false by cases tasksB l <;> rfl]
  exact j12_eq _ _ _ _ _ hn hl hs
theorem j9_eq {nodes : List Int} {l : List ByteArray} {puts : List Put} (task : ByteArray) (spots : Int) (hn : nodes.length ≤ 65) (hl : l.length ≤ 101) (hs : ∀ x ∈ l, ByteArray.size x ≤ 21) (hp : puts.length ≤ 101) (hps : ∀ x ∈ puts, ByteArray.size x.1 ≤ 9223372036854775807) :
    F9_j9 nodes l puts task qv spots qv3 qv4 qv5 = some true := by
  unfold F9_j9
  cases hm : mayB puts with
  | true =>
    rw [of_last task hm]
    simp only [Option.bind_some]
    rw [last_loop _ _ _ _ _ _ _ _ _ _ _ hp]
    simp only [Option.bind_some]
    rw [may_eq hp hps, hm]
    simp only [Option.bind_some, Bool.not_true, cond_false]
    exact j11_eq _ _ _ _ _ _ _ hn hl hs hp hps
  | false =>
    rw [of_bad task (by rw [check_eq2 hp hps, hm]; rfl)]
    simp only [Option.bind_some]
    rw [last_loop _ _ _ _ _ _ _ _ _ _ _ hp]
    simp only [Option.bind_some]
    rw [may_eq hp hps, hm]
    simp only [Option.bind_some, Bool.not_false, cond_true]
    exact j11_eq _ _ _ _ _ _ _ hn hl hs hp hps
theorem j8_eq {nodes : List Int} {l : List ByteArray} {puts : List Put} (spots : Int) (hn : nodes.length ≤ 65) (hl : l.length ≤ 101) (hs : ∀ x ∈ l, ByteArray.size x ≤ 21) (hp : puts.length ≤ 101) (hps : ∀ x ∈ puts, ByteArray.size x.1 ≤ 9223372036854775807) :
    F9_j8 nodes l puts qv spots qv3 qv4 qv5 = some true := by
  unfold F9_j8
  by_cases h : (l.length : Int) > 0
  · rw [dT h, cond_true, cond_true, j9_eq _ _ _ _ _ _ hn hl hs hp hps]
  · rw [dF h, cond_false, j9_eq _ _ _ _ _ _ hn hl hs hp hps]
theorem j5_eq {nodes : List Int} {l : List ByteArray} {puts : List Put} (spots : Int) (hn : nodes.length ≤ 65) (hl : l.length ≤ 101) (hs : ∀ x ∈ l, ByteArray.size x ≤ 21) (hp : puts.length ≤ 101) (hps : ∀ x ∈ puts, ByteArray.size x.1 ≤ 9223372036854775807) :
    F9_j5 nodes l puts qv spots qv3 qv4 qv5 = some true := by
  have h8 := j8_eq qv qv3 qv4 qv5 spots hn hl hs hp hps
  have hj6 : F9_j6 nodes l puts 0 1 true qv spots qv3 qv4 qv5 = some true := by
    unfold F9_j6
    rw [cond_true, show ((0 : Int) != 0) = false from rfl, cond_false, show ((1 : Int) != 1) = false from rfl]
    unfold F9_j7
    rw [cond_false, h8]
  unfold F9_j5
  by_cases hr : 0 ≤ qv5 ∧ qv5 ≤ 100 ∧ 1 ≤ spots ∧ spots ≤ 64
  · obtain ⟨t, rfl⟩ : ∃ t : Nat, qv5 = (t : Int) := ⟨qv5.toNat, by omega⟩
    obtain ⟨s, rfl⟩ : ∃ s : Nat, spots = (s : Int) := ⟨spots.toNat, by omega⟩
    rw [bd_eq (by omega) (by omega) (by omega)]
    simp only [Option.bind_some]
    rw [dF (show ¬ (t : Int) < 0 by omega), dF (show ¬ (t : Int) > 100 by omega), dF (show ¬ (s : Int) < 1 by omega), dF (show ¬ (s : Int) > 64 by omega)]
    simp only [cond_false]
    unfold F9_j6
    rw [cond_false, ref_bound (by omega) (by omega) (by omega)]
    simp only [Option.bind_some]
    rw [show (((bd t s : Nat) : Int) != ((bd t s : Nat) : Int)) = false by simp, cond_false, show ((0 : Int) != 0) = false from rfl]
    unfold F9_j16
    rw [cond_false, h8]
  · rw [bound_bad hr]
    simp only [Option.bind_some]
    by_cases h1 : qv5 < 0
    · rw [dT h1, cond_true, hj6]
    · rw [dF h1, cond_false]
      by_cases h2 : qv5 > 100
      · rw [dT h2, cond_true, hj6]
      · rw [dF h2, cond_false]
        by_cases h3 : spots < 1
        · rw [dT h3, cond_true, hj6]
        · rw [dF h3, cond_false, dT (show spots > 64 by omega), hj6]
theorem j4_eq {nodes : List Int} {l : List ByteArray} (spots : Int) (hn : nodes.length ≤ 65) (hl : l.length ≤ 101) (hs : ∀ x ∈ l, ByteArray.size x ≤ 21) (hps : ∀ x ∈ qv4, ByteArray.size x.1 ≤ 9223372036854775807) :
    F9_j4 nodes l qv spots qv3 qv4 qv5 = some true := by
  unfold F9_j4
  by_cases h : (qv4.length : Int) > 101
  · rw [dT h, dT (show (101 : Int) ≤ qv4.length by omega), cond_true, cond_true]
    exact j5_eq _ _ _ _ _ hn hl hs (by simp; omega) (fun x hx => hps x (List.mem_of_mem_take (List.mem_of_mem_drop hx)))
  · rw [dF h, cond_false]
    exact j5_eq _ _ _ _ _ hn hl hs (by omega) hps
theorem j2_eq {nodes : List Int} {l : List ByteArray} (spots : Int) (hn : nodes.length ≤ 65) (hl : l.length ≤ 101) (hs : ∀ x ∈ l, ByteArray.size x ≤ 21) (hps : ∀ x ∈ qv4, ByteArray.size x.1 ≤ 9223372036854775807) :
    F9_j2 nodes qv spots qv3 qv4 qv5 l = some true := by
  unfold F9_j2
  by_cases h : (l.length : Int) > 12
  · rw [dT h, cond_true]
    unfold F9_j3
    by_cases h2 : (l.length : Int) ≤ 100
    · rw [dT h2, cond_true, dT (show (12 : Int) ≤ l.length by omega), cond_true]
      exact j4_eq _ _ _ _ _ hn (by simp; omega) (fun x hx => hs x (List.mem_of_mem_take (List.mem_of_mem_drop hx))) hps
    · rw [dF h2, cond_false]
      exact j4_eq _ _ _ _ _ hn hl hs hps
  · rw [dF h, cond_false]
    unfold F9_j3
    rw [cond_false]
    exact j4_eq _ _ _ _ _ hn hl hs hps
end
theorem pure (q : Ask) (h : Ty.rng tyAsk q) : F9 q = some true := by
  obtain ⟨nodes, en, hn⟩ := few_nodes q.1
  obtain ⟨l, el, hl, hs⟩ := few_texts q.2.2.1
  have hps : ∀ x ∈ q.2.2.2.1, ByteArray.size x.1 ≤ 9223372036854775807 := fun x hx => (h.2.2.2.1.2 x hx).1
  unfold F9
  rw [en, el]
  simp only [Option.bind_some]
  by_cases h6 : (nodes.length : Int) > 6
  · rw [dT h6, cond_true, ref_nodes nodes (by omega)]
    simp only [Option.bind_some]
    unfold F9_j1
    cases @decide (NodesOk nodes) (Classical.propDecidable _) with
    | true =>
      rw [cond_true, dT (show (6 : Int) ≤ nodes.length by omega), cond_true]
      exact j2_eq _ _ _ _ _ (by simp; omega) hl hs hps
    | false =>
      rw [cond_false]
      exact j2_eq _ _ _ _ _ hn hl hs hps
  · rw [dF h6, cond_false]
    unfold F9_j1
    rw [cond_false]
    exact j2_eq _ _ _ _ _ hn hl hs hps
end Go.Proofs.YtomijlhmjenaoaaDoor.PureLoadTells
