/- The load's functions, plainly: how many, what is put. -/
import Derived.Test.YtomijlhmjenaoaaDoorPLoad
import Derived.Test.YtomijlhmjenaoaaDoorPureLoadMost
namespace Go.Proofs.YtomijlhmjenaoaaDoor
open Go Go.Tat
set_option linter.unusedVariables false
def cnt (out : List Put) (n : Int) : Nat := (out.map (·.2)).count n
theorem cnt_cons (p : Put) (r : List Put) (n : Int) : cnt (p :: r) n = cnt r n + (if p.2 = n then 1 else 0) := by
  unfold cnt
  rw [List.map_cons, List.count_cons]
  by_cases h : p.2 = n <;> simp [h]
theorem cnt_append (a b : List Put) (n : Int) : cnt (a ++ b) n = cnt a n + cnt b n := by simp [cnt]
theorem cnt_snoc (a : List Put) (t : ByteArray) (m n : Int) : cnt (a ++ [(t, m)]) n = cnt a n + (if m = n then 1 else 0) := by
  rw [cnt_append, cnt_cons]; simp [cnt]
theorem cnt_le (a : List Put) (n : Int) : cnt a n ≤ a.length := by unfold cnt; exact Nat.le_trans (List.count_le_length) (by simp)
theorem many_put (l : List Put) (n : Int) (hl : l.length ≤ 4611686018427387904) : F27 l n = some ((cnt l n : Nat) : Int) := by
  have h := loopN_list (step := fun s : List Put × Int × Int × Int => F27_s1 s.1 s.2.1 s.2.2.1 s.2.2.2) (l := l) (fun i (a : Nat) => (l, n, (a : Int), (i : Int)))
    (fun _ x a => .inl (a + (if x.2 = n then 1 else 0))) (fun a => ((a : Nat) : Int)) (fun i a => a ≤ i) (by omega)
    (fun i a x hx hi => by
      have hlt := at_lt hx
      simp only [F27_s1, toNat_cast, at_getD hx]
      rw [dT (show (i : Int) < l.length by omega), dT (show (0 : Int) ≤ i by omega), wr_succ (by omega), wr_succ (by omega)]
      simp only [cond_true, Bool.and_self]
      by_cases h : x.2 = n
      · simp [h]
      · rw [show (x.2 == n) = false by simpa using h]; simp [h])
    (fun i x a a' hx hi hf => by
      simp only [Sum.inl.injEq] at hf
      subst hf; split <;> omega)
    (fun a hi => by simp only [F27_s1]; rw [dF (by omega), cond_false]) 0 (Nat.le_refl _)
  rw [foldE_foldl] at h
  unfold F27 F27_l1
  rw [show loopN (S := List Put × Int × Int × Int) (O := Int) (fun s => F27_s1 s.1 s.2.1 s.2.2.1 s.2.2.2) (l, n, 0, 0) = _ from h]
  have e : ∀ (r : List Put) (a : Nat), r.foldl (fun a x => a + (if x.2 = n then 1 else 0)) a = a + cnt r n := by
    intro r
    induction r with
    | nil => intro a; simp [cnt]
    | cons x r ih => intro a; rw [List.foldl_cons, ih, cnt_cons]; omega
  rw [e, Nat.zero_add]; rfl
abbrev mg (h : List (Int × Int)) (n : Int) : Int := optD (mget (.int .i64) (.int .i64) h n) 0
abbrev hasStep (h : List (Int × Int)) (n : Int) : List (Int × Int) := mput (.int .i64) (.int .i64) h n (wr .i64 (mg h n + 1))
theorem mg_put (h : List (Int × Int)) (n v m : Int) : mg (mput (.int .i64) (.int .i64) h n v) m = if n = m then v else mg h m := by
  induction h with
  | nil =>
    show optD (cond (n == m) (some v) none) 0 = _
    by_cases e : n = m
    · rw [if_pos e, e, beq_self_eq_true]; rfl
    · rw [if_neg e, show (n == m) = false by simpa using e]; rfl
  | cons p r ih =>
    show optD (mget (.int .i64) (.int .i64) (cond (p.1 == n) ((p.1, v) :: r) (p :: mput (.int .i64) (.int .i64) r n v)) m) 0 = _
    by_cases e : p.1 = n
    · rw [e, beq_self_eq_true, cond_true]
      show optD (cond (n == m) (some v) (mget (.int .i64) (.int .i64) r m)) 0 = if n = m then v else optD (cond (p.1 == m) (some p.2) (mget (.int .i64) (.int .i64) r m)) 0
      by_cases e2 : n = m
      · rw [if_pos e2, e2, beq_self_eq_true]; rfl
      · rw [if_neg e2, e, show (n == m) = false by simpa using e2]; rfl
    · rw [show (p.1 == n) = false by simpa using e, cond_false]
      show optD (cond (p.1 == m) (some p.2) (mget (.int .i64) (.int .i64) (mput (.int .i64) (.int .i64) r n v) m)) 0 = if n = m then v else optD (cond (p.1 == m) (some p.2) (mget (.int .i64) (.int .i64) r m)) 0
      by_cases e2 : p.1 = m
      · rw [e2, beq_self_eq_true, cond_true, cond_true, if_neg (fun h => e (by rw [e2, h]))]
      · rw [show (p.1 == m) = false by simpa using e2, cond_false, cond_false]; exact ih
def hasOf (out : List Put) : List (Int × Int) := out.foldl (fun h p => hasStep h p.2) []
theorem hasOf_snoc (out : List Put) (t : ByteArray) (n : Int) : hasOf (out ++ [(t, n)]) = hasStep (hasOf out) n := by simp [hasOf]
theorem has_aux : ∀ (out : List Put) (h : List (Int × Int)) (c : Int → Nat), (∀ n, mg h n = (c n : Int)) → (∀ n, c n + out.length ≤ 1000000000) → ∀ n, mg (out.foldl (fun h p => hasStep h p.2) h) n = ((c n + cnt out n : Nat) : Int)
  | [], h, c, hc, hb, n => by simpa [cnt] using hc n
  | p :: r, h, c, hc, hb, n => by
    rw [List.foldl_cons, has_aux r _ (fun m => c m + (if p.2 = m then 1 else 0)) (fun m => by
      rw [mg_put, hc]
      by_cases e : p.2 = m
      · subst e; have := hb p.2; simp only [List.length_cons] at this
        rw [if_pos rfl, if_pos rfl, wr_succ (by omega)]
      · rw [if_neg e, if_neg e, hc]; rfl) (fun m => by
      have := hb m; simp only [List.length_cons] at this
      split <;> omega), cnt_cons]
    congr 1; omega
theorem has_cnt (out : List Put) (hb : out.length ≤ 1000000000) (n : Int) : mg (hasOf out) n = ((cnt out n : Nat) : Int) := by
  have := has_aux out [] (fun _ => 0) (fun _ => rfl) (fun _ => by omega) n
  rw [Nat.zero_add] at this
  exact this
/-- A task put: on the first node of its walk that has room. -/
def putStep (most : Int) (p : List Point) (out : List Put) (task : ByteArray) : List Put :=
  match (walk p (sum [task])).find? (fun n => decide ((cnt out n : Int) < most)) with
  | some n => out ++ [(task, n)]
  | none => out
def assign (most : Int) (p : List Point) (l : List ByteArray) : List Put := l.foldl (putStep most p) []
theorem inner2_eq (points : List Point) (most : Int) (task : ByteArray) (t49 : List ByteArray) (t50 t51 : Int) (out : List Put) (w : List Int) (hw : w.length ≤ 1000000) (ho : out.length ≤ 1000000) :
    F23_l2 points most task t49 t50 t51 (w.length : Int) 0 (hasOf out) out w = some (match w.find? (fun n => decide ((cnt out n : Int) < most)) with
      | some n => .inl (points, most, t49, t50, t51, hasOf (out ++ [(task, n)]), out ++ [(task, n)])
      | none => .inr (points, most, t49, t50, t51, hasOf out, out)) := by
  have h := loopN_list (step := fun s : List Point × Int × ByteArray × List ByteArray × Int × Int × Int × Int × List (Int × Int) × List Put × List Int => F23_s2 s.1 s.2.1 s.2.2.1 s.2.2.2.1 s.2.2.2.2.1 s.2.2.2.2.2.1 s.2.2.2.2.2.2.1 s.2.2.2.2.2.2.2.1 s.2.2.2.2.2.2.2.2.1 s.2.2.2.2.2.2.2.2.2.1 s.2.2.2.2.2.2.2.2.2.2)
    (l := w) (fun i (a : Unit) => (points, most, task, t49, t50, t51, (w.length : Int), (i : Int), hasOf out, out, w))
    (fun _ n _ => cond (decide ((cnt out n : Int) < most)) (.inr (.inl (points, most, t49, t50, t51, hasOf (out ++ [(task, n)]), out ++ [(task, n)]))) (.inl ()))
    (fun _ => (.inr (points, most, t49, t50, t51, hasOf out, out) : (List Point × Int × List ByteArray × Int × Int × List (Int × Int) × List Put) ⊕ (List Point × Int × List ByteArray × Int × Int × List (Int × Int) × List Put))) (fun i a => True) (by omega)
    (fun i a x hx hi => by
      have hlt := at_lt hx
      simp only [F23_s2, toNat_cast, at_getD hx]
      rw [dT (show (i : Int) < w.length by omega), dT (show (0 : Int) ≤ i by omega), wr_succ (by omega), dT (show (out.length + 1) * 24 ≤ 140737488355328 by omega), hasOf_snoc]
      simp only [cond_true, Bool.and_self]
      rw [show optD (mget (.int .i64) (.int .i64) (hasOf out) x) 0 = ((cnt out x : Nat) : Int) from has_cnt out (by omega) x]
      rw [show hasStep (hasOf out) x = mput (.int .i64) (.int .i64) (hasOf out) x (wr .i64 (((cnt out x : Nat) : Int) + 1)) from by rw [← has_cnt out (by omega) x]]
      cases decide (((cnt out x : Nat) : Int) < most) <;> rfl)
    (fun i x a a' hx hi hf => trivial)
    (fun a hi => by simp only [F23_s2]; rw [dF (by omega), cond_false]) () trivial
  have e : ∀ (r : List Int) (i : Nat), foldE (fun _ n (_ : Unit) => cond (decide ((cnt out n : Int) < most)) ((.inr (.inl (points, most, t49, t50, t51, hasOf (out ++ [(task, n)]), out ++ [(task, n)]))) : Unit ⊕ _) (.inl ()))
      (fun _ => (.inr (points, most, t49, t50, t51, hasOf out, out) : (List Point × Int × List ByteArray × Int × Int × List (Int × Int) × List Put) ⊕ (List Point × Int × List ByteArray × Int × Int × List (Int × Int) × List Put))) i r () =
      match r.find? (fun n => decide ((cnt out n : Int) < most)) with
      | some n => .inl (points, most, t49, t50, t51, hasOf (out ++ [(task, n)]), out ++ [(task, n)])
      | none => .inr (points, most, t49, t50, t51, hasOf out, out) := by
    intro r
    induction r with
    | nil => intro i; rfl
    | cons x r ih =>
      intro i
      simp only [foldE, List.find?_cons]
      cases decide ((cnt out x : Int) < most) with
      | true => rfl
      | false => exact ih (i + 1)
  rw [e] at h
  exact h
theorem put_len (most : Int) (p : List Point) (out : List Put) (t : ByteArray) : (putStep most p out t).length ≤ out.length + 1 := by
  unfold putStep; split <;> simp
theorem outer2_eq {p : List Point} (most : Int) {l : List ByteArray} (hp : PtsOk p) (hne : p ≠ []) (hl : l.length ≤ 100) (hs : ∀ s ∈ l, s.size ≤ 20) (hw : ∀ t, (walk p t).length ≤ 1000000) :
    F23_l1 p most l (l.length : Int) 0 [] [] = some (.inr (assign most p l)) := by
  have h := loopN_list (step := fun s : List Point × Int × List ByteArray × Int × Int × List (Int × Int) × List Put => F23_s1 s.1 s.2.1 s.2.2.1 s.2.2.2.1 s.2.2.2.2.1 s.2.2.2.2.2.1 s.2.2.2.2.2.2)
    (l := l) (fun i (a : List Put) => (p, most, l, (l.length : Int), (i : Int), hasOf a, a))
    (fun _ t a => .inl (putStep most p a t)) (fun a => (.inr a : (Int × List Put) ⊕ List Put)) (fun i a => a.length ≤ i) (by omega)
    (fun i a x hx hi => by
      have hlt := at_lt hx
      have hx20 := hs x (List.mem_of_getElem? hx)
      simp only [F23_s1, toNat_cast, at_getD hx]
      rw [dT (show (i : Int) < l.length by omega), dT (show (0 : Int) ≤ i by omega), walk_eq x (by omega) hp hne]
      simp only [cond_true, Bool.and_self, Option.bind_some, show ((0 : Int) != 0) = false from rfl, cond_false]
      rw [inner2_eq p most x l (l.length : Int) i a (walk p (sum [x])) (hw _) (by omega)]
      unfold putStep
      cases (walk p (sum [x])).find? (fun n => decide ((cnt a n : Int) < most)) with
      | none => simp only [Option.bind_some, Sum.elim_inr]; rw [wr_succ (by omega)]
      | some n => simp only [Option.bind_some, Sum.elim_inl]; rw [wr_succ (by omega)])
    (fun i x a a' hx hi hf => by
      simp only [Sum.inl.injEq] at hf
      subst hf; have := put_len most p a x; omega)
    (fun a hi => by simp only [F23_s1]; rw [dF (by omega), cond_false]) [] (Nat.le_refl _)
  rw [foldE_foldl] at h
  exact h
end Go.Proofs.YtomijlhmjenaoaaDoor
