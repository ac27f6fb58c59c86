/- The ring's functions, plainly: the reference's nodes; sums; points. -/
import Derived.Test.YtomijlhmjenaoaaDoorPRing
namespace Go.Proofs.YtomijlhmjenaoaaDoor
open Go Go.Tat
set_option linter.unusedVariables false

theorem count_one {x : Int} : ∀ {l : List Int}, l.Nodup → x ∈ l → l.count x = 1
  | [], _, h => by cases h
  | y :: r, hn, h => by
    rw [List.nodup_cons] at hn
    by_cases hxy : y = x
    · subst hxy; rw [List.count_cons_self, List.count_eq_zero.2 hn.1]
    · rw [List.count_cons_of_ne hxy]
      exact count_one hn.2 (by cases h with | head => exact (hxy rfl).elim | tail _ h => exact h)
open Classical in
theorem once_eq (l : List Int) (hl : l.length ≤ 4611686018427387904) : F37 l = some (decide (∀ x ∈ l, 0 ≤ x ∧ x ≤ 63 ∧ l.count x = 1)) := by
  let f : Nat → Int → Unit → Unit ⊕ (Bool ⊕ Unit) := fun _ x _ => if 0 ≤ x ∧ x ≤ 63 ∧ l.count x = 1 then .inl () else .inr (.inl false)
  have h := loopN_list (step := fun s : List Int × Int => F37_s1 s.1 s.2) (l := l) (fun i (_ : Unit) => (l, (i : Int))) f (fun _ => .inr ()) (fun _ _ => True) (by omega)
    (fun i u x hx hm => by
      have hi := at_lt hx
      simp only [F37_s1, toNat_cast, at_getD hx, f, many_eq l _ hl, Option.bind_some]
      rw [dT (show (i : Int) < l.length by omega), dT (show (0 : Int) ≤ i by omega)]
      simp only [cond_true, Bool.and_self]
      by_cases h1 : x < 0
      · rw [dT h1, cond_true, if_neg (by omega)]
      · rw [dF h1, cond_false]
        by_cases h2 : x > 63
        · rw [dT h2, cond_true, if_neg (by omega)]
        · rw [dF h2, cond_false]
          by_cases h3 : l.count x = 1
          · rw [if_pos ⟨by omega, by omega, h3⟩, h3, show (((1 : Nat) : Int) != 1) = false from rfl, cond_false, wr_succ (by omega)]
          · rw [if_neg (fun h => h3 h.2.2), show (((l.count x : Nat) : Int) != 1) = true by simp; omega, cond_true])
    (fun i x a a' hx ha hf => trivial)
    (fun u hm => by simp only [F37_s1]; rw [dF (by omega), cond_false]) () trivial
  have e : ∀ (r : List Int) (i : Nat), foldE f (fun _ => .inr ()) i r () = if (∀ x ∈ r, 0 ≤ x ∧ x ≤ 63 ∧ l.count x = 1) then .inr () else .inl false := by
    intro r
    induction r with
    | nil => intro i; simp [foldE]
    | cons x r ih =>
      intro i
      simp only [foldE, f]
      by_cases h1 : 0 ≤ x ∧ x ≤ 63 ∧ l.count x = 1
      · rw [if_pos h1]; simp only []; rw [ih]
        congr 1
        apply propext
        exact ⟨fun h y hy => by cases hy with | head => exact h1 | tail _ hy => exact h y hy, fun h y hy => h y (by simp [hy])⟩
      · rw [if_neg h1]; simp only []; rw [if_neg (fun h => h1 (h x (by simp)))]
  rw [e l 0] at h
  unfold F37 F37_l1
  rw [show loopN (S := List Int × Int) (O := Bool ⊕ Unit) (fun s => F37_s1 s.1 s.2) (l, 0) = _ from h]
  by_cases hq : (∀ x ∈ l, 0 ≤ x ∧ x ≤ 63 ∧ l.count x = 1)
  · rw [if_pos hq, dT hq]; rfl
  · rw [if_neg hq, dF hq]; rfl
open Classical in
theorem ref_nodes (l : List Int) (hl : l.length ≤ 4611686018427387904) : F14 l = some (decide (NodesOk l)) := by
  let f : Nat → Int → Unit → Unit ⊕ (Bool ⊕ List Int) := fun i x _ => if l.getD i 0 < x then .inl () else .inr (.inl false)
  have h := loopN_list (step := fun s : List Int × Int => F14_s1 s.1 s.2) (l := l.drop 1) (fun i (_ : Unit) => (l, (i : Int) + 1)) f (fun _ => .inr l) (fun _ _ => True) (by simp; omega)
    (fun i u x hx hm => by
      rw [List.getElem?_drop] at hx
      have hi := at_lt hx
      have hx' : l[i + 1]? = some x := by rw [Nat.add_comm]; exact hx
      have e1 : Int.toNat ((i : Int) + 1) = i + 1 := by omega
      have e2 : (i : Int) + 1 - 1 = i := by omega
      have e3 : wr .i64 (i : Int) = i := wr_i64 (by omega) (by omega)
      simp only [F14_s1, e1, e2, e3, toNat_cast, at_getD hx', f]
      rw [dT (show (i : Int) + 1 < l.length by omega), dT (show (0 : Int) ≤ (i : Int) + 1 by omega), dT (show (0 : Int) ≤ i by omega), dT (show (i : Int) < l.length by omega)]
      simp only [cond_true, Bool.and_self]
      by_cases h1 : l.getD i 0 < x
      · rw [dF (show ¬ x ≤ l.getD i 0 by omega), cond_false, if_pos h1, wr_i64 (by omega) (by omega)]; rfl
      · rw [dT (show x ≤ l.getD i 0 by omega), cond_true, if_neg h1])
    (fun i x a a' hx ha hf => trivial)
    (fun u hm => by simp only [F14_s1]; rw [dF (by simp; omega), cond_false]) () trivial
  have e : ∀ (r pre : List Int), l.drop 1 = pre ++ r → foldE f (fun _ => .inr l) pre.length r () = if (∀ j, pre.length ≤ j → j + 1 < l.length → l.getD j 0 < l.getD (j + 1) 0) then .inr l else .inl false := by
    intro r
    induction r with
    | nil =>
      intro pre hp
      simp only [foldE]
      rw [if_pos]
      intro j h1 h2
      have := congrArg List.length hp
      simp at this; omega
    | cons x r ih =>
      intro pre hp
      have hx : l[pre.length + 1]? = some x := by
        have := congrArg (fun z => z[pre.length]?) hp
        simp only [List.getElem?_drop] at this
        rw [Nat.add_comm, this]; simp
      simp only [foldE, f]
      by_cases h1 : l.getD pre.length 0 < x
      · rw [if_pos h1]; simp only []
        have := ih (pre ++ [x]) (by rw [hp]; simp)
        rw [show (pre ++ [x]).length = pre.length + 1 by simp] at this
        rw [this]
        congr 1
        apply propext
        constructor
        · intro h j hj1 hj2
          by_cases hjp : j = pre.length
          · subst hjp; rw [at_getD hx]; exact h1
          · exact h j (by omega) hj2
        · exact fun h j hj1 hj2 => h j (by omega) hj2
      · rw [if_neg h1]; simp only []
        rw [if_neg (fun h => h1 (by have := h pre.length (Nat.le_refl _) (at_lt hx); rwa [at_getD hx] at this))]
  have e0 := e (l.drop 1) [] rfl
  rw [show ([] : List Int).length = 0 from rfl] at e0
  rw [e0] at h
  unfold F14 F14_l1
  rw [show loopN (S := List Int × Int) (O := Bool ⊕ List Int) (fun s => F14_s1 s.1 s.2) (l, 1) = _ from h]
  by_cases hq : (∀ j, 0 ≤ j → j + 1 < l.length → l.getD j 0 < l.getD (j + 1) 0)
  · rw [if_pos hq]
    simp only [Option.bind_some, Sum.elim_inr]
    have hp := pairwise_of_adj (R := (· < ·)) (fun a b c => Int.lt_trans) l (fun j hj => hq j (Nat.zero_le _) hj)
    have hnd : l.Nodup := hp.imp (by omega)
    by_cases h2 : ∀ x ∈ l, 0 ≤ x ∧ x ≤ 63
    · have hok : NodesOk l := ⟨hp, h2⟩
      rw [dT (show (l.length : Int) ≤ 64 by have := hok.length; omega), cond_true, once_eq l hl, dT (fun x hx => ⟨(h2 x hx).1, (h2 x hx).2, count_one hnd hx⟩), dT hok]; rfl
    · rw [dF (fun h : NodesOk l => h2 h.2), once_eq l hl, dF (show ¬ (∀ x ∈ l, 0 ≤ x ∧ x ≤ 63 ∧ l.count x = 1) from fun h => h2 fun x hx => ⟨(h x hx).1, (h x hx).2.1⟩)]
      cases decide ((l.length : Int) ≤ 64) <;> rfl
  · rw [if_neg hq]
    simp only [Option.bind_some, Sum.elim_inl]
    rw [dF (fun h : NodesOk l => hq fun j _ hj => adj_of_pairwise h.1 j hj)]

/-! ### Sums -/
def onB (h : Int) (x : UInt8) : Int := wr .u64 (bXor .u64 h (wr .u64 (x.toNat : Int)) * 1099511628211)
def fnv (h : Int) (s : ByteArray) : Int := s.data.toList.foldl onB h
theorem bt_at {s : ByteArray} {i : Nat} {x : UInt8} (h : s.data.toList[i]? = some x) : bt s (i : Int) = (x.toNat : Int) := by
  have : s.data[i]? = some x := by simpa using h
  simp [bt, Array.getD_eq_getD_getElem?, this]
theorem size_list (s : ByteArray) : s.data.toList.length = s.size := Array.length_toList
theorem foldE_foldl {E A O : Type} (g : A → E → A) (fin : A → O) : ∀ (r : List E) (i : Nat) (a : A), foldE (fun _ x a => (.inl (g a x) : A ⊕ O)) fin i r a = fin (r.foldl g a)
  | [], i, a => rfl
  | x :: r, i, a => foldE_foldl g fin r (i + 1) (g a x)
theorem on_eq (h0 : Int) (s : ByteArray) (hs : s.size ≤ 4611686018427387904) : F56 h0 s = some (fnv h0 s) := by
  have hsz := size_list s
  have h := loopN_list (step := fun z : Int × ByteArray × Int × Int => F56_s1 z.1 z.2.1 z.2.2.1 z.2.2.2) (l := s.data.toList) (fun i (a : Int) => (a, s, (s.size : Int), (i : Int)))
    (fun _ x a => .inl (onB a x)) (fun a => a) (fun _ _ => True) (by omega)
    (fun i a x hx _ => by
      have hi := at_lt hx
      simp only [F56_s1, bt_at hx]
      rw [dT (show (i : Int) < s.size by omega), dT (show (0 : Int) ≤ i by omega)]
      simp only [cond_true, Bool.and_self]
      rw [wr_succ (by omega)]; rfl)
    (fun i x a a' hx ha hf => trivial)
    (fun u hm => by simp only [F56_s1]; rw [dF (by omega), cond_false]) h0 trivial
  rw [foldE_foldl] at h
  unfold F56 F56_l1
  rw [show loopN (S := Int × ByteArray × Int × Int) (O := Int) (fun z => F56_s1 z.1 z.2.1 z.2.2.1 z.2.2.2) (h0, s, (s.size : Int), 0) = _ from h]
  rfl
def sum (l : List ByteArray) : Int := l.foldl fnv 14695981039346656037
theorem sum_eq (l : List ByteArray) (hl : l.length ≤ 4611686018427387904) (hs : ∀ s ∈ l, s.size ≤ 4611686018427387904) : F40 l = some (sum l) := by
  have h := loopN_list (step := fun z : Int × List ByteArray × Int × Int => F40_s1 z.1 z.2.1 z.2.2.1 z.2.2.2) (l := l) (fun i (a : Int) => (a, l, (l.length : Int), (i : Int)))
    (fun _ x a => .inl (fnv a x)) (fun a => a) (fun _ _ => True) (by omega)
    (fun i a x hx _ => by
      have hi := at_lt hx
      simp only [F40_s1, toNat_cast, at_getD hx, on_eq a x (hs x (List.mem_of_getElem? hx)), Option.bind_some]
      rw [dT (show (i : Int) < l.length by omega), dT (show (0 : Int) ≤ i by omega)]
      simp only [cond_true, Bool.and_self]
      rw [wr_succ (by omega)])
    (fun i x a a' hx ha hf => trivial)
    (fun u hm => by simp only [F40_s1]; rw [dF (by omega), cond_false]) 14695981039346656037 trivial
  rw [foldE_foldl] at h
  unfold F40 F40_l1
  rw [show loopN (S := Int × List ByteArray × Int × Int) (O := Int) (fun z => F40_s1 z.1 z.2.1 z.2.2.1 z.2.2.2) (14695981039346656037, l, (l.length : Int), 0) = _ from h]
  rfl

/-! ### A number's digits -/
def dig (n : Int) : ByteArray := (F41 n).getD ⟨#[]⟩
theorem itoa_eq {n : Int} (h0 : 0 ≤ n) (h1 : n < 100) : F41 n = some (dig n) ∧ (dig n).size ≤ 2 := by
  have e1 : wr .i64 (n + 1) = n + 1 := wr_i64 (by omega) (by omega)
  have e2 : wr .i64 (n * 2) = n * 2 := wr_i64 (by omega) (by omega)
  have e3 : wr .i64 (n * 2 + 2) = n * 2 + 2 := wr_i64 (by omega) (by omega)
  unfold dig
  simp only [F41, F57, F69, F69_j1, show ((10 : Int) == 10) = true from rfl, cond_true, dT h0, dT h1, F82, e1, e2, e3]
  by_cases h : n < 10
  · rw [dT h, dT (show n ≤ n + 1 by omega), dT (show n + 1 ≤ 36 by omega)]
    simp only [cond_true, Bool.and_self, Option.bind_some, Option.getD_some, true_and]
    simp; omega
  · rw [dF h, dT (show 0 ≤ n * 2 by omega), dT (show n * 2 ≤ n * 2 + 2 by omega), dT (show n * 2 + 2 ≤ 200 by omega)]
    simp only [cond_true, cond_false, Bool.and_self, Option.bind_some, Option.getD_some, true_and]
    simp; omega
end Go.Proofs.YtomijlhmjenaoaaDoor
