/- The load's functions, plainly: names, tasks. -/
import Derived.Test.YtomijlhmjenaoaaDoorPRing4
import Derived.Laws.RangeAny
namespace Go.Proofs.YtomijlhmjenaoaaDoor
open Go Go.Tat
set_option linter.unusedVariables false
def okI (v : Int) : Bool := (decide (97 ≤ v) && decide (v ≤ 122)) || (decide (48 ≤ v) && decide (v ≤ 57)) || v == 45
theorem chars {α : Type} (v : Int) (A B : α) : cond (decide (97 ≤ v)) (cond (decide (v ≤ 122)) A (cond (decide (48 ≤ v)) (cond (decide (v ≤ 57)) A (cond (!(v == 45)) B A)) (cond (!(v == 45)) B A)))
    (cond (decide (48 ≤ v)) (cond (decide (v ≤ 57)) A (cond (!(v == 45)) B A)) (cond (!(v == 45)) B A)) = cond (okI v) A B := by
  unfold okI
  cases decide (97 ≤ v) <;> cases decide (v ≤ 122) <;> cases decide (48 ≤ v) <;> cases decide (v ≤ 57) <;> cases (v == 45) <;> rfl
def nameB (s : ByteArray) : Bool := s.data.toList.all (fun b => okI (b.toNat : Int)) && (decide (1 ≤ s.size) && decide (s.size ≤ 20))
theorem foldE_all {E O : Type} (P : E → Bool) (good bad : O) : ∀ (r : List E) (i : Nat), foldE (fun _ x (_ : Unit) => cond (P x) (.inl () : Unit ⊕ O) (.inr bad)) (fun _ => good) i r () = cond (r.all P) good bad
  | [], i => rfl
  | x :: r, i => by
    simp only [foldE, List.all_cons]
    cases P x with
    | true => exact foldE_all P good bad r (i + 1)
    | false => rfl
theorem ref_name (s : ByteArray) (hs : s.size ≤ 9223372036854775807) : F52 s = some (nameB s) := by
  have hsz := size_list s
  have h := loopN_list (step := fun z : ByteArray × Int => F52_s1 z.1 z.2) (l := s.data.toList) (fun i (a : Unit) => (s, (i : Int)))
    (fun _ x a => cond (okI (x.toNat : Int)) (.inl ()) (.inr (.inl false))) (fun a => (.inr s : Bool ⊕ ByteArray)) (fun _ _ => True) (by omega)
    (fun i a x hx _ => by
      have hi := at_lt hx
      simp only [F52_s1, bt_at hx]
      rw [dT (show (i : Int) < s.size by omega), dT (show (0 : Int) ≤ i by omega)]
      simp only [cond_true, Bool.and_self]
      rw [chars, wr_succ (by omega)]
      cases okI (x.toNat : Int) <;> rfl)
    (fun i x a a' hx ha hf => trivial)
    (fun u hm => by simp only [F52_s1]; rw [dF (by omega), cond_false]) () trivial
  rw [foldE_all] at h
  unfold F52 F52_l1
  rw [show loopN (S := ByteArray × Int) (O := Bool ⊕ ByteArray) (fun z => F52_s1 z.1 z.2) (s, 0) = _ from h]
  unfold nameB
  cases s.data.toList.all (fun b => okI (b.toNat : Int)) with
  | true =>
    simp only [cond_true, Option.bind_some, Sum.elim_inr, Bool.true_and]
    by_cases h1 : 1 ≤ s.size
    · rw [dT h1, dT (show (1 : Int) ≤ s.size by omega), cond_true, Bool.true_and]
      congr 1; simp; omega
    · rw [dF h1, dF (show ¬ (1 : Int) ≤ s.size by omega), cond_false, Bool.false_and]
  | false => rfl
theorem okI_high {v : Int} (h : 128 ≤ v) : okI v = false := by
  unfold okI
  rw [dF (show ¬ v ≤ 122 by omega), dF (show ¬ v ≤ 57 by omega)]
  simp; omega
theorem msg_name (s : ByteArray) (hs : s.size ≤ 9223372036854775807) : F51 s = some (nameB s) := by
  have hsz := size_list s
  have h := loopN_list (step := fun z : ByteArray × ByteArray × Int => F51_s1 z.1 z.2.1 z.2.2) (l := s.data.toList) (fun i (a : Unit) => (s, s, (i : Int)))
    (fun _ x a => cond (okI (x.toNat : Int)) (.inl ()) (.inr (.inl false))) (fun a => (.inr s : Bool ⊕ ByteArray)) (fun _ _ => True) (by omega)
    (fun i a x hx _ => by
      have hi := at_lt hx
      have hi' : i < s.size := by omega
      have ex : s[i]'hi' = x := by
        have : s.data[i]? = some x := by simpa using hx
        have := (Array.getElem?_eq_some_iff.1 this).2
        exact this
      simp only [F51_s1, toNat_cast]
      rw [dT hi', cond_true]
      by_cases hx8 : x.toNat < 128
      · have e := decode_ascii s i hi' (by rw [ex]; exact hx8)
        rw [ex] at e
        refine (chars (α := Option ((ByteArray × ByteArray × Int) ⊕ (Bool ⊕ ByteArray))) ((Utf8.decode s i).1 : Int) (some (.inl (s, s, ((i + (Utf8.decode s i).2 : Nat) : Int)))) (some (.inr (.inl false)))).trans ?_
        rw [e]
        cases okI (x.toNat : Int) <;> rfl
      · have e := (decode_high s i hi' (by rw [ex]; omega)).1
        refine (chars (α := Option ((ByteArray × ByteArray × Int) ⊕ (Bool ⊕ ByteArray))) ((Utf8.decode s i).1 : Int) (some (.inl (s, s, ((i + (Utf8.decode s i).2 : Nat) : Int)))) (some (.inr (.inl false)))).trans ?_
        rw [okI_high (by omega), okI_high (by omega)]
        rfl)
    (fun i x a a' hx ha hf => trivial)
    (fun u hm => by simp only [F51_s1, toNat_cast]; rw [dF (by omega), cond_false]) () trivial
  rw [foldE_all] at h
  unfold F51 F51_l1
  rw [show loopN (S := ByteArray × ByteArray × Int) (O := Bool ⊕ ByteArray) (fun z => F51_s1 z.1 z.2.1 z.2.2) (s, s, 0) = _ from h]
  unfold nameB
  cases s.data.toList.all (fun b => okI (b.toNat : Int)) with
  | true =>
    simp only [cond_true, Option.bind_some, Sum.elim_inr, Bool.true_and]
    have e1 : (ByteArray.toList s == ByteArray.toList (⟨#[]⟩ : ByteArray)) = !(decide (1 ≤ s.size)) := by
      rw [ByteArray.toList_eq, ByteArray.toList_eq, ← hsz]
      cases s.data.toList with
      | nil => rfl
      | cons x r => simp
    rw [e1, Bool.not_not]
    cases decide (1 ≤ s.size) with
    | true => simp only [cond_true, Bool.true_and]; congr 1; simp; omega
    | false => rfl
  | false => rfl

/-! ### Tasks -/
def ltS (a b : ByteArray) : Bool := Op.bytesLess a.toList b.toList
theorem less_irr : ∀ x : List UInt8, Op.bytesLess x x = false
  | [] => rfl
  | a :: x => by
    rw [Op.bytesLess, less_irr x]
    have : ¬ a < a := by simp
    simp [this]
theorem less_asym : ∀ x y : List UInt8, Op.bytesLess x y = true → Op.bytesLess y x = false
  | [], [], _ => rfl
  | [], b :: y, _ => rfl
  | a :: x, [], h => by simp [Op.bytesLess] at h
  | a :: x, b :: y, h => by
    simp only [Op.bytesLess, Bool.or_eq_true, Bool.and_eq_true, decide_eq_true_eq, beq_iff_eq, Bool.or_eq_false_iff, Bool.and_eq_false_iff, decide_eq_false_iff_not, beq_eq_false_iff_ne] at *
    rcases h with h | ⟨rfl, h⟩
    · exact ⟨fun h' => by rw [UInt8.lt_iff_toNat_lt] at *; omega, .inl fun e => by subst e; rw [UInt8.lt_iff_toNat_lt] at h; omega⟩
    · exact ⟨by rw [UInt8.lt_iff_toNat_lt]; omega, .inr (less_asym x y h)⟩
theorem less_trans : ∀ x y z : List UInt8, Op.bytesLess x y = true → Op.bytesLess y z = true → Op.bytesLess x z = true
  | [], _, [], h1, h2 => by cases ‹List UInt8› <;> simp [Op.bytesLess] at *
  | [], _, c :: z, h1, h2 => rfl
  | a :: x, [], _, h1, h2 => by simp [Op.bytesLess] at h1
  | a :: x, b :: y, [], h1, h2 => by simp [Op.bytesLess] at h2
  | a :: x, b :: y, c :: z, h1, h2 => by
    simp only [Op.bytesLess, Bool.or_eq_true, Bool.and_eq_true, decide_eq_true_eq, beq_iff_eq] at *
    rcases h1 with h1 | ⟨rfl, h1⟩
    · rcases h2 with h2 | ⟨rfl, h2⟩
      · exact .inl (by rw [UInt8.lt_iff_toNat_lt] at *; omega)
      · exact .inl h1
    · rcases h2 with h2 | ⟨rfl, h2⟩
      · exact .inl h2
      · exact .inr ⟨rfl, less_trans x y z h1 h2⟩
theorem less_total : ∀ x y : List UInt8, Op.bytesLess x y = false → Op.bytesLess y x = false → x = y
  | [], [], _, _ => rfl
  | [], b :: y, h, _ => by simp [Op.bytesLess] at h
  | a :: x, [], _, h => by simp [Op.bytesLess] at h
  | a :: x, b :: y, h1, h2 => by
    simp only [Op.bytesLess, Bool.or_eq_false_iff, Bool.and_eq_false_iff, decide_eq_false_iff_not, beq_eq_false_iff_ne] at *
    have e : a = b := by
      apply UInt8.toNat_inj.1
      have := h1.1; have := h2.1
      rw [UInt8.lt_iff_toNat_lt] at *; omega
    subst e
    rw [less_total x y (by rcases h1.2 with h | h; exact (h rfl).elim; exact h) (by rcases h2.2 with h | h; exact (h rfl).elim; exact h)]
theorem bytes_ext {a b : ByteArray} (h : a.toList = b.toList) : a = b := by
  rw [ByteArray.toList_eq, ByteArray.toList_eq] at h
  obtain ⟨⟨a⟩⟩ := a; obtain ⟨⟨b⟩⟩ := b
  have h : a = b := h
  rw [h]
theorem ltS_trans {a b c : ByteArray} (h1 : ltS a b = true) (h2 : ltS b c = true) : ltS a c = true := less_trans _ _ _ h1 h2
theorem not_le (x y : List UInt8) : (Op.bytesLess x y || x == y) = !(Op.bytesLess y x) := by
  cases h : Op.bytesLess y x with
  | true =>
    rw [less_asym _ _ h]
    have : x ≠ y := fun e => by subst e; rw [less_irr] at h; cases h
    simp [this]
  | false =>
    cases h2 : Op.bytesLess x y with
    | true => rfl
    | false => rw [less_total _ _ h2 h]; simp
def adjB {E : Type} (P : E → Bool) (Q : E → E → Bool) : Option E → List E → Bool
  | _, [] => true
  | none, x :: r => P x && adjB P Q (some x) r
  | some y, x :: r => P x && (Q y x && adjB P Q (some x) r)
theorem foldE_adj {E O : Type} (P : E → Bool) (Q : E → E → Bool) (d : E) (l : List E) (good bad : O) : ∀ (r pre : List E), l = pre ++ r →
    foldE (fun i x (_ : Unit) => cond (P x && (decide (i = 0) || Q (l.getD (i - 1) d) x)) (.inl () : Unit ⊕ O) (.inr bad)) (fun _ => good) pre.length r () = cond (adjB P Q pre.getLast? r) good bad
  | [], pre, _ => by cases pre.getLast? <;> rfl
  | x :: r, pre, hp => by
    have ih := foldE_adj P Q d l good bad r (pre ++ [x]) (by rw [hp]; simp)
    simp only [foldE]
    rw [show (pre ++ [x]).length = pre.length + 1 by simp, List.getLast?_concat] at ih
    rcases List.eq_nil_or_concat pre with rfl | ⟨p, y, rfl⟩
    · simp only [List.length_nil, List.getLast?_nil, adjB, decide_true, Bool.true_or, Bool.and_true] at *
      cases P x with
      | true => simpa using ih
      | false => rfl
    · rw [List.concat_eq_append] at *
      have e : l.getD ((p ++ [y]).length - 1) d = y := by
        rw [hp]
        exact at_getD (by simp)
      rw [e, dF (show ¬ (p ++ [y]).length = 0 by simp), List.getLast?_concat, Bool.false_or]
      simp only [adjB]
      cases P x with
      | true =>
        cases Q y x with
        | true => exact ih
        | false => rfl
      | false => rfl
def tasksB (l : List ByteArray) : Bool := decide (l.length ≤ 100) && adjB nameB ltS none l
theorem nil_eq : (⟨#[]⟩ : ByteArray) = ByteArray.empty := rfl
theorem load_tasks (l : List ByteArray) (hl : l.length ≤ 1000000000000) (hs : ∀ s ∈ l, s.size ≤ 9223372036854775807) : F34 l = some (cond (tasksB l) 0 1) := by
  have h := loopN_list (step := fun z : List ByteArray × List ByteArray × Int × Int => F34_s1 z.1 z.2.1 z.2.2.1 z.2.2.2) (l := l) (fun i (a : Unit) => (l, l, (l.length : Int), (i : Int)))
    (fun i x _ => cond (nameB x && (decide (i = 0) || ltS (l.getD (i - 1) (⟨#[]⟩ : ByteArray)) x)) (.inl ()) (.inr (.inl 1))) (fun a => (.inr () : Int ⊕ Unit)) (fun _ _ => True) (by omega)
    (fun i a x hx _ => by
      have hi := at_lt hx
      simp only [F34_s1, toNat_cast, at_getD hx, msg_name x (hs x (List.mem_of_getElem? hx)), Option.bind_some]
      rw [dT (show (i : Int) < l.length by omega), dT (show (0 : Int) ≤ i by omega), wr_succ (by omega)]
      simp only [cond_true, Bool.and_self]
      cases nameB x with
      | false => rfl
      | true =>
        simp only [Bool.not_true, cond_false, Bool.true_and]
        by_cases h0 : i = 0
        · subst h0; rfl
        · have e1 : wr .i64 ((i : Int) - 1) = ((i - 1 : Nat) : Int) := by rw [wr_i64 (by omega) (by omega)]; omega
          rw [dT (show (i : Int) > 0 by omega), dF h0, e1, dT (show (0 : Int) ≤ ((i - 1 : Nat) : Int) by omega), dT (show ((i - 1 : Nat) : Int) < l.length by omega), toNat_cast]
          simp only [cond_true, Bool.and_self, Bool.false_or]
          show cond (!(ltS (l.getD (i - 1) (⟨#[]⟩ : ByteArray)) x)) _ _ = _
          cases ltS (l.getD (i - 1) (⟨#[]⟩ : ByteArray)) x <;> rfl)
    (fun i x a a' hx ha hf => trivial)
    (fun u hm => by simp only [F34_s1]; rw [dF (by omega), cond_false]) () trivial
  have e := foldE_adj nameB ltS (⟨#[]⟩ : ByteArray) l (.inr () : Int ⊕ Unit) (.inl 1) l [] rfl
  rw [show ([] : List ByteArray).length = 0 from rfl, show ([] : List ByteArray).getLast? = none from rfl] at e
  rw [e] at h
  unfold F34 F34_l1 tasksB
  by_cases h1 : l.length ≤ 100
  · rw [dF (show ¬ (l.length : Int) > 100 by omega), dT h1, cond_false, Bool.true_and, show loopN (S := List ByteArray × List ByteArray × Int × Int) (O := Int ⊕ Unit) (fun z => F34_s1 z.1 z.2.1 z.2.2.1 z.2.2.2) (l, l, (l.length : Int), 0) = _ from h]
    cases adjB nameB ltS none l <;> rfl
  · rw [dT (show (l.length : Int) > 100 by omega), dF h1]; rfl
theorem ref_tasks (l : List ByteArray) (hl : l.length ≤ 1000000000000) (hs : ∀ s ∈ l, s.size ≤ 9223372036854775807) : F35 l = some (tasksB l) := by
  have h := loopN_list (step := fun z : List ByteArray × Int => F35_s1 z.1 z.2) (l := l) (fun i (a : Unit) => (l, (i : Int)))
    (fun i x _ => cond (nameB x && (decide (i = 0) || ltS (l.getD (i - 1) (⟨#[]⟩ : ByteArray)) x)) (.inl ()) (.inr (.inl false))) (fun a => (.inr l : Bool ⊕ List ByteArray)) (fun _ _ => True) (by omega)
    (fun i a x hx _ => by
      have hi := at_lt hx
      simp only [F35_s1, toNat_cast, at_getD hx, ref_name x (hs x (List.mem_of_getElem? hx)), Option.bind_some]
      rw [dT (show (i : Int) < l.length by omega), dT (show (0 : Int) ≤ i by omega), wr_succ (by omega)]
      simp only [cond_true, Bool.and_self]
      cases nameB x with
      | false => rfl
      | true =>
        simp only [Bool.not_true, cond_false, Bool.true_and]
        by_cases h0 : i = 0
        · subst h0; rfl
        · have e1 : wr .i64 ((i : Int) - 1) = ((i - 1 : Nat) : Int) := by rw [wr_i64 (by omega) (by omega)]; omega
          rw [dT (show (i : Int) > 0 by omega), dF h0, e1, dT (show (0 : Int) ≤ ((i - 1 : Nat) : Int) by omega), dT (show ((i - 1 : Nat) : Int) < l.length by omega), toNat_cast, not_le]
          simp only [cond_true, Bool.and_self, Bool.false_or]
          show cond (!(ltS (l.getD (i - 1) (⟨#[]⟩ : ByteArray)) x)) _ _ = _
          cases ltS (l.getD (i - 1) (⟨#[]⟩ : ByteArray)) x <;> rfl)
    (fun i x a a' hx ha hf => trivial)
    (fun u hm => by simp only [F35_s1]; rw [dF (by omega), cond_false]) () trivial
  have e := foldE_adj nameB ltS (⟨#[]⟩ : ByteArray) l (.inr l : Bool ⊕ List ByteArray) (.inl false) l [] rfl
  rw [show ([] : List ByteArray).length = 0 from rfl, show ([] : List ByteArray).getLast? = none from rfl] at e
  rw [e] at h
  unfold F35 F35_l1 tasksB
  rw [show loopN (S := List ByteArray × Int) (O := Bool ⊕ List ByteArray) (fun z => F35_s1 z.1 z.2) (l, 0) = _ from h]
  cases adjB nameB ltS none l with
  | true =>
    simp only [cond_true, Option.bind_some, Sum.elim_inr, Bool.and_true]
    congr 1; simp; omega
  | false => simp
theorem adj_some {l : List ByteArray} : ∀ {y : ByteArray}, adjB nameB ltS (some y) l = true ↔ (∀ x ∈ l, nameB x = true) ∧ (y :: l).Pairwise (fun a b => ltS a b = true) := by
  induction l with
  | nil => intro y; simp [adjB]
  | cons x r ih =>
    intro y
    simp only [adjB, Bool.and_eq_true, ih, List.pairwise_cons, List.mem_cons, forall_eq_or_imp]
    constructor
    · rintro ⟨h1, h2, h3, h4, h5⟩
      exact ⟨⟨h1, h3⟩, ⟨h2, fun z hz => ltS_trans h2 (h4 z hz)⟩, h4, h5⟩
    · rintro ⟨⟨h1, h3⟩, ⟨h2, _⟩, h4, h5⟩
      exact ⟨h1, h2, h3, h4, h5⟩
/-- Tasks that may be: their names may be, and rise. -/
theorem tasks_iff {l : List ByteArray} : tasksB l = true ↔ l.length ≤ 100 ∧ (∀ x ∈ l, nameB x = true) ∧ l.Pairwise (fun a b => ltS a b = true) := by
  unfold tasksB
  rw [Bool.and_eq_true, decide_eq_true_eq]
  cases l with
  | nil => simp [adjB]
  | cons x r =>
    simp only [adjB, Bool.and_eq_true, adj_some, List.mem_cons, forall_eq_or_imp]
    constructor
    · rintro ⟨h1, h2, h3, h4⟩; exact ⟨h1, ⟨h2, h3⟩, h4⟩
    · rintro ⟨h1, ⟨h2, h3⟩, h4⟩; exact ⟨h1, h2, h3, h4⟩
theorem name_size {s : ByteArray} (h : nameB s = true) : s.size ≤ 20 := by
  simp only [nameB, Bool.and_eq_true, decide_eq_true_eq] at h
  exact h.2.2
end Go.Proofs.YtomijlhmjenaoaaDoor
