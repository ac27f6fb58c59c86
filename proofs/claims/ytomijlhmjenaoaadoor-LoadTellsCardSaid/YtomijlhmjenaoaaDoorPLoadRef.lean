/- The reference of the ring, plainly. -/
import Derived.Test.YtomijlhmjenaoaaDoorPLoad3
namespace Go.Proofs.YtomijlhmjenaoaaDoor
open Go Go.Tat PureRingWalks PureLoadMost
set_option linter.unusedVariables false
/-! ### Digits -/
theorem digits_dig : ∀ n : Nat, n < 100 → F45 (n : Int) = F41 (n : Int) := by
  have h : ∀ n : Nat, n < 100 → (match F45 (n : Int), F41 (n : Int) with | some a, some b => a.data.toList == b.data.toList | _, _ => false) = true := by
    have : (List.range 100).all (fun n : Nat => (match F45 (n : Int), F41 (n : Int) with | some a, some b => a.data.toList == b.data.toList | _, _ => false)) = true := by kernel_rfl
    intro n hn
    exact List.all_eq_true.1 this n (List.mem_range.2 hn)
  intro n hn
  have := h n hn
  revert this
  cases F45 (n : Int) with
  | none => intro h; cases h
  | some a =>
    cases F41 (n : Int) with
    | none => intro h; cases h
    | some b =>
      intro h
      have h : a.data.toList = b.data.toList := by simpa using h
      congr 1
      exact bytes_ext (by rw [ByteArray.toList_eq, ByteArray.toList_eq, h])
theorem digits_eq {n : Int} (h0 : 0 ≤ n) (h1 : n < 100) : F45 n = some (dig n) := by
  obtain ⟨k, rfl⟩ : ∃ k : Nat, n = k := ⟨n.toNat, by omega⟩
  rw [digits_dig k (by omega)]
  exact (itoa_eq h0 h1).1
/-! ### The reference's sum -/
theorem times_eq (n : Int) (h0 : 0 ≤ n) : F67 n = some (wr .u64 (n * 1099511628211)) := by
  have h := loopN_list (step := fun s : Int × Int × Int => F67_s1 s.1 s.2.1 s.2.2) (l := List.range 435) (fun i (a : Int) => (n, a, (i : Int)))
    (fun _ x a => .inl (wr .u64 (a + n))) (fun a => a) (fun i a => a = wr .u64 (n * (1099511627776 + i))) (by simp)
    (fun i a x hx hi => by
      have hlt := (range_at hx).2
      simp only [F67_s1]
      rw [dT (show (i : Int) < 435 by omega), cond_true, wr_succ (by omega)])
    (fun i x a a' hx hi hf => by
      simp only [Sum.inl.injEq] at hf
      subst hf; subst hi
      rw [wr_u64_mod, wr_u64_mod, wr_u64_mod]
      rw [Int.emod_add_emod, show (1099511627776 + ((i + 1 : Nat) : Int)) = (1099511627776 + (i : Int)) + 1 by omega, Int.mul_add _ _ 1, Int.mul_one])
    (fun u hm => by simp only [F67_s1, List.length_range]; rw [dF (by omega), cond_false]) (wr .u64 (n * pow2 40)) (by
      rw [show pow2 40 = 1099511627776 from rfl, show (1099511627776 : Int) + ((0 : Nat) : Int) = 1099511627776 by omega])
  rw [foldE_foldl] at h
  have e : ∀ (k : Nat), (List.range k).foldl (fun a (x : Nat) => wr .u64 (a + n)) (wr .u64 (n * pow2 40)) = wr .u64 (n * (1099511627776 + k)) := by
    intro k
    induction k with
    | zero => rw [show pow2 40 = 1099511627776 from rfl]; simp
    | succ k ih =>
      rw [List.range_succ, List.foldl_append, ih]
      simp only [List.foldl_cons, List.foldl_nil]
      rw [wr_u64_mod, wr_u64_mod, wr_u64_mod, Int.emod_add_emod, show (1099511627776 + ((k + 1 : Nat) : Int)) = (1099511627776 + (k : Int)) + 1 by omega, Int.mul_add _ _ 1, Int.mul_one]
  rw [e] at h
  unfold F67 F67_l1
  rw [show loopN (S := Int × Int × Int) (O := Int) (fun s => F67_s1 s.1 s.2.1 s.2.2) (n, wr .u64 (n * pow2 40), 0) = _ from h]
  rfl
theorem ref_on (h0 : Int) (s : ByteArray) (hs : s.size ≤ 4611686018427387904) : F53 h0 s = some (fnv h0 s) := by
  have hsz := size_list s
  have h := loopN_list (step := fun z : Int × ByteArray × Int => F53_s1 z.1 z.2.1 z.2.2) (l := s.data.toList) (fun i (a : Int) => (a, s, (i : Int)))
    (fun _ x a => .inl (onB a x)) (fun a => a) (fun _ _ => True) (by omega)
    (fun i a x hx _ => by
      have hi := at_lt hx
      simp only [F53_s1, bt_at hx]
      rw [dT (show (i : Int) < s.size by omega), dT (show (0 : Int) ≤ i by omega), times_eq (bXor .u64 a (wr .u64 (x.toNat : Int))) (wr_u64_rng _).1]
      simp only [cond_true, Bool.and_self, Option.bind_some]
      rw [wr_succ (by omega)]; rfl)
    (fun i x a a' hx ha hf => trivial)
    (fun u hm => by simp only [F53_s1]; rw [dF (by omega), cond_false]) h0 trivial
  rw [foldE_foldl] at h
  unfold F53 F53_l1
  rw [show loopN (S := Int × ByteArray × Int) (O := Int) (fun z => F53_s1 z.1 z.2.1 z.2.2) (h0, s, 0) = _ from h]
  rfl
theorem append_list (a b : ByteArray) : (a ++ b).data.toList = a.data.toList ++ b.data.toList := by
  simp
theorem append_size (a b : ByteArray) : (a ++ b).size = a.size + b.size := by simp
theorem ref_sum1 (s : ByteArray) (hs : s.size ≤ 4611686018427387904) : F38 [s] = some (sum [s]) := by
  have e : F38_l1 [s] (⟨#[]⟩ : ByteArray) 0 = some ((⟨#[]⟩ : ByteArray) ++ s) := by
    refine loopN_of (n := 2) ?_ (by omega)
    rw [iterω_inl (s' := ([s], (⟨#[]⟩ : ByteArray) ++ s, 1)) ?_]
    · exact iterω_inr rfl
    · show cond _ _ _ = _
      rw [dT (show (0 : Int) < (([s] : List ByteArray).length : Int) by simp), cond_true]
      show cond (decide ((⟨#[]⟩ : ByteArray).size + s.size ≤ 9223372036854775807)) _ _ = _
      rw [dT (show (⟨#[]⟩ : ByteArray).size + s.size ≤ 9223372036854775807 by
        have : (⟨#[]⟩ : ByteArray).size = 0 := rfl
        omega)]
      rfl
  have e2 : (⟨#[]⟩ : ByteArray) ++ s = s := bytes_ext (by rw [ByteArray.toList_eq, ByteArray.toList_eq, append_list]; rfl)
  unfold F38
  rw [e, e2]
  simp only [Option.bind_some]
  rw [ref_on _ s hs]
  rfl
theorem fnv_append (h : Int) (a b : ByteArray) : fnv h (a ++ b) = fnv (fnv h a) b := by
  unfold fnv; rw [append_list, List.foldl_append]
theorem ref_hash {n i : Int} (h0 : 0 ≤ n) (h1 : n < 100) (h2 : 0 ≤ i) (h3 : i < 100) : F38 [(dig n ++ (⟨#[47]⟩ : ByteArray)) ++ dig i] = some (hash n i) := by
  have e1 := (itoa_eq h0 h1).2
  have e2 := (itoa_eq h2 h3).2
  rw [ref_sum1 _ (by rw [append_size, append_size]; have : (⟨#[47]⟩ : ByteArray).size = 1 := rfl; omega)]
  congr 1
  show fnv _ _ = fnv (fnv (fnv _ _) _) _
  rw [fnv_append, fnv_append]
/-! ### The reference's points -/
theorem less_pt (a b : Point) : F46 a b = some (decide (ptLt a b)) := by
  unfold F46 ptLt
  by_cases h1 : a.1 = b.1
  · rw [show (a.1 != b.1) = false by simp [h1], cond_false]
    by_cases h2 : a.2.1 = b.2.1
    · rw [show (a.2.1 != b.2.1) = false by simp [h2], cond_false]; simp [h1, h2]
    · rw [show (a.2.1 != b.2.1) = true by simpa using h2, cond_true]; simp [h1, h2]
  · rw [show (a.1 != b.1) = true by simpa using h1, cond_true]; simp [h1]
/-- A point put in. -/
def insP (out : List Point) (p : Point) : List Point := out.takeWhile (fun x => decide (ptLt x p)) ++ p :: out.dropWhile (fun x => decide (ptLt x p))
theorem find_at (nodes : List Int) (spots : Int) (k i : Int) (p : Point) {out : List Point} (ho : out.length ≤ 1000000) :
    F25_l3 nodes spots out k i 0 p.1 p.2.1 p.2.2 = some (nodes, spots, out, k, i, ((out.takeWhile (fun x => decide (ptLt x p))).length : Int), p.1, p.2.1, p.2.2) := by
  have h := loopN_list (step := fun s : List Int × Int × List Point × Int × Int × Int × Int × Int × Int => F25_s3 s.1 s.2.1 s.2.2.1 s.2.2.2.1 s.2.2.2.2.1 s.2.2.2.2.2.1 s.2.2.2.2.2.2.1 s.2.2.2.2.2.2.2.1 s.2.2.2.2.2.2.2.2)
    (l := out) (fun j (_ : Unit) => (nodes, spots, out, k, i, (j : Int), p.1, p.2.1, p.2.2))
    (fun j x _ => cond (decide (ptLt x p)) (.inl ()) (.inr (nodes, spots, out, k, i, (j : Int), p.1, p.2.1, p.2.2))) (fun _ => (nodes, spots, out, k, i, (out.length : Int), p.1, p.2.1, p.2.2)) (fun _ _ => True) (by omega)
    (fun j a x hx _ => by
      have hi := at_lt hx
      simp only [F25_s3, toNat_cast, at_getD hx]
      rw [dT (show (j : Int) < out.length by omega), dT (show (0 : Int) ≤ j by omega), show ((p.1, p.2.1, p.2.2) : Point) = p from rfl, less_pt, wr_succ (by omega)]
      simp only [cond_true, Bool.and_self, Option.bind_some]
      cases decide (ptLt x p) <;> rfl)
    (fun i x a a' hx ha hf => trivial)
    (fun u hm => by simp only [F25_s3]; rw [dF (by omega), cond_false]) () trivial
  have e : ∀ (r : List Point) (j : Nat), j + r.length = out.length → foldE (fun j x (_ : Unit) => cond (decide (ptLt x p)) (.inl () : Unit ⊕ _) (.inr (nodes, spots, out, k, i, (j : Int), p.1, p.2.1, p.2.2))) (fun _ => (nodes, spots, out, k, i, (out.length : Int), p.1, p.2.1, p.2.2)) j r () =
      (nodes, spots, out, k, i, ((j + (r.takeWhile (fun x => decide (ptLt x p))).length : Nat) : Int), p.1, p.2.1, p.2.2) := by
    intro r
    induction r with
    | nil => intro j hj; simp only [foldE, List.takeWhile_nil, List.length_nil] at *; rw [hj]
    | cons x r ih =>
      intro j hj
      simp only [foldE, List.takeWhile_cons]
      cases h : decide (ptLt x p) with
      | true =>
        rw [List.length_cons] at hj
        simp only [cond_true, if_true]
        rw [ih (j + 1) (by omega), List.length_cons]
        congr 6; omega
      | false => simp
  rw [e out 0 (by omega), Nat.zero_add] at h
  exact h
theorem take_takeWhile {α : Type} (q : α → Bool) (l : List α) : l.take (l.takeWhile q).length = l.takeWhile q ∧ l.drop (l.takeWhile q).length = l.dropWhile q := by
  induction l with
  | nil => simp
  | cons x r ih =>
    rw [List.takeWhile_cons, List.dropWhile_cons]
    cases q x with
    | true => simp [ih.1, ih.2]
    | false => simp
theorem insP_length (out : List Point) (p : Point) : (insP out p).length = out.length + 1 := by
  have := congrArg List.length (List.takeWhile_append_dropWhile (p := fun x => decide (ptLt x p)) (l := out))
  simp only [insP, List.length_append, List.length_cons] at *
  omega
theorem ref_inner {s : Nat} (nodes : List Int) (out : List Point) (k : Nat) {n : Int} (hn : nodes[k]? = some n) (hk : k ≤ 1000) (h0 : 0 ≤ n) (h1 : n ≤ 63) (hs : s ≤ 32) (ho : out.length ≤ 5000) :
    F25_l2 nodes (s : Int) out (k : Int) 0 = some (nodes, (s : Int), (ptsOf s n).foldl insP out, (k : Int)) := by
  have h := loopN_list (step := fun z : List Int × Int × List Point × Int × Int => F25_s2 z.1 z.2.1 z.2.2.1 z.2.2.2.1 z.2.2.2.2)
    (l := List.range s) (fun i (a : List Point) => (nodes, (s : Int), a, (k : Int), (i : Int)))
    (fun _ x a => .inl (insP a (hash n (x : Int), n, (x : Int)))) (fun a => (nodes, (s : Int), a, (k : Int))) (fun i a => a.length = out.length + i) (by simp; omega)
    (fun i a x hx hi => by
      obtain ⟨rfl, hi'⟩ := range_at hx
      have hkl := at_lt hn
      have e1 := (itoa_eq h0 (show n < 100 by omega)).2
      have e2 := (itoa_eq (show (0 : Int) ≤ (x : Int) by omega) (show (x : Int) < 100 by omega)).2
      have e47 : (⟨#[47]⟩ : ByteArray).size = 1 := rfl
      have hf := find_at nodes (s : Int) (k : Int) (x : Int) (hash n x, n, (x : Int)) (out := a) (by omega)
      simp only [] at hf
      obtain ⟨t1, t2⟩ := take_takeWhile (fun y => decide (ptLt y (hash n x, n, (x : Int)))) a
      have hle : (a.takeWhile (fun y => decide (ptLt y (hash n x, n, (x : Int))))).length ≤ a.length := by
        have := congrArg List.length t1
        rw [List.length_take] at this; omega
      simp only [F25_s2, toNat_cast, at_getD hn]
      rw [dT (show (x : Int) < s by omega), dT (show (0 : Int) ≤ k by omega), dT (show (k : Int) < nodes.length by omega), digits_eq h0 (by omega), digits_eq (show (0 : Int) ≤ (x : Int) by omega) (by omega)]
      simp only [cond_true, Bool.and_self, Option.bind_some]
      rw [dT (show (dig n).size + 1 ≤ 9223372036854775807 by omega), dT (show (dig n ++ (⟨#[47]⟩ : ByteArray)).size + (dig x).size ≤ 9223372036854775807 by rw [append_size]; omega), ref_hash h0 (by omega) (by omega) (by omega)]
      simp only [cond_true, Option.bind_some, hf, toNat_cast, t1, t2, List.drop_zero, List.take_length]
      generalize hT : a.takeWhile (fun y => decide (ptLt y (hash n x, n, (x : Int)))) = T at *
      have hD : (a.dropWhile (fun y => decide (ptLt y (hash n x, n, (x : Int))))).length ≤ a.length := by rw [← t2]; simp
      rw [dT (show (0 : Int) ≤ T.length by omega), dT (show (T.length : Int) ≤ a.length by omega), dT (show (a.length : Int) ≤ a.length by omega), dT (show (0 + T.length) * 24 ≤ 140737488355328 by omega), dT (show (T.length + 1) * 24 ≤ 140737488355328 by omega),
        dT (show ((T ++ [(hash n x, n, (x : Int))]).length + (a.dropWhile (fun y => decide (ptLt y (hash n x, n, (x : Int))))).length) * 24 ≤ 140737488355328 by rw [List.length_append]; simp only [List.length_cons, List.length_nil]; omega), wr_succ (by omega)]
      simp only [cond_true, Bool.and_self]
      unfold insP
      rw [hT, List.append_assoc]; rfl)
    (fun i x a a' hx hi hf => by
      simp only [Sum.inl.injEq] at hf
      subst hf; rw [insP_length]; omega)
    (fun a hi => by simp only [F25_s2, List.length_range]; rw [dF (by omega), cond_false]) out (by simp)
  rw [foldE_foldl] at h
  rw [ptsOf, List.foldl_map]
  exact h
theorem fold_insP_length : ∀ (l out : List Point), (l.foldl insP out).length = out.length + l.length
  | [], out => by simp
  | x :: r, out => by rw [List.foldl_cons, fold_insP_length r, insP_length, List.length_cons]; omega
theorem ref_outer {s : Nat} {nodes : List Int} (hok : NodesOk nodes) (hs : s ≤ 32) : F25 nodes (s : Int) = some ((allPts s nodes).foldl insP []) := by
  have hl := hok.length
  have h := loopN_list (step := fun z : List Int × Int × List Point × Int => F25_s1 z.1 z.2.1 z.2.2.1 z.2.2.2)
    (l := nodes) (fun i (a : List Point) => (nodes, (s : Int), a, (i : Int)))
    (fun _ x a => .inl ((ptsOf s x).foldl insP a)) (fun a => a) (fun i a => a.length = s * i) (by omega)
    (fun i a x hx hi => by
      have hlt := at_lt hx
      have hr := hok.2 x (List.mem_of_getElem? hx)
      have hb : a.length ≤ 5000 := by
        have : s * i ≤ 32 * 64 := Nat.mul_le_mul hs (by omega)
        omega
      simp only [F25_s1]
      rw [dT (show (i : Int) < nodes.length by omega), ref_inner nodes a i hx (by omega) hr.1 hr.2 hs hb]
      simp only [cond_true, Option.bind_some]
      rw [wr_succ (by omega)])
    (fun i x a a' hx hi hf => by
      simp only [Sum.inl.injEq] at hf
      subst hf; rw [fold_insP_length, ptsOf_length, hi, Nat.mul_succ])
    (fun a hi => by simp only [F25_s1]; rw [dF (by omega), cond_false]) [] (by simp)
  rw [foldE_foldl] at h
  unfold F25 F25_l1
  rw [show loopN (S := List Int × Int × List Point × Int) (O := List Point) (fun z => F25_s1 z.1 z.2.1 z.2.2.1 z.2.2.2) (nodes, (s : Int), [], 0) = _ from h]
  simp only [Option.bind_some]
  unfold allPts
  rw [List.foldl_flatMap]
theorem insP_perm (out : List Point) (p : Point) : (insP out p).Perm (p :: out) := by
  unfold insP
  refine List.perm_middle.trans ?_
  rw [List.takeWhile_append_dropWhile]
theorem fold_insP_perm : ∀ (l out : List Point), (l.foldl insP out).Perm (out ++ l)
  | [], out => by simp
  | x :: r, out => by
    rw [List.foldl_cons]
    refine (fold_insP_perm r _).trans ?_
    refine ((insP_perm out x).append_right r).trans ?_
    exact List.perm_middle.symm
theorem ge_trans {x y z : Point} (h1 : ¬ ptLt y x) (h2 : ¬ ptLt z y) : ¬ ptLt z x := by unfold ptLt at *; omega
theorem insP_sorted {out : List Point} (p : Point) (h : out.Pairwise (fun a b => ¬ ptLt b a)) : (insP out p).Pairwise (fun a b => ¬ ptLt b a) := by
  induction out with
  | nil => simp [insP]
  | cons x r ih =>
    rw [List.pairwise_cons] at h
    have ih := ih h.2
    unfold insP at *
    rw [List.takeWhile_cons, List.dropWhile_cons]
    by_cases hx : ptLt x p
    · rw [dT hx]
      simp only [if_true, List.cons_append]
      rw [List.pairwise_cons]
      refine ⟨fun z hz => ?_, ih⟩
      have hz : z ∈ p :: r := (insP_perm r p).mem_iff.1 hz
      rcases List.mem_cons.1 hz with rfl | hz
      · unfold ptLt at *; omega
      · exact h.1 z hz
    · rw [dF hx]
      simp only [Bool.false_eq_true, if_false, List.nil_append]
      rw [List.pairwise_cons, List.pairwise_cons]
      refine ⟨fun z hz => ?_, h.1, h.2⟩
      rcases List.mem_cons.1 hz with rfl | hz
      · exact hx
      · exact ge_trans hx (h.1 z hz)
theorem fold_insP_sorted : ∀ (l out : List Point), out.Pairwise (fun a b => ¬ ptLt b a) → (l.foldl insP out).Pairwise (fun a b => ¬ ptLt b a)
  | [], out, h => h
  | x :: r, out, h => fold_insP_sorted r _ (insP_sorted x h)
theorem ref_points {s : Nat} {nodes : List Int} (hok : NodesOk nodes) (hs : s ≤ 32) : F25 nodes (s : Int) = some (pts s nodes) := by
  rw [ref_outer hok hs]
  congr 1
  refine sorted_unique (lt := fun x y => decide (cmp43 x y < 0)) (fun x y h1 h2 => cmp43_total x y h1 h2) _ _ ?_ ?_ (pts_le s _)
  · exact ((fold_insP_perm (allPts s nodes) []).trans (by simp)).trans (pts_perm s nodes).symm
  · refine (fold_insP_sorted (allPts s nodes) [] List.Pairwise.nil).imp fun {a b} h => ?_
    simpa [cmp43_lt] using h
end Go.Proofs.YtomijlhmjenaoaaDoor
