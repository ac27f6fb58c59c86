/- The law RingWalks, plainly. -/
import Derived.Test.YtomijlhmjenaoaaDoorPRing4
namespace Go.Proofs.YtomijlhmjenaoaaDoor.PureRingWalks
open Go Go.Tat
set_option linter.unusedVariables false
theorem fold_filter (p : Int → Bool) : ∀ (l acc : List Int), (l.filter p).foldl addN (acc.filter p) = (l.foldl addN acc).filter p
  | [], acc => rfl
  | x :: r, acc => by
    rw [List.foldl_cons, ← fold_filter p r]
    cases hp : p x with
    | true =>
      rw [List.filter_cons_of_pos hp, List.foldl_cons]
      congr 1
      unfold addN
      by_cases hx : x ∈ acc
      · rw [if_pos hx, if_pos (by simp [hx, hp])]
      · rw [if_neg hx, if_neg (by simp [hx])]; simp [hp]
    | false =>
      rw [List.filter_cons_of_neg (by simp [hp])]
      congr 1
      unfold addN
      by_cases hx : x ∈ acc
      · rw [if_pos hx]
      · rw [if_neg hx]; simp [hp]
theorem fold_nodup : ∀ (l acc : List Int), acc.Nodup → (l.foldl addN acc).Nodup
  | [], acc, h => h
  | x :: r, acc, h => by
    rw [List.foldl_cons]
    refine fold_nodup r _ ?_
    unfold addN
    split
    · exact h
    · rename_i hx
      rw [List.nodup_append]
      exact ⟨h, by simp, by intro a ha b hb e; simp at hb; subst hb; subst e; exact hx ha⟩
theorem fold_mem : ∀ (l acc : List Int) (y : Int), y ∈ l.foldl addN acc ↔ y ∈ acc ∨ y ∈ l
  | [], acc, y => by simp
  | x :: r, acc, y => by
    rw [List.foldl_cons, fold_mem r]
    unfold addN
    split
    · rename_i hx
      simp only [List.mem_cons]
      exact ⟨fun h => h.elim .inl (fun h => .inr (.inr h)), fun h => h.elim .inl fun h => h.elim (fun e => .inl (e ▸ hx)) .inr⟩
    · simp only [List.mem_append, List.mem_cons, List.not_mem_nil, or_false]
      exact or_assoc
theorem fold_head : ∀ (l : List Int) (x : Int) (acc : List Int), ∃ r, l.foldl addN (x :: acc) = x :: r
  | [], x, acc => ⟨_, rfl⟩
  | y :: l, x, acc => by
    rw [List.foldl_cons]
    unfold addN
    split
    · exact fold_head l x acc
    · exact fold_head l x (acc ++ [y])
theorem walk_filter (l : List Point) (t k : Int) : walk (l.filter fun x => x.2.1 != k) t = (walk l t).filter (· != k) := by
  unfold walk
  rw [← fold_filter (fun x => x != k) _ []]
  simp only [List.filter_nil, turned, List.map_append, List.filter_append, List.filter_map]
  congr 2
  · rw [List.filter_filter, List.filter_filter]
    congr 1
    apply List.filter_congr
    intro x _; simp [Bool.and_comm]
  · rw [List.filter_filter, List.filter_filter]
    congr 1
    apply List.filter_congr
    intro x _; simp [Bool.and_comm]
theorem allPts_filter (s : Nat) (k : Int) : ∀ l : List Int, allPts s (l.filter (· != k)) = (allPts s l).filter fun x => x.2.1 != k
  | [] => by simp [allPts]
  | n :: r => by
    have ih := allPts_filter s k r
    simp only [allPts, List.flatMap_cons, List.filter_append] at *
    cases h : n != k with
    | true =>
      rw [show List.filter (fun x => x != k) (n :: r) = n :: List.filter (fun x => x != k) r from List.filter_cons_of_pos h, List.flatMap_cons, ih]
      congr 1
      exact (List.filter_eq_self.2 fun x hx => by obtain ⟨i, _, rfl⟩ := mem_ptsOf.1 hx; exact h).symm
    | false =>
      rw [show List.filter (fun x => x != k) (n :: r) = List.filter (fun x => x != k) r from List.filter_cons_of_neg (by simp [h]), ih,
        show List.filter (fun x : Point => x.2.1 != k) (ptsOf s n) = [] from List.filter_eq_nil_iff.2 fun x hx => by obtain ⟨i, _, rfl⟩ := mem_ptsOf.1 hx; simp [h]]
      rfl
theorem pts_filter (s : Nat) (k : Int) (l : List Int) : pts s (l.filter (· != k)) = (pts s l).filter fun x => x.2.1 != k := by
  refine sorted_unique (lt := fun x y => decide (cmp43 x y < 0)) (fun x y h1 h2 => cmp43_total x y h1 h2) _ _ ?_ (pts_le s _) ((pts_le s l).sublist List.filter_sublist)
  refine (pts_perm s _).trans ?_
  rw [allPts_filter]
  exact ((pts_perm s l).filter _).symm
theorem NodesOk.filter {l : List Int} (p : Int → Bool) (h : NodesOk l) : NodesOk (l.filter p) := ⟨h.1.sublist List.filter_sublist, fun x hx => h.2 x (List.mem_filter.1 hx).1⟩
theorem pts_ne {s : Nat} {l : List Int} (h1 : 1 ≤ s) (hl : l ≠ []) : pts s l ≠ [] := by
  intro e
  have := (pts_perm s l).length_eq
  rw [e, allPts_length] at this
  have := List.length_pos_iff.2 hl
  have : 0 < s * l.length := Nat.mul_pos h1 this
  simp at *; omega
theorem walk_mem {s : Nat} {l : List Int} (h1 : 1 ≤ s) (t y : Int) : y ∈ walk (pts s l) t ↔ y ∈ l := by
  unfold walk
  rw [fold_mem]
  simp only [List.not_mem_nil, false_or, turned, List.mem_map, List.mem_append, List.mem_filter, decide_eq_true_eq]
  constructor
  · rintro ⟨x, hx, rfl⟩
    have hx : x ∈ pts s l := by rcases hx with h | h <;> exact h.1
    obtain ⟨n, hn, hb⟩ := mem_allPts.1 ((pts_perm s l).mem_iff.1 hx)
    obtain ⟨i, _, rfl⟩ := mem_ptsOf.1 hb
    exact hn
  · intro hy
    have hx : (hash y (0 : Nat), y, ((0 : Nat) : Int)) ∈ pts s l := (pts_perm s l).mem_iff.2 (mem_allPts.2 ⟨y, hy, mem_ptsOf.2 ⟨0, h1, rfl⟩⟩)
    refine ⟨(hash y (0 : Nat), y, ((0 : Nat) : Int)), ?_, rfl⟩
    by_cases h : t ≤ hash y (0 : Nat)
    · exact .inl ⟨hx, h⟩
    · exact .inr ⟨hx, by simp only []; omega⟩
theorem walk_nodup (l : List Point) (t : Int) : (walk l t).Nodup := fold_nodup _ _ List.nodup_nil
theorem nodup_perm {a b : List Int} (ha : a.Nodup) (hb : b.Nodup) (h : ∀ y, y ∈ a ↔ y ∈ b) : a.Perm b := by
  rw [List.perm_iff_count]
  intro y
  by_cases hy : y ∈ a
  · rw [count_one ha hy, count_one hb ((h y).1 hy)]
  · rw [List.count_eq_zero.2 hy, List.count_eq_zero.2 fun h' => hy ((h y).2 h')]
theorem foldl_both (k : Int) : ∀ (z : List (Int × Int)) (a b : List Int), z.foldl (fun (a : List Int × List Int) x => (if x.2 != k then a.1 ++ [x.2] else a.1, if x.1 != k then a.2 ++ [x.1] else a.2)) (a, b) = (a ++ (z.map (·.2)).filter (· != k), b ++ (z.map (·.1)).filter (· != k))
  | [], a, b => by simp
  | x :: r, a, b => by
    rw [List.foldl_cons, foldl_both k r]
    simp only [List.map_cons, List.filter_cons]
    cases x.2 != k <;> cases x.1 != k <;> simp
theorem loop_eq {nodes w : List Int} (key : ByteArray) (many k : Int) (hl : w.length = nodes.length) (hw : w.length ≤ 1000000) (hc : ∀ x ∈ nodes, w.count x = 1) :
    F3_l3 nodes key many k 0 w [] [] = some (.inr (key, many, w.filter (· != k), nodes.filter (· != k))) := by
  have h := loopN_list (step := fun s : List Int × ByteArray × Int × Int × Int × List Int × List Int × List Int => F3_s3 s.1 s.2.1 s.2.2.1 s.2.2.2.1 s.2.2.2.2.1 s.2.2.2.2.2.1 s.2.2.2.2.2.2.1 s.2.2.2.2.2.2.2)
    (l := nodes.zip w) (fun i (a : List Int × List Int) => (nodes, key, many, k, (i : Int), w, a.1, a.2))
    (fun _ x a => .inl (if x.2 != k then a.1 ++ [x.2] else a.1, if x.1 != k then a.2 ++ [x.1] else a.2)) (fun a => (.inr (key, many, a.1, a.2) : Bool ⊕ (ByteArray × Int × List Int × List Int))) (fun i a => a.1.length ≤ i ∧ a.2.length ≤ i) (by simp; omega)
    (fun i a x hx hi => by
      have hlt := at_lt hx
      simp at hlt
      obtain ⟨hx1, hx2⟩ := List.getElem?_zip_eq_some.1 hx
      have hcount := hc x.1 (List.mem_of_getElem? hx1)
      simp only [F3_s3, F3_j4, toNat_cast, at_getD hx1, at_getD hx2, many_eq w x.1 (by omega), hcount]
      rw [dT (show (i : Int) < nodes.length by omega), dT (show (i : Int) < w.length by omega), dT (show (0 : Int) ≤ i by omega), wr_succ (by omega), dT (show (a.1.length + 1) * 8 ≤ 140737488355328 by omega), dT (show (a.2.length + 1) * 8 ≤ 140737488355328 by omega)]
      simp only [cond_true, Bool.and_self, Option.bind_some, show (((1 : Nat) : Int) != 1) = false from rfl, cond_false]
      cases x.2 != k <;> cases x.1 != k <;> rfl)
    (fun i x a a' hx hi hf => by
      simp only [Sum.inl.injEq] at hf
      subst hf
      constructor
      · simp only []; split
        · simp only [List.length_append, List.length_cons, List.length_nil]; omega
        · omega
      · simp only []; split
        · simp only [List.length_append, List.length_cons, List.length_nil]; omega
        · omega)
    (fun a hi => by
      simp only [F3_s3, List.length_zip]
      rw [dF (by omega), cond_false]) ([], []) (by simp)
  rw [foldE_foldl, foldl_both] at h
  unfold F3_l3
  refine Eq.trans h ?_
  rw [List.map_snd_zip (by omega), List.map_fst_zip (by omega)]
  rfl
theorem j2_eq {nodes : List Int} {key : ByteArray} {s : Nat} {gone : Int} (hg : 0 ≤ gone ∧ gone ≤ 255) (h1 : 1 ≤ s) (h2 : s ≤ 32) (hok : NodesOk nodes) (hne : nodes ≠ []) (hk : key.size ≤ 300) :
    F3_j2 nodes gone key s false (walk (pts s nodes) (sum [key])) = some true := by
  have hlen := hok.length
  have hpos := List.length_pos_iff.2 hne
  have hperm : (walk (pts s nodes) (sum [key])).Perm nodes := nodup_perm (walk_nodup _ _) hok.nodup fun y => walk_mem h1 _ y
  have e1 : Int.tmod (wr .i64 gone) (nodes.length : Int) = gone % nodes.length := by rw [wr_i64 (by omega) (by omega), Int.tmod_eq_emod_of_nonneg hg.1]
  have h3 : 0 ≤ gone % (nodes.length : Int) := Int.emod_nonneg _ (by omega)
  have h4 : gone % (nodes.length : Int) < nodes.length := Int.emod_lt_of_pos _ (by omega)
  unfold F3_j2
  rw [cond_false, dF (show ¬ (nodes.length : Int) = 0 by omega), e1, dT h3, dT h4]
  simp only [cond_true, cond_false, Bool.and_self]
  generalize List.getD nodes (gone % (nodes.length : Int)).toNat 0 = k
  rw [loop_eq key s k hperm.length_eq (by rw [hperm.length_eq]; omega) (fun x hx => count_one (walk_nodup _ _) (hperm.mem_iff.2 hx))]
  simp only [Option.bind_some, Sum.elim_inr]
  by_cases he : nodes.filter (· != k) = []
  · rw [he, awake13]; rfl
  · have hokf := NodesOk.filter (· != k) hok
    rw [show (((nodes.filter (· != k)).length : Int) == 0) = false by
      have := List.length_pos_iff.2 he
      simp only [beq_eq_false_iff_ne, ne_eq]; omega, cond_false, points_eq h1 h2 hokf]
    simp only [Option.bind_some]
    rw [walk_eq key (by omega) (pts_ok h2 hokf) (pts_ne h1 he)]
    simp only [Option.bind_some]
    rw [show ((0 : Int) == 0) = true from rfl, pts_filter, walk_filter, same_eq _ _ (by
      have h5 := List.length_filter_le (· != k) (walk (pts s nodes) (sum [key]))
      rw [hperm.length_eq] at h5
      omega), awake13]
    simp
theorem j1_true (nodes : List Int) (a b : Int) (key : ByteArray) : F3_j1 nodes a b key true = some true := by
  unfold F3_j1; rw [awake13]; rfl
theorem j1_eq {nodes : List Int} {key : ByteArray} {spots gone : Int} (hs : 0 ≤ spots ∧ spots ≤ 255) (hg : 0 ≤ gone ∧ gone ≤ 255) (hok : NodesOk nodes) (hne : nodes ≠ []) (hk : key.size ≤ 300) :
    F3_j1 nodes spots gone key false = some true := by
  obtain ⟨s, es⟩ : ∃ s : Nat, (s : Int) = 1 + spots % 8 := ⟨(1 + spots % 8).toNat, by omega⟩
  have esp : wr .i64 (1 + wr .i64 (Int.tmod spots 8)) = (s : Int) := by
    rw [Int.tmod_eq_emod_of_nonneg hs.1, wr_i64 (x := spots % 8) (by omega) (by omega), wr_i64 (by omega) (by omega), es]
  have h1 : 1 ≤ s := by omega
  have h2 : s ≤ 32 := by omega
  have hp := pts_ok h2 hok
  have hpn := pts_ne h1 hne
  have hperm : (walk (pts s nodes) (sum [key])).Perm nodes := nodup_perm (walk_nodup _ _) hok.nodup fun y => walk_mem h1 _ y
  have hpos := List.length_pos_iff.2 hne
  obtain ⟨x, r, et, eo⟩ := owner_eq key (by omega) hp hpn
  unfold F3_j1
  rw [esp, cond_false, points_eq h1 h2 hok]
  simp only [Option.bind_some]
  rw [walk_eq key (by omega) hp hpn, eo]
  simp only [Option.bind_some, show ((0 : Int) != 0) = false from rfl, cond_false]
  rw [hperm.length_eq, show ((nodes.length : Int) != nodes.length) = false by simp, cond_false, dT (by omega), cond_true]
  have eh : List.getD (walk (pts s nodes) (sum [key])) 0 0 = x.2.1 := by
    unfold walk
    rw [et, List.map_cons, List.foldl_cons]
    obtain ⟨q, hq⟩ := fold_head (r.map (·.2.1)) x.2.1 []
    rw [show addN [] x.2.1 = [x.2.1] from rfl, hq]; rfl
  rw [eh, show (x.2.1 != x.2.1) = false by simp]
  exact j2_eq hg h1 h2 hok hne hk
theorem pure (q : Gone) (h : Ty.rng tyGone q) : F3 q = some true := by
  have hs : 0 ≤ q.2.1 ∧ q.2.1 ≤ 255 := h.2.1
  have hg : 0 ≤ q.2.2.1 ∧ q.2.2.1 ≤ 255 := h.2.2.1
  obtain ⟨l, el, hl⟩ := few_nodes q.1
  obtain ⟨key, ek, hk⟩ := few_text q.2.2.2
  unfold F3
  rw [el, ek]
  simp only [Option.bind_some]
  by_cases h1 : (l.length : Int) < 1
  · rw [dT h1, cond_true, j1_true]
  · rw [dF h1, cond_false]
    by_cases h2 : (l.length : Int) > 8
    · rw [dT h2, cond_true, j1_true]
    · rw [dF h2, cond_false, ref_nodes l (by omega)]
      simp only [Option.bind_some]
      by_cases hok : NodesOk l
      · rw [@decide_eq_true _ (_) hok]
        exact j1_eq hs hg hok (by intro e; rw [e] at h1; simp at h1) hk
      · rw [@decide_eq_false _ (_) hok]
        exact j1_true _ _ _ _
end Go.Proofs.YtomijlhmjenaoaaDoor.PureRingWalks
