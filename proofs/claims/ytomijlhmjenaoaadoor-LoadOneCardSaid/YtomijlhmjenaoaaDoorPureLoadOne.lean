/- The law LoadOne, plainly. -/
import Derived.Test.YtomijlhmjenaoaaDoorPLoadRef2
namespace Go.Proofs.YtomijlhmjenaoaaDoor.PureLoadOne
open Go Go.Tat PureRingWalks PureLoadMost
set_option linter.unusedVariables false
theorem j1_true (w : Int) (a : List Int) (b : Int) (c : List ByteArray) (d : List Put) (e : Int) : F6_j1 w true a b c d e = some true := by
  unfold F6_j1; rw [cond_true, awake14]; rfl
theorem all_one {l : List Int} {n : Int} (h : ∀ x ∈ l, x = n) : l.count n = l.length := by
  induction l with
  | nil => rfl
  | cons x r ih => rw [h x (by simp), List.count_cons_self, ih fun y hy => h y (by simp [hy])]; rfl
theorem pure (q : Ask) (which : Int) (h : Ty.rng tyAsk q) (hw : 0 ≤ which ∧ which ≤ 255) : F6 q which = some true := by
  obtain ⟨b, e1, hb⟩ := light_eq q h
  unfold F6
  rw [e1]
  cases b with
  | false => simp only [Option.bind_some, Bool.not_false, cond_true]; exact j1_true _ _ _ _ _ _
  | true =>
    obtain ⟨hok, hne, hn6, hl20, ht, hs1, hs8⟩ := hb rfl
    obtain ⟨nodes, spots, l, puts, T⟩ := q
    simp only [] at *
    simp only [Option.bind_some, Bool.not_true, cond_false]
    by_cases hl0 : l = []
    · subst hl0
      rw [show ((([] : List ByteArray).length : Int) == 0) = true from rfl]; exact j1_true _ _ _ _ _ _
    · have hlpos := List.length_pos_iff.2 hl0
      rw [show ((l.length : Int) == 0) = false by rw [beq_eq_false_iff_ne]; omega]
      obtain ⟨s, hs⟩ : ∃ s : Nat, (s : Int) = spots := ⟨spots.toNat, by omega⟩
      subst hs
      have hpos := List.length_pos_iff.2 hne
      obtain ⟨t1, t2, t3⟩ := tasks_iff.1 ht
      have hm : Int.tmod (wr .i64 which) (l.length : Int) = which % l.length := by rw [wr_i64 (by omega) (by omega), Int.tmod_eq_emod_of_nonneg hw.1]
      have hm0 : 0 ≤ which % (l.length : Int) := Int.emod_nonneg _ (by omega)
      have hm1 : which % (l.length : Int) < l.length := Int.emod_lt_of_pos _ (by omega)
      obtain ⟨k, hk⟩ : ∃ k : Nat, (k : Int) = which % (l.length : Int) := ⟨(which % (l.length : Int)).toNat, by omega⟩
      have hkl : k < l.length := by omega
      obtain ⟨task, htask⟩ : ∃ t, l[k]? = some t := ⟨l[k], List.getElem?_eq_getElem hkl⟩
      have hmem := List.mem_of_getElem? htask
      have hsz : task.size ≤ 20 := name_size (t2 _ hmem)
      have ht1 : tasksB [task] = true := tasks_iff.2 ⟨by simp, by simpa using t2 _ hmem, by simp⟩
      have hput := assign_put (s := s) [task] hok (by omega) (bd [task].length nodes.length) (bd_room hpos)
      have hlen1 := hput.length
      have hwp := walk_perm (s := s) (by omega) hok (sum [task])
      unfold F6_j1
      rw [cond_false, dF (show ¬ (l.length : Int) = 0 by omega), hm, ← hk, toNat_cast, at_getD htask, dT (show (0 : Int) ≤ k by omega), dT (show (k : Int) < l.length by omega), assign_eq hok hne (by omega) (by omega) ht1]
      simp only [cond_true, cond_false, Bool.and_self, Option.bind_some]
      rw [ref_points hok (by omega)]
      simp only [Option.bind_some]
      rw [ref_walk task (by omega) (pts_ok (by omega) hok) (pts_ne (by omega) hne)]
      simp only [Option.bind_some, show ((0 : Int) != 0) = false from rfl, cond_false]
      generalize hA : assign ((bd [task].length nodes.length : Nat) : Int) (pts s nodes) [task] = a at *
      have hbd := bd_spec (t := [task].length) hpos
      have hbd1 : 1 ≤ bd [task].length nodes.length := by
        rcases Nat.eq_zero_or_pos (bd [task].length nodes.length) with h | h
        · rw [h] at hbd; simp at hbd
        · exact h
      -- the one that is put
      obtain ⟨x, rfl⟩ : ∃ x, a = [x] := by
        match a, hlen1 with
        | [x], _ => exact ⟨x, rfl⟩
      have hx1 : x.1 = task := by have := hput.tasks; simpa using this
      obtain ⟨u, v, hwu, hu⟩ := hput.first x (by simp)
      rw [hx1] at hwu
      have hu0 : u = [] := by
        cases u with
        | nil => rfl
        | cons y u =>
          have := hu y (by simp)
          have h2 : cnt [x] y = 0 := by
            rw [cnt_cons, if_neg (fun h => this.1 h.symm)]; rfl
          rw [h2] at this; omega
      subst hu0
      rw [List.nil_append] at hwu
      rw [hwu, show ((([x] : List Put).length : Int) != 1) = false from rfl, cond_false, dT (show (0 : Int) < ([x] : List Put).length by simp), dT (show (0 : Int) < (x.2 :: v).length by rw [List.length_cons]; omega), cond_true, cond_true]
      rw [show (List.getD [x] 0 ((⟨#[]⟩ : ByteArray), 0)) = x from rfl, show List.getD (x.2 :: v) 0 0 = x.2 from rfl, hx1, (ba_beq task task).2 rfl, beq_self_eq_true]
      -- all tasks on one node
      obtain ⟨n, rest, rfl⟩ := List.exists_cons_of_ne_nil hne
      have hok1 : NodesOk [n] := ⟨by simp, fun x hx => hok.2 x (by simp at hx; simp [hx])⟩
      unfold F6_j2
      rw [show (!(true && true)) = false from rfl, cond_false, dT (show (1 : Int) ≤ (n :: rest).length by rw [List.length_cons]; omega), cond_true, show List.drop 0 (List.take 1 (n :: rest)) = [n] from rfl]
      have hput2 := assign_put (s := s) l hok1 (by omega) (bd l.length [n].length) (bd_room (by simp))
      have hlen2 := hput2.length
      rw [assign_eq hok1 (by simp) (by omega) (by omega) ht]
      simp only [Option.bind_some, show ((0 : Int) != 0) = false from rfl, cond_false]
      generalize assign ((bd l.length [n].length : Nat) : Int) (pts s [n]) l = c at *
      rw [hlen2, show ((l.length : Int) != l.length) = false by simp]
      unfold F6_j3
      rw [cond_false, dT (show (0 : Int) < (n :: rest).length by rw [List.length_cons]; omega), cond_true, show List.getD (n :: rest) 0 0 = n from rfl, many_put c n (by omega)]
      simp only [Option.bind_some]
      have hall : cnt c n = l.length := by
        unfold cnt
        rw [all_one, List.length_map, hlen2]
        intro y hy
        obtain ⟨z, hz, rfl⟩ := List.mem_map.1 hy
        simpa using hput2.node (by omega) hz
      rw [hall, beq_self_eq_true, awake14]; rfl
end Go.Proofs.YtomijlhmjenaoaaDoor.PureLoadOne
