/- The law RingOne, plainly. -/
import Derived.Test.YtomijlhmjenaoaaDoorPRing4
namespace Go.Proofs.YtomijlhmjenaoaaDoor.PureRingOne
open Go Go.Tat
set_option linter.unusedVariables false
theorem one_ok {n : Int} (h0 : 0 ≤ n) (h1 : n ≤ 63) : NodesOk [n] := ⟨by simp, by simp; omega⟩
theorem walk_one : ∀ (l : List Int) (n : Int), (∀ x ∈ l, x = n) → l.foldl addN [n] = [n]
  | [], n, _ => rfl
  | x :: r, n, h => by
    rw [List.foldl_cons, addN, if_pos (by simp [h x])]
    exact walk_one r n fun y hy => h y (by simp [hy])
theorem pure (n spots : Int) (key : ByteArray) (hn : 0 ≤ n ∧ n ≤ 255) (hs : 0 ≤ spots ∧ spots ≤ 255) (_ : Ty.rng .str key) : F4 n spots key = some true := by
  obtain ⟨key', ek, hk⟩ := few_text key
  have em : wr .i64 (Int.tmod n 64) = n % 64 := by rw [Int.tmod_eq_emod_of_nonneg hn.1, wr_i64 (by omega) (by omega)]
  obtain ⟨s, es⟩ : ∃ s : Nat, (s : Int) = 1 + spots % 32 := ⟨(1 + spots % 32).toNat, by omega⟩
  have esp : wr .i64 (1 + wr .i64 (Int.tmod spots 32)) = (s : Int) := by
    rw [Int.tmod_eq_emod_of_nonneg hs.1, wr_i64 (x := spots % 32) (by omega) (by omega), wr_i64 (by omega) (by omega), es]
  have hm0 : 0 ≤ n % 64 := by omega
  have hm1 : n % 64 ≤ 63 := by omega
  generalize n % 64 = m at *
  have hok := one_ok hm0 hm1
  have hp := pts_ok (s := s) (by omega) hok
  have hlen : (pts s [m]).length = s := by rw [(pts_perm s [m]).length_eq, allPts_length]; simp
  have hne : pts s [m] ≠ [] := by intro e; rw [e] at hlen; simp at hlen; omega
  have hnode : ∀ x ∈ pts s [m], x.2.1 = m := by
    intro x hx
    obtain ⟨a, ha, hb⟩ := mem_allPts.1 ((pts_perm s [m]).mem_iff.1 hx)
    obtain ⟨i, _, rfl⟩ := mem_ptsOf.1 hb
    simpa using ha
  obtain ⟨x, r, et, eo⟩ := owner_eq key' (by omega) hp hne
  have hmem : ∀ y ∈ x :: r, y.2.1 = m := by
    intro y hy
    rw [← et] at hy
    simp only [turned, List.mem_append, List.mem_filter] at hy
    rcases hy with hy | hy
    · exact hnode y hy.1
    · exact hnode y hy.1
  have ew : walk (pts s [m]) (sum [key']) = [m] := by
    unfold walk
    rw [et, List.map_cons, List.foldl_cons, hmem x (by simp)]
    show List.foldl addN [m] _ = _
    exact walk_one _ _ (by
      intro y hy
      obtain ⟨z, hz, rfl⟩ := List.mem_map.1 hy
      exact hmem z (by simp [hz]))
  unfold F4 F4_j1
  rw [ek, em, esp]
  simp only [Option.bind_some]
  rw [points_eq (by omega) (by omega) hok]
  simp only [Option.bind_some, show ((0 : Int) != 0) = false from rfl, cond_false]
  rw [hlen, show ((s : Int) != (s : Int)) = false by simp, cond_false, eo, walk_eq key' (by omega) hp hne, ew, hmem x (by simp), points_bad (by simp) (by omega)]
  simp only [Option.bind_some]
  rw [same_eq [m] [m] (by simp), awake13, show (m == m) = true by simp]
  simp
end Go.Proofs.YtomijlhmjenaoaaDoor.PureRingOne
