/- LoadMost, plainly. -/
import Derived.Test.YtomijlhmjenaoaaDoorTatF
import Derived.KernelRfl
namespace Go.Proofs.YtomijlhmjenaoaaDoor.PureLoadMost
open Go Go.Tat
set_option linter.unusedVariables false
theorem awake14 : F22 = some true := by kernel_rfl
/-- A bound. -/
theorem bound_eq {t n : Int} (h0 : 0 ≤ t) (h1 : t ≤ 100) (h2 : 1 ≤ n) (h3 : n ≤ 64) : F24 t n = some ((5 * t + 4 * n - 1) / (4 * n), 0) := by
  have e1 : wr .i64 (4 * n) = 4 * n := wr_i64 (by omega) (by omega)
  have e2 : wr .i64 (5 * t) = 5 * t := wr_i64 (by omega) (by omega)
  have e3 : wr .i64 (5 * t + 4 * n) = 5 * t + 4 * n := wr_i64 (by omega) (by omega)
  have e4 : wr .i64 (5 * t + 4 * n - 1) = 5 * t + 4 * n - 1 := wr_i64 (by omega) (by omega)
  have e5 : Int.tdiv (5 * t + 4 * n - 1) (4 * n) = (5 * t + 4 * n - 1) / (4 * n) := Int.tdiv_eq_ediv_of_nonneg (by omega)
  have e6 : 0 ≤ (5 * t + 4 * n - 1) / (4 * n) := Int.ediv_nonneg (by omega) (by omega)
  have e7 : (5 * t + 4 * n - 1) / (4 * n) ≤ 5 * t + 4 * n - 1 := Int.ediv_le_self _ (by omega)
  have e8 : wr .i64 ((5 * t + 4 * n - 1) / (4 * n)) = (5 * t + 4 * n - 1) / (4 * n) := wr_i64 (by omega) (by omega)
  have c1 : decide (t < 0) = false := decide_eq_false (by omega)
  have c2 : decide (t > 100) = false := decide_eq_false (by omega)
  have c3 : decide (n < 1) = false := decide_eq_false (by omega)
  have c4 : decide (n > 64) = false := decide_eq_false (by omega)
  have c5 : decide (4 * n = 0) = false := decide_eq_false (by omega)
  simp only [F24, c1, c2, c3, c4, cond_false, F24_j1, e1, e2, e3, e4, e5, e8, c5]
/-- What a bound is. -/
theorem bound_spec {t n : Int} (h0 : 0 ≤ t) (h2 : 1 ≤ n) : 0 ≤ (5 * t + 4 * n - 1) / (4 * n) ∧ 5 * t ≤ 4 * n * ((5 * t + 4 * n - 1) / (4 * n)) ∧ 4 * n * ((5 * t + 4 * n - 1) / (4 * n)) ≤ 5 * t + 4 * n - 1 := by
  have e1 := Int.mul_ediv_add_emod (5 * t + 4 * n - 1) (4 * n)
  have e2 := Int.emod_nonneg (5 * t + 4 * n - 1) (show 4 * n ≠ 0 by omega)
  have e3 := Int.emod_lt_of_pos (5 * t + 4 * n - 1) (show 0 < 4 * n by omega)
  exact ⟨Int.ediv_nonneg (by omega) (by omega), by omega, by omega⟩
theorem pure (t n : Int) (ht : 0 ≤ t ∧ t ≤ 255) (hn : 0 ≤ n ∧ n ≤ 255) : F8 t n = some true := by
  obtain ⟨T, hT, hT0, hT1⟩ : ∃ T, Int.tmod t 100 = T ∧ 0 ≤ T ∧ T ≤ 99 := ⟨_, rfl, by rw [Int.tmod_eq_emod_of_nonneg ht.1]; omega, by rw [Int.tmod_eq_emod_of_nonneg ht.1]; omega⟩
  obtain ⟨M, hM, hM0, hM1⟩ : ∃ M, Int.tmod n 63 = M ∧ 0 ≤ M ∧ M ≤ 62 := ⟨_, rfl, by rw [Int.tmod_eq_emod_of_nonneg hn.1]; omega, by rw [Int.tmod_eq_emod_of_nonneg hn.1]; omega⟩
  have w1 : wr .i64 T = T := wr_i64 (by omega) (by omega)
  have w2 : wr .i64 M = M := wr_i64 (by omega) (by omega)
  have w3 : wr .i64 (1 + M) = 1 + M := wr_i64 (by omega) (by omega)
  have w4 : wr .i64 (T + 1) = T + 1 := wr_i64 (by omega) (by omega)
  have w5 : wr .i64 (1 + M + 1) = 1 + M + 1 := wr_i64 (by omega) (by omega)
  have w6 : wr .i64 (4 * (1 + M)) = 4 * (1 + M) := wr_i64 (by omega) (by omega)
  have w7 : wr .i64 (5 * T) = 5 * T := wr_i64 (by omega) (by omega)
  have b1 := bound_eq hT0 (show T ≤ 100 by omega) (show 1 ≤ 1 + M by omega) (by omega)
  have b2 := bound_eq (show 0 ≤ T + 1 by omega) (by omega) (show 1 ≤ 1 + M by omega) (by omega)
  have b3 := bound_eq hT0 (show T ≤ 100 by omega) (show 1 ≤ 1 + M + 1 by omega) (by omega)
  have s1 := bound_spec hT0 (show 1 ≤ 1 + M by omega)
  have s2 := bound_spec (show 0 ≤ T + 1 by omega) (show 1 ≤ 1 + M by omega)
  have s3 := bound_spec hT0 (show 1 ≤ 1 + M + 1 by omega)
  simp only [F8, hT, hM, w1, w2, w3, w4, w5, b1, b2, b3, Option.bind_some, w6, w7, awake14]
  generalize (5 * T + 4 * (1 + M) - 1) / (4 * (1 + M)) = a at *
  generalize (5 * (T + 1) + 4 * (1 + M) - 1) / (4 * (1 + M)) = b at *
  generalize (5 * T + 4 * (1 + M + 1) - 1) / (4 * (1 + M + 1)) = c at *
  have hab : a ≤ b := by
    rcases iLtGe b a with h | h
    · have := Int.mul_le_mul_of_nonneg_left (show b + 1 ≤ a by omega) (show 0 ≤ 4 * (1 + M) by omega)
      rw [Int.mul_add] at this; omega
    · exact h
  have hca : c ≤ a := by
    rcases iLtGe a c with h | h
    · have := Int.mul_le_mul_of_nonneg_left (show a + 1 ≤ c by omega) (show 0 ≤ 4 * (1 + M + 1) by omega)
      rw [Int.mul_add, show 4 * (1 + M + 1) * a = 4 * (1 + M) * a + 4 * a by rw [← Int.add_mul]; congr 1; omega] at this; omega
    · exact h
  have haT : a ≤ 5 * T + 4 * (1 + M) - 1 := by
    have := Int.mul_le_mul_of_nonneg_right (show 1 ≤ 4 * (1 + M) by omega) s1.1
    omega
  have w8 : wr .i64 (4 * (1 + M) * a) = 4 * (1 + M) * a := wr_i64 (by omega) (by omega)
  have w9 : wr .i64 (a - 1) = a - 1 := wr_i64 (by omega) (by omega)
  have hm : 4 * (1 + M) * (a - 1) = 4 * (1 + M) * a - 4 * (1 + M) := by rw [Int.mul_sub]; omega
  have w10 : wr .i64 (4 * (1 + M) * (a - 1)) = 4 * (1 + M) * a - 4 * (1 + M) := by rw [hm]; exact wr_i64 (by omega) (by omega)
  have hpos : (0 < a) ↔ (0 < T) := by
    constructor
    · intro h
      rcases iLtGe 0 T with h2 | h2
      · exact h2
      · have := Int.mul_le_mul_of_nonneg_left (show 1 ≤ a by omega) (show 0 ≤ 4 * (1 + M) by omega); omega
    · intro h
      rcases iLtGe 0 a with h2 | h2
      · exact h2
      · have : a = 0 := by omega
        subst this; omega
  have c1 : decide (b ≥ a) = true := decide_eq_true (by omega)
  have c2 : decide (c ≤ a) = true := decide_eq_true (by omega)
  have c3 : decide (4 * (1 + M) * a ≥ 5 * T) = true := decide_eq_true (by omega)
  have c4 : (decide (a > 0) == decide (T > 0)) = true := by
    rw [beq_iff_eq]; exact decide_eq_decide.2 hpos
  simp only [w8, w9, w10, c1, c2, c3, c4, beq_self_eq_true, cond_true]
  cases hT0' : (T == 0) with
  | true => rfl
  | false =>
    have hne : T ≠ 0 := by simpa using hT0'
    have c5 : decide (4 * (1 + M) * a - 4 * (1 + M) < 5 * T) = true := decide_eq_true (by omega)
    simp only [c5, cond_true, cond_false]
end Go.Proofs.YtomijlhmjenaoaaDoor.PureLoadMost
