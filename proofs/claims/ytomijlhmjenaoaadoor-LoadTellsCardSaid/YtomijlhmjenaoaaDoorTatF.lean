/- What the program's functions come to, as functions of plain data. Printed by a program of ours (gen2.py). -/
import Derived.Test.YtomijlhmjenaoaaDoorTatC
namespace Go.Proofs.YtomijlhmjenaoaaDoor
open Go Go.Tat
set_option linter.unusedVariables false
abbrev BoundsError : Type := (Int × Int × Bool × Int)
abbrev tyBoundsError : Ty := (.box (.prod (.int .i64) (.prod (.int .i64) (.prod .bool (.int .u8)))))
abbrev ErrorAddressString : Type := (ByteArray × Int)
abbrev tyErrorAddressString : Ty := (.box (.prod .str (.int .u64)))
abbrev Gone : Type := ((List Int) × Int × Int × ByteArray)
abbrev tyGone : Ty := (.box (.prod (.slice (.int .i64)) (.prod (.int .u8) (.prod (.int .u8) .str))))
abbrev Put : Type := (ByteArray × Int)
abbrev tyPut : Ty := (.box (.prod .str (.int .i64)))
abbrev Ask : Type := ((List Int) × Int × (List ByteArray) × (List Put) × Int)
abbrev tyAsk : Ty := (.box (.prod (.slice (.int .i64)) (.prod (.int .i64) (.prod (.slice .str) (.prod (.slice tyPut) (.int .i64))))))
abbrev Point : Type := (Int × Int × Int)
abbrev tyPoint : Ty := (.box (.prod (.int .u64) (.prod (.int .i64) (.int .i64))))
-- tattle/tattlelaw08.Few
def F12 (l : (List Int)) : Option (List Int) :=
  cond (decide (((List.length l) : Int) > 65))
  (cond (decide (65 ≤ ((List.length l) : Int)))
    (some (List.drop 0 (List.take 65 l)))
    none)
  (some l)

-- tattle/tattlelaw12.Few
def F13 (s : ByteArray) : Option ByteArray :=
  cond (decide (((ByteArray.size s) : Int) > 300))
  (cond (decide (300 ≤ ((ByteArray.size s) : Int)))
    (some (ByteArray.extract s 0 300))
    none)
  (some s)

-- tattle/turn.distinct
def F54_s1 (t6 : (List Int)) (t7 : Int) (t8 : Int) (met : (List Bool)) : Option (((List Int) × Int × Int × (List Bool)) ⊕ (Bool ⊕ Unit)) :=
  cond (decide (t8 < t7))
  (cond ((decide (0 ≤ t8)) && (decide (t8 < ((List.length t6) : Int))))
    (cond (decide ((List.getD t6 (Int.toNat t8) 0) < 0))
      (some (.inr (.inl false)))
      (cond (decide ((List.getD t6 (Int.toNat t8) 0) ≥ 64))
        (some (.inr (.inl false)))
        (cond ((decide (0 ≤ (List.getD t6 (Int.toNat t8) 0))) && (decide ((List.getD t6 (Int.toNat t8) 0) < ((List.length met) : Int))))
          (cond (List.getD met (Int.toNat (List.getD t6 (Int.toNat t8) 0)) false)
            (some (.inr (.inl false)))
            (cond ((decide (0 ≤ (List.getD t6 (Int.toNat t8) 0))) && (decide ((List.getD t6 (Int.toNat t8) 0) < ((List.length met) : Int))))
              (some (.inl (t6, t7, wr .i64 (t8 + 1), List.set met (Int.toNat (List.getD t6 (Int.toNat t8) 0)) true)))
              none))
          none)))
    none)
  (some (.inr (.inr ())))
def F54_l1 (t6 : (List Int)) (t7 : Int) (t8 : Int) (met : (List Bool)) : Option (Bool ⊕ Unit) :=
  loopN (S := ((List Int) × Int × Int × (List Bool))) (O := (Bool ⊕ Unit)) (fun s => F54_s1 s.1 s.2.1 s.2.2.1 s.2.2.2) (t6, t7, t8, met)
def F54 (l : (List Int)) : Option Bool :=
  (F54_l1 l ((List.length l) : Int) 0 (List.replicate 64 false)).bind
  (Sum.elim (fun q3 =>
    some q3)
  (fun q4 =>
    some true))

-- cmp.isNaN[int]
def F81 (xv : Int) : Option Bool :=
  some (xv != xv)

-- cmp.Less[int]
def F68 (xv : Int) (y : Int) : Option Bool :=
  (F81 xv).bind fun q4 =>
  cond q4
  ((F81 y).bind fun q5 =>
    cond (!q5)
    (some true)
    (some (decide (xv < y))))
  (some (decide (xv < y)))

-- slices.IsSorted[[]int,int]
def F55_s1 (xv : (List Int)) (i : Int) : Option (((List Int) × Int) ⊕ (Bool ⊕ Unit)) :=
  cond (decide (i > 0))
  (cond ((decide (0 ≤ i)) && (decide (i < ((List.length xv) : Int))))
    (cond ((decide (0 ≤ (wr .i64 (i - 1)))) && (decide ((wr .i64 (i - 1)) < ((List.length xv) : Int))))
      ((F68 (List.getD xv (Int.toNat i) 0) (List.getD xv (Int.toNat (wr .i64 (i - 1))) 0)).bind fun q4 =>
        cond q4
        (some (.inr (.inl false)))
        (some (.inl (xv, wr .i64 (i - 1)))))
      none)
    none)
  (some (.inr (.inr ())))
def F55_l1 (xv : (List Int)) (i : Int) : Option (Bool ⊕ Unit) :=
  loopN (S := ((List Int) × Int)) (O := (Bool ⊕ Unit)) (fun s => F55_s1 s.1 s.2) (xv, i)
def F55 (xv : (List Int)) : Option Bool :=
  (F55_l1 xv (wr .i64 (((List.length xv) : Int) - 1))).bind
  (Sum.elim (fun q5 =>
    some q5)
  (fun q6 =>
    some true))

-- tattle/turn.Nodes
def F39 (l : (List Int)) : Option Int :=
  (F54 l).bind fun q3 =>
  cond (!q3)
  (some 1)
  ((F55 l).bind fun q4 =>
    cond (!q4)
    (some 1)
    (some 0))

-- internal/strconv.small
def F82 (i : Int) : Option ByteArray :=
  cond (decide (i < 10))
  (cond ((decide (0 ≤ i)) && ((decide (i ≤ (wr .i64 (i + 1)))) && (decide ((wr .i64 (i + 1)) ≤ 36))))
    (some (ByteArray.extract (⟨#[48, 49, 50, 51, 52, 53, 54, 55, 56, 57, 97, 98, 99, 100, 101, 102, 103, 104, 105, 106, 107, 108, 109, 110, 111, 112, 113, 114, 115, 116, 117, 118, 119, 120, 121, 122]⟩ : ByteArray) (Int.toNat i) (Int.toNat (wr .i64 (i + 1)))))
    none)
  (cond ((decide (0 ≤ (wr .i64 (i * 2)))) && ((decide ((wr .i64 (i * 2)) ≤ (wr .i64 ((wr .i64 (i * 2)) + 2)))) && (decide ((wr .i64 ((wr .i64 (i * 2)) + 2)) ≤ 200))))
    (some (ByteArray.extract (⟨#[48, 48, 48, 49, 48, 50, 48, 51, 48, 52, 48, 53, 48, 54, 48, 55, 48, 56, 48, 57, 49, 48, 49, 49, 49, 50, 49, 51, 49, 52, 49, 53, 49, 54, 49, 55, 49, 56, 49, 57, 50, 48, 50, 49, 50, 50, 50, 51, 50, 52, 50, 53, 50, 54, 50, 55, 50, 56, 50, 57, 51, 48, 51, 49, 51, 50, 51, 51, 51, 52, 51, 53, 51, 54, 51, 55, 51, 56, 51, 57, 52, 48, 52, 49, 52, 50, 52, 51, 52, 52, 52, 53, 52, 54, 52, 55, 52, 56, 52, 57, 53, 48, 53, 49, 53, 50, 53, 51, 53, 52, 53, 53, 53, 54, 53, 55, 53, 56, 53, 57, 54, 48, 54, 49, 54, 50, 54, 51, 54, 52, 54, 53, 54, 54, 54, 55, 54, 56, 54, 57, 55, 48, 55, 49, 55, 50, 55, 51, 55, 52, 55, 53, 55, 54, 55, 55, 55, 56, 55, 57, 56, 48, 56, 49, 56, 50, 56, 51, 56, 52, 56, 53, 56, 54, 56, 55, 56, 56, 56, 57, 57, 48, 57, 49, 57, 50, 57, 51, 57, 52, 57, 53, 57, 54, 57, 55, 57, 56, 57, 57]⟩ : ByteArray) (Int.toNat (wr .i64 (i * 2))) (Int.toNat (wr .i64 ((wr .i64 (i * 2)) + 2)))))
    none)

-- math/bits.Len64
def F79_j2 (xv : Int) (n : Int) : Option Int :=
  cond (decide (xv ≥ 256))
  (cond ((decide (0 ≤ (wr .u8 (Int.fdiv xv (pow2 8))))) && (decide ((wr .u8 (Int.fdiv xv (pow2 8))) < 256)))
    (some (wr .i64 ((wr .i64 (n + 8)) + (wr .i64 (bt (⟨#[0, 1, 2, 2, 3, 3, 3, 3, 4, 4, 4, 4, 4, 4, 4, 4, 5, 5, 5, 5, 5, 5, 5, 5, 5, 5, 5, 5, 5, 5, 5, 5, 6, 6, 6, 6, 6, 6, 6, 6, 6, 6, 6, 6, 6, 6, 6, 6, 6, 6, 6, 6, 6, 6, 6, 6, 6, 6, 6, 6, 6, 6, 6, 6, 7, 7, 7, 7, 7, 7, 7, 7, 7, 7, 7, 7, 7, 7, 7, 7, 7, 7, 7, 7, 7, 7, 7, 7, 7, 7, 7, 7, 7, 7, 7, 7, 7, 7, 7, 7, 7, 7, 7, 7, 7, 7, 7, 7, 7, 7, 7, 7, 7, 7, 7, 7, 7, 7, 7, 7, 7, 7, 7, 7, 7, 7, 7, 7, 8, 8, 8, 8, 8, 8, 8, 8, 8, 8, 8, 8, 8, 8, 8, 8, 8, 8, 8, 8, 8, 8, 8, 8, 8, 8, 8, 8, 8, 8, 8, 8, 8, 8, 8, 8, 8, 8, 8, 8, 8, 8, 8, 8, 8, 8, 8, 8, 8, 8, 8, 8, 8, 8, 8, 8, 8, 8, 8, 8, 8, 8, 8, 8, 8, 8, 8, 8, 8, 8, 8, 8, 8, 8, 8, 8, 8, 8, 8, 8, 8, 8, 8, 8, 8, 8, 8, 8, 8, 8, 8, 8, 8, 8, 8, 8, 8, 8, 8, 8, 8, 8, 8, 8, 8, 8, 8, 8, 8, 8, 8, 8, 8, 8, 8, 8, 8, 8, 8, 8, 8, 8, 8, 8, 8, 8, 8, 8]⟩ : ByteArray) (wr .u8 (Int.fdiv xv (pow2 8))))))))
    none)
  (cond ((decide (0 ≤ (wr .u8 xv))) && (decide ((wr .u8 xv) < 256)))
    (some (wr .i64 (n + (wr .i64 (bt (⟨#[0, 1, 2, 2, 3, 3, 3, 3, 4, 4, 4, 4, 4, 4, 4, 4, 5, 5, 5, 5, 5, 5, 5, 5, 5, 5, 5, 5, 5, 5, 5, 5, 6, 6, 6, 6, 6, 6, 6, 6, 6, 6, 6, 6, 6, 6, 6, 6, 6, 6, 6, 6, 6, 6, 6, 6, 6, 6, 6, 6, 6, 6, 6, 6, 7, 7, 7, 7, 7, 7, 7, 7, 7, 7, 7, 7, 7, 7, 7, 7, 7, 7, 7, 7, 7, 7, 7, 7, 7, 7, 7, 7, 7, 7, 7, 7, 7, 7, 7, 7, 7, 7, 7, 7, 7, 7, 7, 7, 7, 7, 7, 7, 7, 7, 7, 7, 7, 7, 7, 7, 7, 7, 7, 7, 7, 7, 7, 7, 8, 8, 8, 8, 8, 8, 8, 8, 8, 8, 8, 8, 8, 8, 8, 8, 8, 8, 8, 8, 8, 8, 8, 8, 8, 8, 8, 8, 8, 8, 8, 8, 8, 8, 8, 8, 8, 8, 8, 8, 8, 8, 8, 8, 8, 8, 8, 8, 8, 8, 8, 8, 8, 8, 8, 8, 8, 8, 8, 8, 8, 8, 8, 8, 8, 8, 8, 8, 8, 8, 8, 8, 8, 8, 8, 8, 8, 8, 8, 8, 8, 8, 8, 8, 8, 8, 8, 8, 8, 8, 8, 8, 8, 8, 8, 8, 8, 8, 8, 8, 8, 8, 8, 8, 8, 8, 8, 8, 8, 8, 8, 8, 8, 8, 8, 8, 8, 8, 8, 8, 8, 8, 8, 8, 8, 8, 8, 8]⟩ : ByteArray) (wr .u8 xv))))))
    none)
def F79_j1 (xv : Int) (n : Int) : Option Int :=
  cond (decide (xv ≥ 65536))
  (F79_j2 (Int.fdiv xv (pow2 16)) (wr .i64 (n + 16)))
  (F79_j2 xv n)
def F79 (xv : Int) : Option Int :=
  cond (decide (xv ≥ 4294967296))
  (F79_j1 (Int.fdiv xv (pow2 32)) 32)
  (F79_j1 xv 0)

-- internal/strconv.log10Pow2
def F91 (xv : Int) : Option Int :=
  some (Int.fdiv (wr .i64 (xv * 78913)) (pow2 18))

-- internal/strconv.isPowerOfTwo
def F93 (xv : Int) : Option Bool :=
  some ((bAnd .i64 xv (wr .i64 (xv - 1))) == 0)

-- math/bits.TrailingZeros64
def F97 (xv : Int) : Option Int :=
  cond (xv == 0)
  (some 64)
  none

-- math/bits.TrailingZeros
def F94 (xv : Int) : Option Int :=
  (F97 xv).bind fun q11 =>
  some q11

-- internal/strconv.FormatInt
def F69_j2 (i : Int) (u : Int) (a : (List Int)) : Option ByteArray :=
  none
def F69_j1 (i : Int) (t17 : Bool) : Option ByteArray :=
  cond t17
  ((F82 i).bind fun q9 =>
    some q9)
  (cond (decide (i < 0))
    (F69_j2 i (wr .u64 (0 - (wr .u64 i))) (List.replicate 24 0))
    (F69_j2 i (wr .u64 i) (List.replicate 24 0)))
def F69 (i : Int) (base : Int) : Option ByteArray :=
  cond (base == 10)
  (cond (decide (0 ≤ i))
    (F69_j1 i (decide (i < 100)))
    (F69_j1 i false))
  none

-- internal/strconv.Itoa
def F57 (i : Int) : Option ByteArray :=
  (F69 i 10).bind fun q5 =>
  some q5

-- strconv.Itoa
def F41 (i : Int) : Option ByteArray :=
  (F57 i).bind fun q5 =>
  some q5

-- tattle/fnv.On
def F56_s1 (h : Int) (s : ByteArray) (t7 : Int) (t8 : Int) : Option ((Int × ByteArray × Int × Int) ⊕ Int) :=
  cond (decide (t8 < t7))
  (cond ((decide (0 ≤ t8)) && (decide (t8 < ((ByteArray.size s) : Int))))
    (some (.inl (wr .u64 ((bXor .u64 h (wr .u64 (bt s t8))) * 1099511628211), s, t7, wr .i64 (t8 + 1))))
    none)
  (some (.inr h))
def F56_l1 (h : Int) (s : ByteArray) (t7 : Int) (t8 : Int) : Option Int :=
  loopN (S := (Int × ByteArray × Int × Int)) (O := Int) (fun s => F56_s1 s.1 s.2.1 s.2.2.1 s.2.2.2) (h, s, t7, t8)
def F56 (h : Int) (s : ByteArray) : Option Int :=
  (F56_l1 h s ((ByteArray.size s) : Int) 0).bind fun q7 =>
  some q7

-- tattle/fnv.Sum
def F40_s1 (h : Int) (t6 : (List ByteArray)) (t7 : Int) (t8 : Int) : Option ((Int × (List ByteArray) × Int × Int) ⊕ Int) :=
  cond (decide (t8 < t7))
  (cond ((decide (0 ≤ t8)) && (decide (t8 < ((List.length t6) : Int))))
    ((F56 h (List.getD t6 (Int.toNat t8) (⟨#[]⟩ : ByteArray))).bind fun q7 =>
      some (.inl (q7, t6, t7, wr .i64 (t8 + 1))))
    none)
  (some (.inr h))
def F40_l1 (h : Int) (t6 : (List ByteArray)) (t7 : Int) (t8 : Int) : Option Int :=
  loopN (S := (Int × (List ByteArray) × Int × Int)) (O := Int) (fun s => F40_s1 s.1 s.2.1 s.2.2.1 s.2.2.2) (h, t6, t7, t8)
def F40 (l : (List ByteArray)) : Option Int :=
  (F40_l1 14695981039346656037 l ((List.length l) : Int) 0).bind fun q8 =>
  some q8

-- cmp.isNaN[uint64]
def F80 (xv : Int) : Option Bool :=
  some (xv != xv)

-- cmp.Compare[uint64]
def F61 (xv : Int) (y : Int) : Option Int :=
  (F80 xv).bind fun q15 =>
  (F80 y).bind fun q16 =>
  cond q15
  (cond q16
    (some 0)
    (some (-1)))
  (cond q16
    (some 1)
    (cond (decide (xv < y))
      (some (-1))
      (cond (decide (xv > y))
        (some 1)
        (some 0))))

-- cmp.Compare[int]
def F62 (xv : Int) (y : Int) : Option Int :=
  (F81 xv).bind fun q16 =>
  (F81 y).bind fun q17 =>
  cond q16
  (cond q17
    (some 0)
    (some (-1)))
  (cond q17
    (some 1)
    (cond (decide (xv < y))
      (some (-1))
      (cond (decide (xv > y))
        (some 1)
        (some 0))))

-- cmp.Or[int]
def F60_s1 (zero : Int) (t6 : (List Int)) (t7 : Int) (t8 : Int) : Option ((Int × (List Int) × Int × Int) ⊕ (Int ⊕ Int)) :=
  cond (decide (t8 < t7))
  (cond ((decide (0 ≤ t8)) && (decide (t8 < ((List.length t6) : Int))))
    (cond ((List.getD t6 (Int.toNat t8) 0) != zero)
      (some (.inr (.inl (List.getD t6 (Int.toNat t8) 0))))
      (some (.inl (zero, t6, t7, wr .i64 (t8 + 1)))))
    none)
  (some (.inr (.inr zero)))
def F60_l1 (zero : Int) (t6 : (List Int)) (t7 : Int) (t8 : Int) : Option (Int ⊕ Int) :=
  loopN (S := (Int × (List Int) × Int × Int)) (O := (Int ⊕ Int)) (fun s => F60_s1 s.1 s.2.1 s.2.2.1 s.2.2.2) (zero, t6, t7, t8)
def F60 (vals : (List Int)) : Option Int :=
  (F60_l1 0 vals ((List.length vals) : Int) 0).bind
  (Sum.elim (fun q18 =>
    some q18)
  (fun q19 =>
    some q19))

-- tattle/ring.compare
def F43 (a : Point) (b : Point) : Option Int :=
  (F61 a.1 b.1).bind fun q15 =>
  (F62 a.2.1 b.2.1).bind fun q16 =>
  (F62 a.2.2 b.2.2).bind fun q17 =>
  (F60 [q15, q16, q17]).bind fun q18 =>
  some q18

-- slices.SortFunc[[]tattle/api.Point,tattle/api.Point]
def cmp43 (x y : Point) : Int := (F43 x y).getD 0
def F42 (l : List Point) : Option (List Point) :=
  cond (Nat.blt (List.length l) 4611686018427387904) (some (sortBy (fun x y => decide (cmp43 x y < 0)) l)) none

-- tattle/ring.Points
def F16_s3 (spots : Int) (n : Int) (t21 : (List Int)) (t22 : Int) (t23 : Int) (t27 : Int) (t28 : Int) (out : (List Point)) : Option ((Int × Int × (List Int) × Int × Int × Int × Int × (List Point)) ⊕ (Int × (List Int) × Int × Int × (List Point))) :=
  cond (decide (t28 < t27))
  ((F41 n).bind fun q17 =>
    (F41 t28).bind fun q18 =>
    (F40 [q17, (⟨#[47]⟩ : ByteArray), q18]).bind fun q19 =>
    cond (decide ((((List.length out) + 1) * 24) ≤ 140737488355328))
    (some (.inl (spots, n, t21, t22, t23, t27, wr .i64 (t28 + 1), out ++ [(q19, n, t28)])))
    none)
  (some (.inr (spots, t21, t22, t23, out)))
def F16_l3 (spots : Int) (n : Int) (t21 : (List Int)) (t22 : Int) (t23 : Int) (t27 : Int) (t28 : Int) (out : (List Point)) : Option (Int × (List Int) × Int × Int × (List Point)) :=
  loopN (S := (Int × Int × (List Int) × Int × Int × Int × Int × (List Point))) (O := (Int × (List Int) × Int × Int × (List Point))) (fun s => F16_s3 s.1 s.2.1 s.2.2.1 s.2.2.2.1 s.2.2.2.2.1 s.2.2.2.2.2.1 s.2.2.2.2.2.2.1 s.2.2.2.2.2.2.2) (spots, n, t21, t22, t23, t27, t28, out)
def F16_s2 (spots : Int) (t21 : (List Int)) (t22 : Int) (t23 : Int) (out : (List Point)) : Option ((Int × (List Int) × Int × Int × (List Point)) ⊕ (List Point)) :=
  cond (decide (t23 < t22))
  (cond ((decide (0 ≤ t23)) && (decide (t23 < ((List.length t21) : Int))))
    ((F16_l3 spots (List.getD t21 (Int.toNat t23) 0) t21 t22 t23 spots 0 out).bind fun q20 =>
      some (.inl (q20.1, q20.2.1, q20.2.2.1, wr .i64 (q20.2.2.2.1 + 1), q20.2.2.2.2)))
    none)
  (some (.inr out))
def F16_l2 (spots : Int) (t21 : (List Int)) (t22 : Int) (t23 : Int) (out : (List Point)) : Option (List Point) :=
  loopN (S := (Int × (List Int) × Int × Int × (List Point))) (O := (List Point)) (fun s => F16_s2 s.1 s.2.1 s.2.2.1 s.2.2.2.1 s.2.2.2.2) (spots, t21, t22, t23, out)
def F16_j1 (nodes : (List Int)) (spots : Int) (t20 : Bool) : Option (Int × (List Point)) :=
  cond t20
  (some (1, []))
  ((F16_l2 spots nodes ((List.length nodes) : Int) 0 []).bind fun q21 =>
    (F42 q21).bind fun q22 =>
    some (0, q22))
def F16 (nodes : (List Int)) (spots : Int) : Option (Int × (List Point)) :=
  (F39 nodes).bind fun q16 =>
  cond (q16 != 0)
  (F16_j1 nodes spots true)
  (cond (decide (spots < 1))
    (F16_j1 nodes spots true)
    (F16_j1 nodes spots (decide (spots > 32))))

-- tattle/ring.Check
def F63_s1 (l : (List Point)) (t8 : (List Point)) (t9 : Int) (t10 : Int) : Option (((List Point) × (List Point) × Int × Int) ⊕ (Int ⊕ Unit)) :=
  cond (decide (t10 < t9))
  (cond ((decide (0 ≤ t10)) && (decide (t10 < ((List.length t8) : Int))))
    (cond (decide ((List.getD t8 (Int.toNat t10) (0, 0, 0)).2.1 < 0))
      (some (.inr (.inl 1)))
      (cond (decide ((List.getD t8 (Int.toNat t10) (0, 0, 0)).2.1 ≥ 64))
        (some (.inr (.inl 1)))
        (cond (decide (t10 > 0))
          (cond ((decide (0 ≤ (wr .i64 (t10 - 1)))) && (decide ((wr .i64 (t10 - 1)) < ((List.length l) : Int))))
            ((F43 (List.getD l (Int.toNat (wr .i64 (t10 - 1))) (0, 0, 0)) (List.getD t8 (Int.toNat t10) (0, 0, 0))).bind fun q4 =>
              cond (decide (q4 ≥ 0))
              (some (.inr (.inl 1)))
              (some (.inl (l, t8, t9, wr .i64 (t10 + 1)))))
            none)
          (some (.inl (l, t8, t9, wr .i64 (t10 + 1)))))))
    none)
  (some (.inr (.inr ())))
def F63_l1 (l : (List Point)) (t8 : (List Point)) (t9 : Int) (t10 : Int) : Option (Int ⊕ Unit) :=
  loopN (S := ((List Point) × (List Point) × Int × Int)) (O := (Int ⊕ Unit)) (fun s => F63_s1 s.1 s.2.1 s.2.2.1 s.2.2.2) (l, t8, t9, t10)
def F63 (l : (List Point)) : Option Int :=
  cond (decide (((List.length l) : Int) > 2048))
  (some 1)
  ((F63_l1 l l ((List.length l) : Int) 0).bind
    (Sum.elim (fun q5 =>
      some q5)
    (fun q6 =>
      some 0)))

-- tattle/ring.Place$1
def F65 (p : Point) (h : Int) : Option Int :=
  (F61 p.1 h).bind fun q6 =>
  some q6

-- slices.BinarySearchFunc[[]tattle/api.Point,tattle/api.Point,uint64]
def F64_s1 (xv : (List Point)) (target : Int) (n : Int) (i : Int) (j : Int) : Option (((List Point) × Int × Int × Int × Int) ⊕ ((List Point) × Int × Int × Int)) :=
  cond (decide (i < j))
  (cond ((decide (0 ≤ (wr .i64 (Int.fdiv (wr .u64 (wr .i64 (i + j))) (pow2 1))))) && (decide ((wr .i64 (Int.fdiv (wr .u64 (wr .i64 (i + j))) (pow2 1))) < ((List.length xv) : Int))))
    ((F65 (List.getD xv (Int.toNat (wr .i64 (Int.fdiv (wr .u64 (wr .i64 (i + j))) (pow2 1)))) (0, 0, 0)) target).bind fun q6 =>
      cond (decide (q6 < 0))
      (some (.inl (xv, target, n, wr .i64 ((wr .i64 (Int.fdiv (wr .u64 (wr .i64 (i + j))) (pow2 1))) + 1), j)))
      (some (.inl (xv, target, n, i, wr .i64 (Int.fdiv (wr .u64 (wr .i64 (i + j))) (pow2 1))))))
    none)
  (some (.inr (xv, target, n, i)))
def F64_l1 (xv : (List Point)) (target : Int) (n : Int) (i : Int) (j : Int) : Option ((List Point) × Int × Int × Int) :=
  loopN (S := ((List Point) × Int × Int × Int × Int)) (O := ((List Point) × Int × Int × Int)) (fun s => F64_s1 s.1 s.2.1 s.2.2.1 s.2.2.2.1 s.2.2.2.2) (xv, target, n, i, j)
def F64 (xv : (List Point)) (target : Int) : Option (Int × Bool) :=
  (F64_l1 xv target ((List.length xv) : Int) 0 ((List.length xv) : Int)).bind fun q7 =>
  cond (decide (q7.2.2.2 < q7.2.2.1))
  (cond ((decide (0 ≤ q7.2.2.2)) && (decide (q7.2.2.2 < ((List.length q7.1) : Int))))
    ((F65 (List.getD q7.1 (Int.toNat q7.2.2.2) (0, 0, 0)) q7.2.1).bind fun q8 =>
      some (q7.2.2.2, q8 == 0))
    none)
  (some (q7.2.2.2, false))

-- tattle/ring.Place
def F44 (l : (List Point)) (key : ByteArray) : Option (Int × Int) :=
  (F63 l).bind fun q4 =>
  cond (q4 != 0)
  (some (0, 1))
  (cond (((List.length l) : Int) == 0)
    (some (0, 6))
    ((F40 [key]).bind fun q5 =>
      (F64 l q5).bind fun q6 =>
      cond (decide (((List.length l) : Int) = 0))
      none
      (some (Int.tmod q6.1 ((List.length l) : Int), 0))))

-- tattle/ring.Owner
def F18 (l : (List Point)) (key : ByteArray) : Option (Int × Int) :=
  (F44 l key).bind fun q4 =>
  cond (q4.2 != 0)
  (some (0, q4.2))
  (cond ((decide (0 ≤ q4.1)) && (decide (q4.1 < ((List.length l) : Int))))
    (some ((List.getD l (Int.toNat q4.1) (0, 0, 0)).2.1, 0))
    none)

-- tattle/tattleref12.times
def F67_s1 (n : Int) (out : Int) (i : Int) : Option ((Int × Int × Int) ⊕ Int) :=
  cond (decide (i < 435))
  (some (.inl (n, wr .u64 (out + n), wr .i64 (i + 1))))
  (some (.inr out))
def F67_l1 (n : Int) (out : Int) (i : Int) : Option Int :=
  loopN (S := (Int × Int × Int)) (O := Int) (fun s => F67_s1 s.1 s.2.1 s.2.2) (n, out, i)
def F67 (n : Int) : Option Int :=
  (F67_l1 n (wr .u64 (n * (pow2 40))) 0).bind fun q8 =>
  some q8

-- tattle/tattleref12.On
def F53_s1 (h : Int) (s : ByteArray) (i : Int) : Option ((Int × ByteArray × Int) ⊕ Int) :=
  cond (decide (i < ((ByteArray.size s) : Int)))
  (cond ((decide (0 ≤ i)) && (decide (i < ((ByteArray.size s) : Int))))
    ((F67 (bXor .u64 h (wr .u64 (bt s i)))).bind fun q8 =>
      some (.inl (q8, s, wr .i64 (i + 1))))
    none)
  (some (.inr h))
def F53_l1 (h : Int) (s : ByteArray) (i : Int) : Option Int :=
  loopN (S := (Int × ByteArray × Int)) (O := Int) (fun s => F53_s1 s.1 s.2.1 s.2.2) (h, s, i)
def F53 (h : Int) (s : ByteArray) : Option Int :=
  (F53_l1 h s 0).bind fun q9 =>
  some q9

-- tattle/tattleref12.Sum
def F38_s1 (l : (List ByteArray)) (s : ByteArray) (i : Int) : Option (((List ByteArray) × ByteArray × Int) ⊕ ByteArray) :=
  cond (decide (i < ((List.length l) : Int)))
  (cond ((decide (0 ≤ i)) && (decide (i < ((List.length l) : Int))))
    (cond (decide (((ByteArray.size s) + (ByteArray.size (List.getD l (Int.toNat i) (⟨#[]⟩ : ByteArray)))) ≤ 9223372036854775807))
      (some (.inl (l, s ++ (List.getD l (Int.toNat i) (⟨#[]⟩ : ByteArray)), wr .i64 (i + 1))))
      none)
    none)
  (some (.inr s))
def F38_l1 (l : (List ByteArray)) (s : ByteArray) (i : Int) : Option ByteArray :=
  loopN (S := ((List ByteArray) × ByteArray × Int)) (O := ByteArray) (fun s => F38_s1 s.1 s.2.1 s.2.2) (l, s, i)
def F38 (l : (List ByteArray)) : Option Int :=
  (F38_l1 l (⟨#[]⟩ : ByteArray) 0).bind fun q7 =>
  (F53 14695981039346656037 q7).bind fun q8 =>
  some q8

-- tattle/tattlelaw13.awake
def F15_s1 (e : Int) (n : Int) (f : Int) (g : Int) (sum : Int) (i : Int) (l : (List Point)) : Option ((Int × Int × Int × Int × Int × Int × (List Point)) ⊕ (Int × Int × Int × Int × Int × (List Point))) :=
  cond (decide (i < ((List.length l) : Int)))
  (cond ((decide (0 ≤ i)) && (decide (i < ((List.length l) : Int))))
    (some (.inl (e, n, f, g, wr .u64 (sum + (List.getD l (Int.toNat i) (0, 0, 0)).1), wr .i64 (i + 1), l)))
    none)
  (some (.inr (e, n, f, g, sum, l)))
def F15_l1 (e : Int) (n : Int) (f : Int) (g : Int) (sum : Int) (i : Int) (l : (List Point)) : Option (Int × Int × Int × Int × Int × (List Point)) :=
  loopN (S := (Int × Int × Int × Int × Int × Int × (List Point))) (O := (Int × Int × Int × Int × Int × (List Point))) (fun s => F15_s1 s.1 s.2.1 s.2.2.1 s.2.2.2.1 s.2.2.2.2.1 s.2.2.2.2.2.1 s.2.2.2.2.2.2) (e, n, f, g, sum, i, l)
def F15 : Option Bool :=
  (F16 [3] 2).bind fun q3 =>
  (F18 q3.2 (⟨#[97, 110, 121, 116, 104, 105, 110, 103]⟩ : ByteArray)).bind fun q4 =>
  (F18 [] (⟨#[]⟩ : ByteArray)).bind fun q5 =>
  (F15_l1 q3.1 q4.1 q4.2 q5.2 0 0 q3.2).bind fun q6 =>
  cond (((List.length q6.2.2.2.2.2) : Int) == 2)
  (cond (q6.1 == 0)
    (cond (q6.2.1 == 3)
      (cond (q6.2.2.1 == 0)
        (cond (q6.2.2.2.1 == 6)
          ((F38 [(⟨#[51, 47, 48]⟩ : ByteArray)]).bind fun q7 =>
            (F38 [(⟨#[51, 47, 49]⟩ : ByteArray)]).bind fun q8 =>
            cond (q6.2.2.2.2.1 == (wr .u64 (q7 + q8)))
            (some true)
            (some false))
          (some false))
        (some false))
      (some false))
    (some false))
  (some false)

-- tattle/ring.Walk
def F17_s1 (l : (List Point)) (atv : Int) (t22 : Int) (t23 : Int) (met : (List Bool)) (out : (List Int)) : Option (((List Point) × Int × Int × Int × (List Bool) × (List Int)) ⊕ (List Int)) :=
  cond (decide (t23 < t22))
  (cond (decide (((List.length l) : Int) = 0))
    none
    (cond ((decide (0 ≤ (Int.tmod (wr .i64 (atv + t23)) ((List.length l) : Int)))) && (decide ((Int.tmod (wr .i64 (atv + t23)) ((List.length l) : Int)) < ((List.length l) : Int))))
      (cond ((decide (0 ≤ (List.getD l (Int.toNat (Int.tmod (wr .i64 (atv + t23)) ((List.length l) : Int))) (0, 0, 0)).2.1)) && (decide ((List.getD l (Int.toNat (Int.tmod (wr .i64 (atv + t23)) ((List.length l) : Int))) (0, 0, 0)).2.1 < ((List.length met) : Int))))
        (cond (!(List.getD met (Int.toNat (List.getD l (Int.toNat (Int.tmod (wr .i64 (atv + t23)) ((List.length l) : Int))) (0, 0, 0)).2.1) false))
          (cond ((decide (0 ≤ (List.getD l (Int.toNat (Int.tmod (wr .i64 (atv + t23)) ((List.length l) : Int))) (0, 0, 0)).2.1)) && (decide ((List.getD l (Int.toNat (Int.tmod (wr .i64 (atv + t23)) ((List.length l) : Int))) (0, 0, 0)).2.1 < ((List.length met) : Int))))
            (cond (decide ((((List.length out) + 1) * 8) ≤ 140737488355328))
              (some (.inl (l, atv, t22, wr .i64 (t23 + 1), List.set met (Int.toNat (List.getD l (Int.toNat (Int.tmod (wr .i64 (atv + t23)) ((List.length l) : Int))) (0, 0, 0)).2.1) true, out ++ [(List.getD l (Int.toNat (Int.tmod (wr .i64 (atv + t23)) ((List.length l) : Int))) (0, 0, 0)).2.1])))
              none)
            none)
          (some (.inl (l, atv, t22, wr .i64 (t23 + 1), met, out))))
        none)
      none))
  (some (.inr out))
def F17_l1 (l : (List Point)) (atv : Int) (t22 : Int) (t23 : Int) (met : (List Bool)) (out : (List Int)) : Option (List Int) :=
  loopN (S := ((List Point) × Int × Int × Int × (List Bool) × (List Int))) (O := (List Int)) (fun s => F17_s1 s.1 s.2.1 s.2.2.1 s.2.2.2.1 s.2.2.2.2.1 s.2.2.2.2.2) (l, atv, t22, t23, met, out)
def F17 (l : (List Point)) (key : ByteArray) : Option (Int × (List Int)) :=
  (F44 l key).bind fun q11 =>
  cond (q11.2 != 0)
  (some (q11.2, []))
  ((F17_l1 l q11.1 ((List.length l) : Int) 0 (List.replicate 64 false) []).bind fun q12 =>
    some (0, q12))

-- tattle/tattleref02.Many
def F19_s1 (l : (List Int)) (n : Int) (k : Int) (i : Int) : Option (((List Int) × Int × Int × Int) ⊕ Int) :=
  cond (decide (i < ((List.length l) : Int)))
  (cond ((decide (0 ≤ i)) && (decide (i < ((List.length l) : Int))))
    (cond ((List.getD l (Int.toNat i) 0) == n)
      (some (.inl (l, n, wr .i64 (k + 1), wr .i64 (i + 1))))
      (some (.inl (l, n, k, wr .i64 (i + 1)))))
    none)
  (some (.inr k))
def F19_l1 (l : (List Int)) (n : Int) (k : Int) (i : Int) : Option Int :=
  loopN (S := ((List Int) × Int × Int × Int)) (O := Int) (fun s => F19_s1 s.1 s.2.1 s.2.2.1 s.2.2.2) (l, n, k, i)
def F19 (l : (List Int)) (n : Int) : Option Int :=
  (F19_l1 l n 0 0).bind fun q16 =>
  some q16

-- tattle/tattleref02.Same
def F20_s1 (a : (List Int)) (b : (List Int)) (i : Int) : Option (((List Int) × (List Int) × Int) ⊕ (Bool ⊕ Unit)) :=
  cond (decide (i < ((List.length a) : Int)))
  (cond ((decide (0 ≤ i)) && (decide (i < ((List.length a) : Int))))
    (cond ((decide (0 ≤ i)) && (decide (i < ((List.length b) : Int))))
      (cond ((List.getD a (Int.toNat i) 0) != (List.getD b (Int.toNat i) 0))
        (some (.inr (.inl false)))
        (some (.inl (a, b, wr .i64 (i + 1)))))
      none)
    none)
  (some (.inr (.inr ())))
def F20_l1 (a : (List Int)) (b : (List Int)) (i : Int) : Option (Bool ⊕ Unit) :=
  loopN (S := ((List Int) × (List Int) × Int)) (O := (Bool ⊕ Unit)) (fun s => F20_s1 s.1 s.2.1 s.2.2) (a, b, i)
def F20 (a : (List Int)) (b : (List Int)) : Option Bool :=
  cond (((List.length a) : Int) != ((List.length b) : Int))
  (some false)
  ((F20_l1 a b 0).bind
    (Sum.elim (fun q36 =>
      some q36)
    (fun q37 =>
      some true)))

-- tattle/tattleref08.once
def F37_s1 (l : (List Int)) (i : Int) : Option (((List Int) × Int) ⊕ (Bool ⊕ Unit)) :=
  cond (decide (i < ((List.length l) : Int)))
  (cond ((decide (0 ≤ i)) && (decide (i < ((List.length l) : Int))))
    (cond (decide ((List.getD l (Int.toNat i) 0) < 0))
      (some (.inr (.inl false)))
      (cond ((decide (0 ≤ i)) && (decide (i < ((List.length l) : Int))))
        (cond (decide ((List.getD l (Int.toNat i) 0) > 63))
          (some (.inr (.inl false)))
          (cond ((decide (0 ≤ i)) && (decide (i < ((List.length l) : Int))))
            ((F19 l (List.getD l (Int.toNat i) 0)).bind fun q40 =>
              cond (q40 != 1)
              (some (.inr (.inl false)))
              (some (.inl (l, wr .i64 (i + 1)))))
            none))
        none))
    none)
  (some (.inr (.inr ())))
def F37_l1 (l : (List Int)) (i : Int) : Option (Bool ⊕ Unit) :=
  loopN (S := ((List Int) × Int)) (O := (Bool ⊕ Unit)) (fun s => F37_s1 s.1 s.2) (l, i)
def F37 (l : (List Int)) : Option Bool :=
  (F37_l1 l 0).bind
  (Sum.elim (fun q41 =>
    some q41)
  (fun q42 =>
    some true))

-- tattle/tattleref08.Nodes
def F14_s1 (l : (List Int)) (i : Int) : Option (((List Int) × Int) ⊕ (Bool ⊕ (List Int))) :=
  cond (decide (i < ((List.length l) : Int)))
  (cond ((decide (0 ≤ i)) && (decide (i < ((List.length l) : Int))))
    (cond ((decide (0 ≤ (wr .i64 (i - 1)))) && (decide ((wr .i64 (i - 1)) < ((List.length l) : Int))))
      (cond (decide ((List.getD l (Int.toNat i) 0) ≤ (List.getD l (Int.toNat (wr .i64 (i - 1))) 0)))
        (some (.inr (.inl false)))
        (some (.inl (l, wr .i64 (i + 1)))))
      none)
    none)
  (some (.inr (.inr l)))
def F14_l1 (l : (List Int)) (i : Int) : Option (Bool ⊕ (List Int)) :=
  loopN (S := ((List Int) × Int)) (O := (Bool ⊕ (List Int))) (fun s => F14_s1 s.1 s.2) (l, i)
def F14 (l : (List Int)) : Option Bool :=
  (F14_l1 l 1).bind
  (Sum.elim (fun q38 =>
    some q38)
  (fun q39 =>
    cond (decide (((List.length q39) : Int) ≤ 64))
    ((F37 q39).bind fun q40 =>
      some q40)
    (some false)))

-- tattle/tattlelaw13.RingWalks
def F3_j4 (nodes : (List Int)) (key : ByteArray) (many : Int) (k : Int) (i : Int) (w : (List Int)) (left : (List Int)) (less : (List Int)) : Option (((List Int) × ByteArray × Int × Int × Int × (List Int) × (List Int) × (List Int)) ⊕ (Bool ⊕ (ByteArray × Int × (List Int) × (List Int)))) :=
  cond ((decide (0 ≤ i)) && (decide (i < ((List.length w) : Int))))
  (cond ((List.getD w (Int.toNat i) 0) != k)
    (cond ((decide (0 ≤ i)) && (decide (i < ((List.length w) : Int))))
      (cond (decide ((((List.length left) + 1) * 8) ≤ 140737488355328))
        (some (.inl (nodes, key, many, k, wr .i64 (i + 1), w, left ++ [List.getD w (Int.toNat i) 0], less)))
        none)
      none)
    (some (.inl (nodes, key, many, k, wr .i64 (i + 1), w, left, less))))
  none
def F3_s3 (nodes : (List Int)) (key : ByteArray) (many : Int) (k : Int) (i : Int) (w : (List Int)) (left : (List Int)) (less : (List Int)) : Option (((List Int) × ByteArray × Int × Int × Int × (List Int) × (List Int) × (List Int)) ⊕ (Bool ⊕ (ByteArray × Int × (List Int) × (List Int)))) :=
  cond (decide (i < ((List.length nodes) : Int)))
  (cond ((decide (0 ≤ i)) && (decide (i < ((List.length nodes) : Int))))
    ((F19 w (List.getD nodes (Int.toNat i) 0)).bind fun q30 =>
      cond (q30 != 1)
      (some (.inr (.inl false)))
      (cond ((decide (0 ≤ i)) && (decide (i < ((List.length nodes) : Int))))
        (cond ((List.getD nodes (Int.toNat i) 0) != k)
          (cond ((decide (0 ≤ i)) && (decide (i < ((List.length nodes) : Int))))
            (cond (decide ((((List.length less) + 1) * 8) ≤ 140737488355328))
              (F3_j4 nodes key many k i w left (less ++ [List.getD nodes (Int.toNat i) 0]))
              none)
            none)
          (F3_j4 nodes key many k i w left less))
        none))
    none)
  (some (.inr (.inr (key, many, left, less))))
def F3_l3 (nodes : (List Int)) (key : ByteArray) (many : Int) (k : Int) (i : Int) (w : (List Int)) (left : (List Int)) (less : (List Int)) : Option (Bool ⊕ (ByteArray × Int × (List Int) × (List Int))) :=
  loopN (S := ((List Int) × ByteArray × Int × Int × Int × (List Int) × (List Int) × (List Int))) (O := (Bool ⊕ (ByteArray × Int × (List Int) × (List Int)))) (fun s => F3_s3 s.1 s.2.1 s.2.2.1 s.2.2.2.1 s.2.2.2.2.1 s.2.2.2.2.2.1 s.2.2.2.2.2.2.1 s.2.2.2.2.2.2.2) (nodes, key, many, k, i, w, left, less)
def F3_j2 (nodes : (List Int)) (gone : Int) (key : ByteArray) (many : Int) (t91 : Bool) (w : (List Int)) : Option Bool :=
  cond t91
  (some false)
  (cond (decide (((List.length nodes) : Int) = 0))
    none
    (cond ((decide (0 ≤ (Int.tmod (wr .i64 gone) ((List.length nodes) : Int)))) && (decide ((Int.tmod (wr .i64 gone) ((List.length nodes) : Int)) < ((List.length nodes) : Int))))
      ((F3_l3 nodes key many (List.getD nodes (Int.toNat (Int.tmod (wr .i64 gone) ((List.length nodes) : Int))) 0) 0 w [] []).bind
        (Sum.elim (fun q31 =>
          some q31)
        (fun q32 =>
          cond (((List.length q32.2.2.2) : Int) == 0)
          ((F15).bind fun q33 =>
            some q33)
          ((F16 q32.2.2.2 q32.2.1).bind fun q34 =>
            (F17 q34.2 q32.1).bind fun q35 =>
            cond (q34.1 == 0)
            (cond (q35.1 == 0)
              ((F20 q35.2 q32.2.2.1).bind fun q36 =>
                cond q36
                ((F15).bind fun q37 =>
                  some q37)
                (some false))
              (some false))
            (some false)))))
      none))
def F3_j1 (nodes : (List Int)) (spots : Int) (gone : Int) (key : ByteArray) (t44 : Bool) : Option Bool :=
  cond t44
  ((F15).bind fun q26 =>
    some q26)
  ((F16 nodes (wr .i64 (1 + (wr .i64 (Int.tmod spots 8))))).bind fun q27 =>
    (F17 q27.2 key).bind fun q28 =>
    (F18 q27.2 key).bind fun q29 =>
    cond (q27.1 != 0)
    (F3_j2 nodes gone key (wr .i64 (1 + (wr .i64 (Int.tmod spots 8)))) true q28.2)
    (cond (q28.1 != 0)
      (F3_j2 nodes gone key (wr .i64 (1 + (wr .i64 (Int.tmod spots 8)))) true q28.2)
      (cond (q29.2 != 0)
        (F3_j2 nodes gone key (wr .i64 (1 + (wr .i64 (Int.tmod spots 8)))) true q28.2)
        (cond (((List.length q28.2) : Int) != ((List.length nodes) : Int))
          (F3_j2 nodes gone key (wr .i64 (1 + (wr .i64 (Int.tmod spots 8)))) true q28.2)
          (cond (decide (0 < ((List.length q28.2) : Int)))
            (F3_j2 nodes gone key (wr .i64 (1 + (wr .i64 (Int.tmod spots 8)))) ((List.getD q28.2 0 0) != q29.1) q28.2)
            none)))))
def F3 (qv : Gone) : Option Bool :=
  (F12 qv.1).bind fun q24 =>
  (F13 qv.2.2.2).bind fun q25 =>
  cond (decide (((List.length q24) : Int) < 1))
  (F3_j1 q24 qv.2.1 qv.2.2.1 q25 true)
  (cond (decide (((List.length q24) : Int) > 8))
    (F3_j1 q24 qv.2.1 qv.2.2.1 q25 true)
    ((F14 q24).bind fun q38 =>
      F3_j1 q24 qv.2.1 qv.2.2.1 q25 (!q38)))

-- tattle/tattlelaw13.RingOne
def F4_j1 (key : ByteArray) (node : Int) (t41 : Bool) (l : (List Point)) : Option Bool :=
  cond t41
  (some false)
  ((F18 l key).bind fun q5 =>
    (F17 l key).bind fun q6 =>
    (F16 [node] 0).bind fun q7 =>
    cond (q5.1 == node)
    (cond (q5.2 == 0)
      ((F20 q6.2 [node]).bind fun q8 =>
        cond q8
        (cond (q6.1 == 0)
          (cond (q7.1 == 1)
            ((F15).bind fun q9 =>
              some q9)
            (some false))
          (some false))
        (some false))
      (some false))
    (some false))
def F4 (n : Int) (spots : Int) (key : ByteArray) : Option Bool :=
  (F13 key).bind fun q3 =>
  (F16 [wr .i64 (Int.tmod n 64)] (wr .i64 (1 + (wr .i64 (Int.tmod spots 32))))).bind fun q4 =>
  cond (q4.1 != 0)
  (F4_j1 q3 (wr .i64 (Int.tmod n 64)) true q4.2)
  (F4_j1 q3 (wr .i64 (Int.tmod n 64)) (((List.length q4.2) : Int) != (wr .i64 (1 + (wr .i64 (Int.tmod spots 32))))) q4.2)

-- tattle/tattleref10.Name
def F52_s1 (s : ByteArray) (i : Int) : Option ((ByteArray × Int) ⊕ (Bool ⊕ ByteArray)) :=
  cond (decide (i < ((ByteArray.size s) : Int)))
  (cond ((decide (0 ≤ i)) && (decide (i < ((ByteArray.size s) : Int))))
    (cond (decide (97 ≤ (bt s i)))
      (cond (decide ((bt s i) ≤ 122))
        (some (.inl (s, wr .i64 (i + 1))))
        (cond (decide (48 ≤ (bt s i)))
          (cond (decide ((bt s i) ≤ 57))
            (some (.inl (s, wr .i64 (i + 1))))
            (cond (!((bt s i) == 45))
              (some (.inr (.inl false)))
              (some (.inl (s, wr .i64 (i + 1))))))
          (cond (!((bt s i) == 45))
            (some (.inr (.inl false)))
            (some (.inl (s, wr .i64 (i + 1)))))))
      (cond (decide (48 ≤ (bt s i)))
        (cond (decide ((bt s i) ≤ 57))
          (some (.inl (s, wr .i64 (i + 1))))
          (cond (!((bt s i) == 45))
            (some (.inr (.inl false)))
            (some (.inl (s, wr .i64 (i + 1))))))
        (cond (!((bt s i) == 45))
          (some (.inr (.inl false)))
          (some (.inl (s, wr .i64 (i + 1)))))))
    none)
  (some (.inr (.inr s)))
def F52_l1 (s : ByteArray) (i : Int) : Option (Bool ⊕ ByteArray) :=
  loopN (S := (ByteArray × Int)) (O := (Bool ⊕ ByteArray)) (fun s => F52_s1 s.1 s.2) (s, i)
def F52 (s : ByteArray) : Option Bool :=
  (F52_l1 s 0).bind
  (Sum.elim (fun q2 =>
    some q2)
  (fun q3 =>
    cond (decide (1 ≤ ((ByteArray.size q3) : Int)))
    (some (decide (((ByteArray.size q3) : Int) ≤ 20)))
    (some false)))

-- tattle/tattleref14.Tasks
def F35_s1 (l : (List ByteArray)) (i : Int) : Option (((List ByteArray) × Int) ⊕ (Bool ⊕ (List ByteArray))) :=
  cond (decide (i < ((List.length l) : Int)))
  (cond ((decide (0 ≤ i)) && (decide (i < ((List.length l) : Int))))
    ((F52 (List.getD l (Int.toNat i) (⟨#[]⟩ : ByteArray))).bind fun q2 =>
      cond (!q2)
      (some (.inr (.inl false)))
      (cond (decide (i > 0))
        (cond ((decide (0 ≤ i)) && (decide (i < ((List.length l) : Int))))
          (cond ((decide (0 ≤ (wr .i64 (i - 1)))) && (decide ((wr .i64 (i - 1)) < ((List.length l) : Int))))
            (cond ((Op.bytesLess (ByteArray.toList (List.getD l (Int.toNat i) (⟨#[]⟩ : ByteArray))) (ByteArray.toList (List.getD l (Int.toNat (wr .i64 (i - 1))) (⟨#[]⟩ : ByteArray)))) || ((ByteArray.toList (List.getD l (Int.toNat i) (⟨#[]⟩ : ByteArray))) == (ByteArray.toList (List.getD l (Int.toNat (wr .i64 (i - 1))) (⟨#[]⟩ : ByteArray)))))
              (some (.inr (.inl false)))
              (some (.inl (l, wr .i64 (i + 1)))))
            none)
          none)
        (some (.inl (l, wr .i64 (i + 1))))))
    none)
  (some (.inr (.inr l)))
def F35_l1 (l : (List ByteArray)) (i : Int) : Option (Bool ⊕ (List ByteArray)) :=
  loopN (S := ((List ByteArray) × Int)) (O := (Bool ⊕ (List ByteArray))) (fun s => F35_s1 s.1 s.2) (l, i)
def F35 (l : (List ByteArray)) : Option Bool :=
  (F35_l1 l 0).bind
  (Sum.elim (fun q3 =>
    some q3)
  (fun q4 =>
    some (decide (((List.length q4) : Int) ≤ 100))))

-- tattle/tattlelaw14.light
def F21 (qv : Ask) : Option Bool :=
  cond (decide (((List.length qv.1) : Int) ≥ 1))
  (cond (decide (((List.length qv.1) : Int) ≤ 6))
    (cond (decide (((List.length qv.2.2.1) : Int) ≤ 20))
      ((F14 qv.1).bind fun q1 =>
        cond q1
        ((F35 qv.2.2.1).bind fun q2 =>
          cond q2
          (cond (decide (qv.2.1 ≥ 1))
            (some (decide (qv.2.1 ≤ 8)))
            (some false))
          (some false))
        (some false))
      (some false))
    (some false))
  (some false)

-- tattle/load.Bound
def F24_j1 (t : Int) (n : Int) (t19 : Bool) : Option (Int × Int) :=
  cond t19
  (some (0, 1))
  (cond (decide ((wr .i64 (4 * n)) = 0))
    none
    (some (wr .i64 (Int.tdiv (wr .i64 ((wr .i64 ((wr .i64 (5 * t)) + (wr .i64 (4 * n)))) - 1)) (wr .i64 (4 * n))), 0)))
def F24 (t : Int) (n : Int) : Option (Int × Int) :=
  cond (decide (t < 0))
  (F24_j1 t n true)
  (cond (decide (t > 100))
    (F24_j1 t n true)
    (cond (decide (n < 1))
      (F24_j1 t n true)
      (F24_j1 t n (decide (n > 64)))))

-- tattle/msg.Name
def F51_s1 (s : ByteArray) (t6 : ByteArray) (t6At : Int) : Option ((ByteArray × ByteArray × Int) ⊕ (Bool ⊕ ByteArray)) :=
  cond (decide ((Int.toNat t6At) < (ByteArray.size t6)))
  (cond (decide (((Utf8.decode t6 (Int.toNat t6At)).1 : Int) ≥ 97))
    (cond (decide (((Utf8.decode t6 (Int.toNat t6At)).1 : Int) ≤ 122))
      (some (.inl (s, t6, ((((Int.toNat t6At) + (Utf8.decode t6 (Int.toNat t6At)).2) : Nat) : Int))))
      (cond (decide (((Utf8.decode t6 (Int.toNat t6At)).1 : Int) ≥ 48))
        (cond (decide (((Utf8.decode t6 (Int.toNat t6At)).1 : Int) ≤ 57))
          (some (.inl (s, t6, ((((Int.toNat t6At) + (Utf8.decode t6 (Int.toNat t6At)).2) : Nat) : Int))))
          (cond (!(((Utf8.decode t6 (Int.toNat t6At)).1 : Int) == 45))
            (some (.inr (.inl false)))
            (some (.inl (s, t6, ((((Int.toNat t6At) + (Utf8.decode t6 (Int.toNat t6At)).2) : Nat) : Int))))))
        (cond (!(((Utf8.decode t6 (Int.toNat t6At)).1 : Int) == 45))
          (some (.inr (.inl false)))
          (some (.inl (s, t6, ((((Int.toNat t6At) + (Utf8.decode t6 (Int.toNat t6At)).2) : Nat) : Int)))))))
    (cond (decide (((Utf8.decode t6 (Int.toNat t6At)).1 : Int) ≥ 48))
      (cond (decide (((Utf8.decode t6 (Int.toNat t6At)).1 : Int) ≤ 57))
        (some (.inl (s, t6, ((((Int.toNat t6At) + (Utf8.decode t6 (Int.toNat t6At)).2) : Nat) : Int))))
        (cond (!(((Utf8.decode t6 (Int.toNat t6At)).1 : Int) == 45))
          (some (.inr (.inl false)))
          (some (.inl (s, t6, ((((Int.toNat t6At) + (Utf8.decode t6 (Int.toNat t6At)).2) : Nat) : Int))))))
      (cond (!(((Utf8.decode t6 (Int.toNat t6At)).1 : Int) == 45))
        (some (.inr (.inl false)))
        (some (.inl (s, t6, ((((Int.toNat t6At) + (Utf8.decode t6 (Int.toNat t6At)).2) : Nat) : Int)))))))
  (some (.inr (.inr s)))
def F51_l1 (s : ByteArray) (t6 : ByteArray) (t6At : Int) : Option (Bool ⊕ ByteArray) :=
  loopN (S := (ByteArray × ByteArray × Int)) (O := (Bool ⊕ ByteArray)) (fun s => F51_s1 s.1 s.2.1 s.2.2) (s, t6, t6At)
def F51 (s : ByteArray) : Option Bool :=
  (F51_l1 s s 0).bind
  (Sum.elim (fun q5 =>
    some q5)
  (fun q6 =>
    cond (!((ByteArray.toList q6) == (ByteArray.toList (⟨#[]⟩ : ByteArray))))
    (some (decide (((ByteArray.size q6) : Int) ≤ 20)))
    (some false)))

-- tattle/load.Tasks
def F34_s1 (l : (List ByteArray)) (t8 : (List ByteArray)) (t9 : Int) (t10 : Int) : Option (((List ByteArray) × (List ByteArray) × Int × Int) ⊕ (Int ⊕ Unit)) :=
  cond (decide (t10 < t9))
  (cond ((decide (0 ≤ t10)) && (decide (t10 < ((List.length t8) : Int))))
    ((F51 (List.getD t8 (Int.toNat t10) (⟨#[]⟩ : ByteArray))).bind fun q5 =>
      cond (!q5)
      (some (.inr (.inl 1)))
      (cond (decide (t10 > 0))
        (cond ((decide (0 ≤ (wr .i64 (t10 - 1)))) && (decide ((wr .i64 (t10 - 1)) < ((List.length l) : Int))))
          (cond (!(Op.bytesLess (ByteArray.toList (List.getD l (Int.toNat (wr .i64 (t10 - 1))) (⟨#[]⟩ : ByteArray))) (ByteArray.toList (List.getD t8 (Int.toNat t10) (⟨#[]⟩ : ByteArray)))))
            (some (.inr (.inl 1)))
            (some (.inl (l, t8, t9, wr .i64 (t10 + 1)))))
          none)
        (some (.inl (l, t8, t9, wr .i64 (t10 + 1))))))
    none)
  (some (.inr (.inr ())))
def F34_l1 (l : (List ByteArray)) (t8 : (List ByteArray)) (t9 : Int) (t10 : Int) : Option (Int ⊕ Unit) :=
  loopN (S := ((List ByteArray) × (List ByteArray) × Int × Int)) (O := (Int ⊕ Unit)) (fun s => F34_s1 s.1 s.2.1 s.2.2.1 s.2.2.2) (l, t8, t9, t10)
def F34 (l : (List ByteArray)) : Option Int :=
  cond (decide (((List.length l) : Int) > 100))
  (some 1)
  ((F34_l1 l l ((List.length l) : Int) 0).bind
    (Sum.elim (fun q6 =>
      some q6)
    (fun q7 =>
      some 0)))

-- tattle/load.Assign
def F23_s2 (points : (List Point)) (most : Int) (task : ByteArray) (t49 : (List ByteArray)) (t50 : Int) (t51 : Int) (t65 : Int) (t66 : Int) (has : (List (Int × Int))) (out : (List Put)) (t64 : (List Int)) : Option (((List Point) × Int × ByteArray × (List ByteArray) × Int × Int × Int × Int × (List (Int × Int)) × (List Put) × (List Int)) ⊕ (((List Point) × Int × (List ByteArray) × Int × Int × (List (Int × Int)) × (List Put)) ⊕ ((List Point) × Int × (List ByteArray) × Int × Int × (List (Int × Int)) × (List Put)))) :=
  cond (decide (t66 < t65))
  (cond ((decide (0 ≤ t66)) && (decide (t66 < ((List.length t64) : Int))))
    (cond (decide ((optD (mget (.int .i64) (.int .i64) has (List.getD t64 (Int.toNat t66) 0)) 0) < most))
      (cond (decide ((((List.length out) + 1) * 24) ≤ 140737488355328))
        (some (.inr (.inl (points, most, t49, t50, t51, mput (.int .i64) (.int .i64) has (List.getD t64 (Int.toNat t66) 0) (wr .i64 ((optD (mget (.int .i64) (.int .i64) has (List.getD t64 (Int.toNat t66) 0)) 0) + 1)), out ++ [(task, List.getD t64 (Int.toNat t66) 0)]))))
        none)
      (some (.inl (points, most, task, t49, t50, t51, t65, wr .i64 (t66 + 1), has, out, t64))))
    none)
  (some (.inr (.inr (points, most, t49, t50, t51, has, out))))
def F23_l2 (points : (List Point)) (most : Int) (task : ByteArray) (t49 : (List ByteArray)) (t50 : Int) (t51 : Int) (t65 : Int) (t66 : Int) (has : (List (Int × Int))) (out : (List Put)) (t64 : (List Int)) : Option (((List Point) × Int × (List ByteArray) × Int × Int × (List (Int × Int)) × (List Put)) ⊕ ((List Point) × Int × (List ByteArray) × Int × Int × (List (Int × Int)) × (List Put))) :=
  loopN (S := ((List Point) × Int × ByteArray × (List ByteArray) × Int × Int × Int × Int × (List (Int × Int)) × (List Put) × (List Int))) (O := (((List Point) × Int × (List ByteArray) × Int × Int × (List (Int × Int)) × (List Put)) ⊕ ((List Point) × Int × (List ByteArray) × Int × Int × (List (Int × Int)) × (List Put)))) (fun s => F23_s2 s.1 s.2.1 s.2.2.1 s.2.2.2.1 s.2.2.2.2.1 s.2.2.2.2.2.1 s.2.2.2.2.2.2.1 s.2.2.2.2.2.2.2.1 s.2.2.2.2.2.2.2.2.1 s.2.2.2.2.2.2.2.2.2.1 s.2.2.2.2.2.2.2.2.2.2) (points, most, task, t49, t50, t51, t65, t66, has, out, t64)
def F23_s1 (points : (List Point)) (most : Int) (t49 : (List ByteArray)) (t50 : Int) (t51 : Int) (has : (List (Int × Int))) (out : (List Put)) : Option (((List Point) × Int × (List ByteArray) × Int × Int × (List (Int × Int)) × (List Put)) ⊕ ((Int × (List Put)) ⊕ (List Put))) :=
  cond (decide (t51 < t50))
  (cond ((decide (0 ≤ t51)) && (decide (t51 < ((List.length t49) : Int))))
    ((F17 points (List.getD t49 (Int.toNat t51) (⟨#[]⟩ : ByteArray))).bind fun q19 =>
      cond (q19.1 != 0)
      (some (.inr (.inl (q19.1, []))))
      ((F23_l2 points most (List.getD t49 (Int.toNat t51) (⟨#[]⟩ : ByteArray)) t49 t50 t51 ((List.length q19.2) : Int) 0 has out q19.2).bind
        (Sum.elim (fun q20 =>
          some (.inl (q20.1, q20.2.1, q20.2.2.1, q20.2.2.2.1, wr .i64 (q20.2.2.2.2.1 + 1), q20.2.2.2.2.2.1, q20.2.2.2.2.2.2)))
        (fun q21 =>
          some (.inl (q21.1, q21.2.1, q21.2.2.1, q21.2.2.2.1, wr .i64 (q21.2.2.2.2.1 + 1), q21.2.2.2.2.2.1, q21.2.2.2.2.2.2))))))
    none)
  (some (.inr (.inr out)))
def F23_l1 (points : (List Point)) (most : Int) (t49 : (List ByteArray)) (t50 : Int) (t51 : Int) (has : (List (Int × Int))) (out : (List Put)) : Option ((Int × (List Put)) ⊕ (List Put)) :=
  loopN (S := ((List Point) × Int × (List ByteArray) × Int × Int × (List (Int × Int)) × (List Put))) (O := ((Int × (List Put)) ⊕ (List Put))) (fun s => F23_s1 s.1 s.2.1 s.2.2.1 s.2.2.2.1 s.2.2.2.2.1 s.2.2.2.2.2.1 s.2.2.2.2.2.2) (points, most, t49, t50, t51, has, out)
def F23 (nodes : (List Int)) (spots : Int) (l : (List ByteArray)) : Option (Int × (List Put)) :=
  (F16 nodes spots).bind fun q16 =>
  cond (q16.1 != 0)
  (some (q16.1, []))
  ((F34 l).bind fun q17 =>
    cond (q17 != 0)
    (some (1, []))
    (cond (((List.length nodes) : Int) == 0)
      (some (6, []))
      ((F24 ((List.length l) : Int) ((List.length nodes) : Int)).bind fun q18 =>
        cond (q18.2 != 0)
        (some (q18.2, []))
        ((F23_l1 q16.2 q18.1 l ((List.length l) : Int) 0 [] []).bind
          (Sum.elim (fun q22 =>
            some (q22.1, q22.2))
          (fun q23 =>
            some (0, q23)))))))

-- tattle/tattleref14.Same
def F28_s1 (a : (List Put)) (b : (List Put)) (i : Int) : Option (((List Put) × (List Put) × Int) ⊕ (Bool ⊕ Unit)) :=
  cond (decide (i < ((List.length a) : Int)))
  (cond ((decide (0 ≤ i)) && (decide (i < ((List.length a) : Int))))
    (cond ((decide (0 ≤ i)) && (decide (i < ((List.length b) : Int))))
      (cond (!(((List.getD a (Int.toNat i) ((⟨#[]⟩ : ByteArray), 0)).1 == (List.getD b (Int.toNat i) ((⟨#[]⟩ : ByteArray), 0)).1) && ((List.getD a (Int.toNat i) ((⟨#[]⟩ : ByteArray), 0)).2 == (List.getD b (Int.toNat i) ((⟨#[]⟩ : ByteArray), 0)).2)))
        (some (.inr (.inl false)))
        (some (.inl (a, b, wr .i64 (i + 1)))))
      none)
    none)
  (some (.inr (.inr ())))
def F28_l1 (a : (List Put)) (b : (List Put)) (i : Int) : Option (Bool ⊕ Unit) :=
  loopN (S := ((List Put) × (List Put) × Int)) (O := (Bool ⊕ Unit)) (fun s => F28_s1 s.1 s.2.1 s.2.2) (a, b, i)
def F28 (a : (List Put)) (b : (List Put)) : Option Bool :=
  cond (((List.length a) : Int) != ((List.length b) : Int))
  (some false)
  ((F28_l1 a b 0).bind
    (Sum.elim (fun q6 =>
      some q6)
    (fun q7 =>
      some true)))

-- tattle/tattlelaw14.awake
def F22 : Option Bool :=
  (F24 4 2).bind fun q2 =>
  (F24 0 2).bind fun q3 =>
  (F23 [7] 2 [(⟨#[97]⟩ : ByteArray), (⟨#[98]⟩ : ByteArray)]).bind fun q4 =>
  (F23 [] 2 [(⟨#[97]⟩ : ByteArray)]).bind fun q5 =>
  cond (q2.1 == 3)
  (cond (q2.2 == 0)
    (cond (q3.1 == 0)
      (cond (q3.2 == 0)
        ((F28 q4.2 [((⟨#[97]⟩ : ByteArray), 7), ((⟨#[98]⟩ : ByteArray), 7)]).bind fun q6 =>
          cond q6
          (cond (q4.1 == 0)
            (cond (q5.1 == 6)
              (some true)
              (some false))
            (some false))
          (some false))
        (some false))
      (some false))
    (some false))
  (some false)

-- tattle/tattleref13.digits
def F45r (n : Int) : Option ByteArray :=
  cond (decide (n < 10))
  (some (strOf [wr .u8 (wr .i64 (48 + n))]))
  none

-- tattle/tattleref13.digits
def F45 (n : Int) : Option ByteArray :=
  cond (decide (n < 10))
  (some (strOf [wr .u8 (wr .i64 (48 + n))]))
  ((F45r (wr .i64 (Int.tdiv n 10))).bind fun q9 =>
    (F45r (Int.tmod n 10)).bind fun q10 =>
    cond (decide (((ByteArray.size q9) + (ByteArray.size q10)) ≤ 9223372036854775807))
    (some (q9 ++ q10))
    none)

-- tattle/tattleref13.Less
def F46 (a : Point) (b : Point) : Option Bool :=
  cond (a.1 != b.1)
  (some (decide (a.1 < b.1)))
  (cond (a.2.1 != b.2.1)
    (some (decide (a.2.1 < b.2.1)))
    (some (decide (a.2.2 < b.2.2))))

-- tattle/tattleref13.Points
def F25_s3 (nodes : (List Int)) (spots : Int) (out : (List Point)) (k : Int) (i : Int) (atv : Int) (p : Int) (p2 : Int) (p3 : Int) : Option (((List Int) × Int × (List Point) × Int × Int × Int × Int × Int × Int) ⊕ ((List Int) × Int × (List Point) × Int × Int × Int × Int × Int × Int)) :=
  cond (decide (atv < ((List.length out) : Int)))
  (cond ((decide (0 ≤ atv)) && (decide (atv < ((List.length out) : Int))))
    ((F46 (List.getD out (Int.toNat atv) (0, 0, 0)) (p, p2, p3)).bind fun q31 =>
      cond q31
      (some (.inl (nodes, spots, out, k, i, wr .i64 (atv + 1), p, p2, p3)))
      (some (.inr (nodes, spots, out, k, i, atv, p, p2, p3))))
    none)
  (some (.inr (nodes, spots, out, k, i, atv, p, p2, p3)))
def F25_l3 (nodes : (List Int)) (spots : Int) (out : (List Point)) (k : Int) (i : Int) (atv : Int) (p : Int) (p2 : Int) (p3 : Int) : Option ((List Int) × Int × (List Point) × Int × Int × Int × Int × Int × Int) :=
  loopN (S := ((List Int) × Int × (List Point) × Int × Int × Int × Int × Int × Int)) (O := ((List Int) × Int × (List Point) × Int × Int × Int × Int × Int × Int)) (fun s => F25_s3 s.1 s.2.1 s.2.2.1 s.2.2.2.1 s.2.2.2.2.1 s.2.2.2.2.2.1 s.2.2.2.2.2.2.1 s.2.2.2.2.2.2.2.1 s.2.2.2.2.2.2.2.2) (nodes, spots, out, k, i, atv, p, p2, p3)
def F25_s2 (nodes : (List Int)) (spots : Int) (out : (List Point)) (k : Int) (i : Int) : Option (((List Int) × Int × (List Point) × Int × Int) ⊕ ((List Int) × Int × (List Point) × Int)) :=
  cond (decide (i < spots))
  (cond ((decide (0 ≤ k)) && (decide (k < ((List.length nodes) : Int))))
    ((F45 (List.getD nodes (Int.toNat k) 0)).bind fun q28 =>
      cond (decide (((ByteArray.size q28) + 1) ≤ 9223372036854775807))
      ((F45 i).bind fun q29 =>
        cond (decide (((ByteArray.size (q28 ++ (⟨#[47]⟩ : ByteArray))) + (ByteArray.size q29)) ≤ 9223372036854775807))
        ((F38 [(q28 ++ (⟨#[47]⟩ : ByteArray)) ++ q29]).bind fun q30 =>
          cond ((decide (0 ≤ k)) && (decide (k < ((List.length nodes) : Int))))
          ((F25_l3 nodes spots out k i 0 q30 (List.getD nodes (Int.toNat k) 0) i).bind fun q32 =>
            cond ((decide (0 ≤ q32.2.2.2.2.2.1)) && (decide (q32.2.2.2.2.2.1 ≤ ((List.length q32.2.2.1) : Int))))
            (cond (decide (((0 + (List.length (List.drop 0 (List.take (Int.toNat q32.2.2.2.2.2.1) q32.2.2.1)))) * 24) ≤ 140737488355328))
              (cond (decide ((((List.length (List.drop 0 (List.take (Int.toNat q32.2.2.2.2.2.1) q32.2.2.1))) + 1) * 24) ≤ 140737488355328))
                (cond ((decide (0 ≤ q32.2.2.2.2.2.1)) && ((decide (q32.2.2.2.2.2.1 ≤ ((List.length q32.2.2.1) : Int))) && (decide (((List.length q32.2.2.1) : Int) ≤ ((List.length q32.2.2.1) : Int)))))
                  (cond (decide ((((List.length ((List.drop 0 (List.take (Int.toNat q32.2.2.2.2.2.1) q32.2.2.1)) ++ [q32.2.2.2.2.2.2])) + (List.length (List.drop (Int.toNat q32.2.2.2.2.2.1) (List.take (List.length q32.2.2.1) q32.2.2.1)))) * 24) ≤ 140737488355328))
                    (some (.inl (q32.1, q32.2.1, ((List.drop 0 (List.take (Int.toNat q32.2.2.2.2.2.1) q32.2.2.1)) ++ [q32.2.2.2.2.2.2]) ++ (List.drop (Int.toNat q32.2.2.2.2.2.1) (List.take (List.length q32.2.2.1) q32.2.2.1)), q32.2.2.2.1, wr .i64 (q32.2.2.2.2.1 + 1))))
                    none)
                  none)
                none)
              none)
            none)
          none)
        none)
      none)
    none)
  (some (.inr (nodes, spots, out, k)))
def F25_l2 (nodes : (List Int)) (spots : Int) (out : (List Point)) (k : Int) (i : Int) : Option ((List Int) × Int × (List Point) × Int) :=
  loopN (S := ((List Int) × Int × (List Point) × Int × Int)) (O := ((List Int) × Int × (List Point) × Int)) (fun s => F25_s2 s.1 s.2.1 s.2.2.1 s.2.2.2.1 s.2.2.2.2) (nodes, spots, out, k, i)
def F25_s1 (nodes : (List Int)) (spots : Int) (out : (List Point)) (k : Int) : Option (((List Int) × Int × (List Point) × Int) ⊕ (List Point)) :=
  cond (decide (k < ((List.length nodes) : Int)))
  ((F25_l2 nodes spots out k 0).bind fun q33 =>
    some (.inl (q33.1, q33.2.1, q33.2.2.1, wr .i64 (q33.2.2.2 + 1))))
  (some (.inr out))
def F25_l1 (nodes : (List Int)) (spots : Int) (out : (List Point)) (k : Int) : Option (List Point) :=
  loopN (S := ((List Int) × Int × (List Point) × Int)) (O := (List Point)) (fun s => F25_s1 s.1 s.2.1 s.2.2.1 s.2.2.2) (nodes, spots, out, k)
def F25 (nodes : (List Int)) (spots : Int) : Option (List Point) :=
  (F25_l1 nodes spots [] 0).bind fun q34 =>
  some q34

-- tattle/tattleref13.Place
def F47_s1 (l : (List Point)) (h : Int) (i : Int) : Option (((List Point) × Int × Int) ⊕ (Int ⊕ Unit)) :=
  cond (decide (i < ((List.length l) : Int)))
  (cond ((decide (0 ≤ i)) && (decide (i < ((List.length l) : Int))))
    (cond (decide ((List.getD l (Int.toNat i) (0, 0, 0)).1 ≥ h))
      (some (.inr (.inl i)))
      (some (.inl (l, h, wr .i64 (i + 1)))))
    none)
  (some (.inr (.inr ())))
def F47_l1 (l : (List Point)) (h : Int) (i : Int) : Option (Int ⊕ Unit) :=
  loopN (S := ((List Point) × Int × Int)) (O := (Int ⊕ Unit)) (fun s => F47_s1 s.1 s.2.1 s.2.2) (l, h, i)
def F47 (l : (List Point)) (key : ByteArray) : Option Int :=
  (F38 [key]).bind fun q10 =>
  (F47_l1 l q10 0).bind
  (Sum.elim (fun q11 =>
    some q11)
  (fun q12 =>
    some 0))

-- tattle/tattleref13.Walk
def F26_s1 (l : (List Point)) (atv : Int) (i : Int) (out : (List Int)) : Option (((List Point) × Int × Int × (List Int)) ⊕ (List Int)) :=
  cond (decide (i < ((List.length l) : Int)))
  (cond (decide (((List.length l) : Int) = 0))
    none
    (cond ((decide (0 ≤ (Int.tmod (wr .i64 (atv + i)) ((List.length l) : Int)))) && (decide ((Int.tmod (wr .i64 (atv + i)) ((List.length l) : Int)) < ((List.length l) : Int))))
      ((F19 out (List.getD l (Int.toNat (Int.tmod (wr .i64 (atv + i)) ((List.length l) : Int))) (0, 0, 0)).2.1).bind fun q13 =>
        cond (q13 == 0)
        (cond (decide ((((List.length out) + 1) * 8) ≤ 140737488355328))
          (some (.inl (l, atv, wr .i64 (i + 1), out ++ [(List.getD l (Int.toNat (Int.tmod (wr .i64 (atv + i)) ((List.length l) : Int))) (0, 0, 0)).2.1])))
          none)
        (some (.inl (l, atv, wr .i64 (i + 1), out))))
      none))
  (some (.inr out))
def F26_l1 (l : (List Point)) (atv : Int) (i : Int) (out : (List Int)) : Option (List Int) :=
  loopN (S := ((List Point) × Int × Int × (List Int))) (O := (List Int)) (fun s => F26_s1 s.1 s.2.1 s.2.2.1 s.2.2.2) (l, atv, i, out)
def F26 (l : (List Point)) (key : ByteArray) : Option (List Int) :=
  (F47 l key).bind fun q12 =>
  (F26_l1 l q12 0 []).bind fun q14 =>
  some q14

-- tattle/tattleref14.Many
def F27_s1 (l : (List Put)) (node : Int) (n : Int) (i : Int) : Option (((List Put) × Int × Int × Int) ⊕ Int) :=
  cond (decide (i < ((List.length l) : Int)))
  (cond ((decide (0 ≤ i)) && (decide (i < ((List.length l) : Int))))
    (cond ((List.getD l (Int.toNat i) ((⟨#[]⟩ : ByteArray), 0)).2 == node)
      (some (.inl (l, node, wr .i64 (n + 1), wr .i64 (i + 1))))
      (some (.inl (l, node, n, wr .i64 (i + 1)))))
    none)
  (some (.inr n))
def F27_l1 (l : (List Put)) (node : Int) (n : Int) (i : Int) : Option Int :=
  loopN (S := ((List Put) × Int × Int × Int)) (O := Int) (fun s => F27_s1 s.1 s.2.1 s.2.2.1 s.2.2.2) (l, node, n, i)
def F27 (l : (List Put)) (node : Int) : Option Int :=
  (F27_l1 l node 0 0).bind fun q11 =>
  some q11

-- tattle/tattlelaw14.LoadFirst
def F5_s3 (most : Int) (points : (List Point)) (i : Int) (k : Int) (a : (List Put)) (walk : (List Int)) : Option ((Int × (List Point) × Int × Int × (List Put) × (List Int)) ⊕ (Bool ⊕ (Int × (List Point) × Int × (List Put)))) :=
  cond (decide (k < ((List.length walk) : Int)))
  (cond ((decide (0 ≤ k)) && (decide (k < ((List.length walk) : Int))))
    (cond ((decide (0 ≤ i)) && (decide (i < ((List.length a) : Int))))
      (cond ((List.getD walk (Int.toNat k) 0) != (List.getD a (Int.toNat i) ((⟨#[]⟩ : ByteArray), 0)).2)
        (cond ((decide (0 ≤ k)) && (decide (k < ((List.length walk) : Int))))
          ((F27 a (List.getD walk (Int.toNat k) 0)).bind fun q31 =>
            cond (q31 != most)
            (some (.inr (.inl false)))
            (some (.inl (most, points, i, wr .i64 (k + 1), a, walk))))
          none)
        (some (.inr (.inr (most, points, i, a)))))
      none)
    none)
  (some (.inr (.inr (most, points, i, a))))
def F5_l3 (most : Int) (points : (List Point)) (i : Int) (k : Int) (a : (List Put)) (walk : (List Int)) : Option (Bool ⊕ (Int × (List Point) × Int × (List Put))) :=
  loopN (S := (Int × (List Point) × Int × Int × (List Put) × (List Int))) (O := (Bool ⊕ (Int × (List Point) × Int × (List Put)))) (fun s => F5_s3 s.1 s.2.1 s.2.2.1 s.2.2.2.1 s.2.2.2.2.1 s.2.2.2.2.2) (most, points, i, k, a, walk)
def F5_s2 (most : Int) (points : (List Point)) (i : Int) (a : (List Put)) : Option ((Int × (List Point) × Int × (List Put)) ⊕ (Bool ⊕ Unit)) :=
  cond (decide (i < ((List.length a) : Int)))
  (cond ((decide (0 ≤ i)) && (decide (i < ((List.length a) : Int))))
    ((F26 points (List.getD a (Int.toNat i) ((⟨#[]⟩ : ByteArray), 0)).1).bind fun q30 =>
      (F5_l3 most points i 0 a q30).bind
      (Sum.elim (fun q32 =>
        some (.inr (.inl q32)))
      (fun q33 =>
        some (.inl (q33.1, q33.2.1, wr .i64 (q33.2.2.1 + 1), q33.2.2.2)))))
    none)
  (some (.inr (.inr ())))
def F5_l2 (most : Int) (points : (List Point)) (i : Int) (a : (List Put)) : Option (Bool ⊕ Unit) :=
  loopN (S := (Int × (List Point) × Int × (List Put))) (O := (Bool ⊕ Unit)) (fun s => F5_s2 s.1 s.2.1 s.2.2.1 s.2.2.2) (most, points, i, a)
def F5_j1 (most : Int) (t40 : Bool) (qv : (List Int)) (qv2 : Int) (qv3 : (List ByteArray)) (qv4 : (List Put)) (qv5 : Int) (a : (List Put)) : Option Bool :=
  cond t40
  (some false)
  ((F25 qv qv2).bind fun q29 =>
    (F5_l2 most q29 0 a).bind
    (Sum.elim (fun q34 =>
      some q34)
    (fun q35 =>
      (F22).bind fun q36 =>
      some q36)))
def F5 (qv : Ask) : Option Bool :=
  (F21 qv).bind fun q25 =>
  cond (!q25)
  ((F22).bind fun q26 =>
    some q26)
  ((F23 qv.1 qv.2.1 qv.2.2.1).bind fun q27 =>
    (F24 ((List.length qv.2.2.1) : Int) ((List.length qv.1) : Int)).bind fun q28 =>
    cond (q27.1 != 0)
    (F5_j1 q28.1 true qv.1 qv.2.1 qv.2.2.1 qv.2.2.2.1 qv.2.2.2.2 q27.2)
    (F5_j1 q28.1 (q28.2 != 0) qv.1 qv.2.1 qv.2.2.1 qv.2.2.2.1 qv.2.2.2.2 q27.2))

-- tattle/tattlelaw14.LoadOne
def F6_j3 (t86 : Bool) (qv : (List Int)) (qv2 : Int) (qv3 : (List ByteArray)) (qv4 : (List Put)) (qv5 : Int) (b : (List Put)) : Option Bool :=
  cond t86
  (some false)
  (cond (decide (0 < ((List.length qv) : Int)))
    ((F27 b (List.getD qv 0 0)).bind fun q20 =>
      cond (q20 == ((List.length qv3) : Int))
      ((F22).bind fun q21 =>
        some q21)
      (some false))
    none)
def F6_j2 (t65 : Bool) (qv : (List Int)) (qv2 : Int) (qv3 : (List ByteArray)) (qv4 : (List Put)) (qv5 : Int) : Option Bool :=
  cond t65
  (some false)
  (cond (decide (1 ≤ ((List.length qv) : Int)))
    ((F23 (List.drop 0 (List.take 1 qv)) qv2 qv3).bind fun q19 =>
      cond (q19.1 != 0)
      (F6_j3 true qv qv2 qv3 qv4 qv5 q19.2)
      (F6_j3 (((List.length q19.2) : Int) != ((List.length qv3) : Int)) qv qv2 qv3 qv4 qv5 q19.2))
    none)
def F6_j1 (which : Int) (t19 : Bool) (qv : (List Int)) (qv2 : Int) (qv3 : (List ByteArray)) (qv4 : (List Put)) (qv5 : Int) : Option Bool :=
  cond t19
  ((F22).bind fun q15 =>
    some q15)
  (cond (decide (((List.length qv3) : Int) = 0))
    none
    (cond ((decide (0 ≤ (Int.tmod (wr .i64 which) ((List.length qv3) : Int)))) && (decide ((Int.tmod (wr .i64 which) ((List.length qv3) : Int)) < ((List.length qv3) : Int))))
      ((F23 qv qv2 [List.getD qv3 (Int.toNat (Int.tmod (wr .i64 which) ((List.length qv3) : Int))) (⟨#[]⟩ : ByteArray)]).bind fun q16 =>
        (F25 qv qv2).bind fun q17 =>
        (F26 q17 (List.getD qv3 (Int.toNat (Int.tmod (wr .i64 which) ((List.length qv3) : Int))) (⟨#[]⟩ : ByteArray))).bind fun q18 =>
        cond (q16.1 != 0)
        (F6_j2 true qv qv2 qv3 qv4 qv5)
        (cond (((List.length q16.2) : Int) != 1)
          (F6_j2 true qv qv2 qv3 qv4 qv5)
          (cond (decide (0 < ((List.length q16.2) : Int)))
            (cond (decide (0 < ((List.length q18) : Int)))
              (F6_j2 (!(((List.getD q16.2 0 ((⟨#[]⟩ : ByteArray), 0)).1 == (List.getD qv3 (Int.toNat (Int.tmod (wr .i64 which) ((List.length qv3) : Int))) (⟨#[]⟩ : ByteArray))) && ((List.getD q16.2 0 ((⟨#[]⟩ : ByteArray), 0)).2 == (List.getD q18 0 0)))) qv qv2 qv3 qv4 qv5)
              none)
            none)))
      none))
def F6 (qv : Ask) (which : Int) : Option Bool :=
  (F21 qv).bind fun q14 =>
  cond (!q14)
  (F6_j1 which true qv.1 qv.2.1 qv.2.2.1 qv.2.2.2.1 qv.2.2.2.2)
  (F6_j1 which (((List.length qv.2.2.1) : Int) == 0) qv.1 qv.2.1 qv.2.2.1 qv.2.2.2.1 qv.2.2.2.2)

-- tattle/tattlelaw14.LoadAhead
def F7_j2 (k : Int) (xv : Int) (y : Int) (t96 : Bool) (a : (List Put)) (b : (List Put)) : Option Bool :=
  cond t96
  (some false)
  (cond (xv != y)
    ((F22).bind fun q15 =>
      some q15)
    (cond ((decide (0 ≤ k)) && (decide (k ≤ ((List.length a) : Int))))
      ((F28 (List.drop 0 (List.take (Int.toNat k) a)) b).bind fun q16 =>
        cond q16
        ((F22).bind fun q17 =>
          some q17)
        (some false))
      none))
def F7_j1 (t20 : Bool) (qv : (List Int)) (qv2 : Int) (qv3 : (List ByteArray)) (qv4 : (List Put)) (qv5 : Int) : Option Bool :=
  cond t20
  ((F22).bind fun q10 =>
    some q10)
  ((F23 qv qv2 qv3).bind fun q11 =>
    cond ((decide (0 ≤ (wr .i64 (((List.length qv3) : Int) - 1)))) && (decide ((wr .i64 (((List.length qv3) : Int) - 1)) ≤ ((List.length qv3) : Int))))
    ((F23 qv qv2 (List.drop 0 (List.take (Int.toNat (wr .i64 (((List.length qv3) : Int) - 1))) qv3))).bind fun q12 =>
      (F24 (wr .i64 ((wr .i64 (((List.length qv3) : Int) - 1)) + 1)) ((List.length qv) : Int)).bind fun q13 =>
      (F24 (wr .i64 (((List.length qv3) : Int) - 1)) ((List.length qv) : Int)).bind fun q14 =>
      cond (q11.1 != 0)
      (F7_j2 (wr .i64 (((List.length qv3) : Int) - 1)) q13.1 q14.1 true q11.2 q12.2)
      (cond (q12.1 != 0)
        (F7_j2 (wr .i64 (((List.length qv3) : Int) - 1)) q13.1 q14.1 true q11.2 q12.2)
        (cond (q13.2 != 0)
          (F7_j2 (wr .i64 (((List.length qv3) : Int) - 1)) q13.1 q14.1 true q11.2 q12.2)
          (cond (q14.2 != 0)
            (F7_j2 (wr .i64 (((List.length qv3) : Int) - 1)) q13.1 q14.1 true q11.2 q12.2)
            (cond (((List.length q11.2) : Int) != (wr .i64 ((wr .i64 (((List.length qv3) : Int) - 1)) + 1)))
              (F7_j2 (wr .i64 (((List.length qv3) : Int) - 1)) q13.1 q14.1 true q11.2 q12.2)
              (cond (decide (q13.1 < q14.1))
                (F7_j2 (wr .i64 (((List.length qv3) : Int) - 1)) q13.1 q14.1 true q11.2 q12.2)
                (F7_j2 (wr .i64 (((List.length qv3) : Int) - 1)) q13.1 q14.1 (decide (q13.1 > (wr .i64 (q14.1 + 2)))) q11.2 q12.2)))))))
    none)
def F7 (qv : Ask) : Option Bool :=
  (F21 qv).bind fun q9 =>
  cond (!q9)
  (F7_j1 true qv.1 qv.2.1 qv.2.2.1 qv.2.2.2.1 qv.2.2.2.2)
  (F7_j1 (((List.length qv.2.2.1) : Int) == 0) qv.1 qv.2.1 qv.2.2.1 qv.2.2.2.1 qv.2.2.2.2)

-- tattle/tattlelaw14.LoadMost
def F8 (t : Int) (n : Int) : Option Bool :=
  (F24 (wr .i64 (Int.tmod t 100)) (wr .i64 (1 + (wr .i64 (Int.tmod n 63))))).bind fun q1 =>
  (F24 (wr .i64 ((wr .i64 (Int.tmod t 100)) + 1)) (wr .i64 (1 + (wr .i64 (Int.tmod n 63))))).bind fun q2 =>
  (F24 (wr .i64 (Int.tmod t 100)) (wr .i64 ((wr .i64 (1 + (wr .i64 (Int.tmod n 63)))) + 1))).bind fun q3 =>
  cond (q1.2 == 0)
  (cond (q2.2 == 0)
    (cond (q3.2 == 0)
      (cond (decide (q2.1 ≥ q1.1))
        (cond (decide (q3.1 ≤ q1.1))
          (cond (decide ((wr .i64 ((wr .i64 (4 * (wr .i64 (1 + (wr .i64 (Int.tmod n 63)))))) * q1.1)) ≥ (wr .i64 (5 * (wr .i64 (Int.tmod t 100))))))
            (cond ((wr .i64 (Int.tmod t 100)) == 0)
              (cond ((decide (q1.1 > 0)) == (decide ((wr .i64 (Int.tmod t 100)) > 0)))
                ((F22).bind fun q4 =>
                  some q4)
                (some false))
              (cond (decide ((wr .i64 ((wr .i64 (4 * (wr .i64 (1 + (wr .i64 (Int.tmod n 63)))))) * (wr .i64 (q1.1 - 1)))) < (wr .i64 (5 * (wr .i64 (Int.tmod t 100))))))
                (cond ((decide (q1.1 > 0)) == (decide ((wr .i64 (Int.tmod t 100)) > 0)))
                  ((F22).bind fun q5 =>
                    some q5)
                  (some false))
                (some false)))
            (some false))
          (some false))
        (some false))
      (some false))
    (some false))
  (some false)

-- tattle/tattlelaw14.Few
def F29_j2 (l : (List ByteArray)) (i : Int) (t13 : Bool) (out : (List ByteArray)) : Option (((List ByteArray) × Int × (List ByteArray)) ⊕ (List ByteArray)) :=
  cond t13
  (cond ((decide (0 ≤ i)) && (decide (i < ((List.length l) : Int))))
    (cond (decide (((ByteArray.size (List.getD l (Int.toNat i) (⟨#[]⟩ : ByteArray))) : Int) > 21))
      (cond (decide (21 ≤ ((ByteArray.size (List.getD l (Int.toNat i) (⟨#[]⟩ : ByteArray))) : Int)))
        (cond (decide ((((List.length out) + 1) * 16) ≤ 140737488355328))
          (some (.inl (l, wr .i64 (i + 1), out ++ [ByteArray.extract (List.getD l (Int.toNat i) (⟨#[]⟩ : ByteArray)) 0 21])))
          none)
        none)
      (cond (decide ((((List.length out) + 1) * 16) ≤ 140737488355328))
        (some (.inl (l, wr .i64 (i + 1), out ++ [List.getD l (Int.toNat i) (⟨#[]⟩ : ByteArray)])))
        none))
    none)
  (some (.inr out))
def F29_s1 (l : (List ByteArray)) (i : Int) (out : (List ByteArray)) : Option (((List ByteArray) × Int × (List ByteArray)) ⊕ (List ByteArray)) :=
  cond (decide (i < ((List.length l) : Int)))
  (F29_j2 l i (decide (i < 101)) out)
  (F29_j2 l i false out)
def F29_l1 (l : (List ByteArray)) (i : Int) (out : (List ByteArray)) : Option (List ByteArray) :=
  loopN (S := ((List ByteArray) × Int × (List ByteArray))) (O := (List ByteArray)) (fun s => F29_s1 s.1 s.2.1 s.2.2) (l, i, out)
def F29 (l : (List ByteArray)) : Option (List ByteArray) :=
  (F29_l1 l 0 []).bind fun q2 =>
  some q2

-- tattle/load.Check
def F33_s1 (t6 : (List Put)) (t7 : Int) (t8 : Int) (names : (List ByteArray)) : Option (((List Put) × Int × Int × (List ByteArray)) ⊕ (Int ⊕ (List ByteArray))) :=
  cond (decide (t8 < t7))
  (cond ((decide (0 ≤ t8)) && (decide (t8 < ((List.length t6) : Int))))
    (cond (decide ((List.getD t6 (Int.toNat t8) ((⟨#[]⟩ : ByteArray), 0)).2 < 0))
      (some (.inr (.inl 1)))
      (cond (decide ((List.getD t6 (Int.toNat t8) ((⟨#[]⟩ : ByteArray), 0)).2 ≥ 64))
        (some (.inr (.inl 1)))
        (cond (decide ((((List.length names) + 1) * 16) ≤ 140737488355328))
          (some (.inl (t6, t7, wr .i64 (t8 + 1), names ++ [(List.getD t6 (Int.toNat t8) ((⟨#[]⟩ : ByteArray), 0)).1])))
          none)))
    none)
  (some (.inr (.inr names)))
def F33_l1 (t6 : (List Put)) (t7 : Int) (t8 : Int) (names : (List ByteArray)) : Option (Int ⊕ (List ByteArray)) :=
  loopN (S := ((List Put) × Int × Int × (List ByteArray))) (O := (Int ⊕ (List ByteArray))) (fun s => F33_s1 s.1 s.2.1 s.2.2.1 s.2.2.2) (t6, t7, t8, names)
def F33 (l : (List Put)) : Option Int :=
  (F33_l1 l ((List.length l) : Int) 0 []).bind
  (Sum.elim (fun q9 =>
    some q9)
  (fun q10 =>
    (F34 q10).bind fun q11 =>
    some q11))

-- cmp.isNaN[string]
def F66 (xv : ByteArray) : Option Bool :=
  some (!((ByteArray.toList xv) == (ByteArray.toList xv)))

-- cmp.Compare[string]
def F50 (xv : ByteArray) (y : ByteArray) : Option Int :=
  (F66 xv).bind fun q10 =>
  (F66 y).bind fun q11 =>
  cond q10
  (cond q11
    (some 0)
    (some (-1)))
  (cond q11
    (some 1)
    (cond (Op.bytesLess (ByteArray.toList xv) (ByteArray.toList y))
      (some (-1))
      (cond (!((Op.bytesLess (ByteArray.toList xv) (ByteArray.toList y)) || ((ByteArray.toList xv) == (ByteArray.toList y))))
        (some 1)
        (some 0))))

-- tattle/load.Of$1
def F49 (p : Put) (s : ByteArray) : Option Int :=
  (F50 p.1 s).bind fun q10 =>
  some q10

-- slices.BinarySearchFunc[[]tattle/api.Put,tattle/api.Put,string]
def F48_s1 (xv : (List Put)) (target : ByteArray) (n : Int) (i : Int) (j : Int) : Option (((List Put) × ByteArray × Int × Int × Int) ⊕ ((List Put) × ByteArray × Int × Int)) :=
  cond (decide (i < j))
  (cond ((decide (0 ≤ (wr .i64 (Int.fdiv (wr .u64 (wr .i64 (i + j))) (pow2 1))))) && (decide ((wr .i64 (Int.fdiv (wr .u64 (wr .i64 (i + j))) (pow2 1))) < ((List.length xv) : Int))))
    ((F49 (List.getD xv (Int.toNat (wr .i64 (Int.fdiv (wr .u64 (wr .i64 (i + j))) (pow2 1)))) ((⟨#[]⟩ : ByteArray), 0)) target).bind fun q10 =>
      cond (decide (q10 < 0))
      (some (.inl (xv, target, n, wr .i64 ((wr .i64 (Int.fdiv (wr .u64 (wr .i64 (i + j))) (pow2 1))) + 1), j)))
      (some (.inl (xv, target, n, i, wr .i64 (Int.fdiv (wr .u64 (wr .i64 (i + j))) (pow2 1))))))
    none)
  (some (.inr (xv, target, n, i)))
def F48_l1 (xv : (List Put)) (target : ByteArray) (n : Int) (i : Int) (j : Int) : Option ((List Put) × ByteArray × Int × Int) :=
  loopN (S := ((List Put) × ByteArray × Int × Int × Int)) (O := ((List Put) × ByteArray × Int × Int)) (fun s => F48_s1 s.1 s.2.1 s.2.2.1 s.2.2.2.1 s.2.2.2.2) (xv, target, n, i, j)
def F48 (xv : (List Put)) (target : ByteArray) : Option (Int × Bool) :=
  (F48_l1 xv target ((List.length xv) : Int) 0 ((List.length xv) : Int)).bind fun q11 =>
  cond (decide (q11.2.2.2 < q11.2.2.1))
  (cond ((decide (0 ≤ q11.2.2.2)) && (decide (q11.2.2.2 < ((List.length q11.1) : Int))))
    ((F49 (List.getD q11.1 (Int.toNat q11.2.2.2) ((⟨#[]⟩ : ByteArray), 0)) q11.2.1).bind fun q12 =>
      some (q11.2.2.2, q12 == 0))
    none)
  (some (q11.2.2.2, false))

-- tattle/load.Of
def F31 (l : (List Put)) (task : ByteArray) : Option (Int × Int) :=
  (F33 l).bind fun q9 =>
  cond (q9 != 0)
  (some (0, q9))
  ((F48 l task).bind fun q10 =>
    cond (!q10.2)
    (some (0, 6))
    (cond ((decide (0 ≤ q10.1)) && (decide (q10.1 < ((List.length l) : Int))))
      (some ((List.getD l (Int.toNat q10.1) ((⟨#[]⟩ : ByteArray), 0)).2, 0))
      none))

-- tattle/tattleref14.May
def F32_j2 (t2 : Bool) : Option (((List Put) × Int × (List ByteArray)) ⊕ (Bool ⊕ (List ByteArray))) :=
  some (.inr (.inl t2))
def F32_s1 (l : (List Put)) (i : Int) (names : (List ByteArray)) : Option (((List Put) × Int × (List ByteArray)) ⊕ (Bool ⊕ (List ByteArray))) :=
  cond (decide (i < ((List.length l) : Int)))
  (cond ((decide (0 ≤ i)) && (decide (i < ((List.length l) : Int))))
    (cond (decide ((List.getD l (Int.toNat i) ((⟨#[]⟩ : ByteArray), 0)).2 < 0))
      (F32_j2 false)
      (cond ((decide (0 ≤ i)) && (decide (i < ((List.length l) : Int))))
        (cond (decide ((List.getD l (Int.toNat i) ((⟨#[]⟩ : ByteArray), 0)).2 > 63))
          (F32_j2 false)
          (cond ((decide (0 ≤ i)) && (decide (i < ((List.length l) : Int))))
            (cond (decide ((((List.length names) + 1) * 16) ≤ 140737488355328))
              (some (.inl (l, wr .i64 (i + 1), names ++ [(List.getD l (Int.toNat i) ((⟨#[]⟩ : ByteArray), 0)).1])))
              none)
            none))
        none))
    none)
  (some (.inr (.inr names)))
def F32_l1 (l : (List Put)) (i : Int) (names : (List ByteArray)) : Option (Bool ⊕ (List ByteArray)) :=
  loopN (S := ((List Put) × Int × (List ByteArray))) (O := (Bool ⊕ (List ByteArray))) (fun s => F32_s1 s.1 s.2.1 s.2.2) (l, i, names)
def F32 (l : (List Put)) : Option Bool :=
  (F32_l1 l 0 []).bind
  (Sum.elim (fun q11 =>
    some q11)
  (fun q12 =>
    (F35 q12).bind fun q13 =>
    some q13))

-- tattle/tattleref14.Bound
def F30_s1 (t : Int) (n : Int) (k : Int) : Option ((Int × Int × Int) ⊕ Int) :=
  cond (decide ((wr .i64 ((wr .i64 (4 * n)) * k)) < (wr .i64 (5 * t))))
  (some (.inl (t, n, wr .i64 (k + 1))))
  (some (.inr k))
def F30_l1 (t : Int) (n : Int) (k : Int) : Option Int :=
  loopN (S := (Int × Int × Int)) (O := Int) (fun s => F30_s1 s.1 s.2.1 s.2.2) (t, n, k)
def F30 (t : Int) (n : Int) : Option Int :=
  (F30_l1 t n 0).bind fun q67 =>
  some q67

-- tattle/tattleref14.Assign
def F36_s2 (nodes : (List Int)) (l : (List ByteArray)) (points : (List Point)) (i : Int) (k : Int) (out : (List Put)) (walk : (List Int)) : Option (((List Int) × (List ByteArray) × (List Point) × Int × Int × (List Put) × (List Int)) ⊕ ((List Int) × (List ByteArray) × (List Point) × Int × Int × (List Put) × (List Int))) :=
  cond ((decide (0 ≤ k)) && (decide (k < ((List.length walk) : Int))))
  ((F27 out (List.getD walk (Int.toNat k) 0)).bind fun q71 =>
    (F30 ((List.length l) : Int) ((List.length nodes) : Int)).bind fun q72 =>
    cond (decide (q71 ≥ q72))
    (some (.inl (nodes, l, points, i, wr .i64 (k + 1), out, walk)))
    (some (.inr (nodes, l, points, i, k, out, walk))))
  none
def F36_l2 (nodes : (List Int)) (l : (List ByteArray)) (points : (List Point)) (i : Int) (k : Int) (out : (List Put)) (walk : (List Int)) : Option ((List Int) × (List ByteArray) × (List Point) × Int × Int × (List Put) × (List Int)) :=
  loopN (S := ((List Int) × (List ByteArray) × (List Point) × Int × Int × (List Put) × (List Int))) (O := ((List Int) × (List ByteArray) × (List Point) × Int × Int × (List Put) × (List Int))) (fun s => F36_s2 s.1 s.2.1 s.2.2.1 s.2.2.2.1 s.2.2.2.2.1 s.2.2.2.2.2.1 s.2.2.2.2.2.2) (nodes, l, points, i, k, out, walk)
def F36_s1 (nodes : (List Int)) (l : (List ByteArray)) (points : (List Point)) (i : Int) (out : (List Put)) : Option (((List Int) × (List ByteArray) × (List Point) × Int × (List Put)) ⊕ (List Put)) :=
  cond (decide (i < ((List.length l) : Int)))
  (cond ((decide (0 ≤ i)) && (decide (i < ((List.length l) : Int))))
    ((F26 points (List.getD l (Int.toNat i) (⟨#[]⟩ : ByteArray))).bind fun q70 =>
      (F36_l2 nodes l points i 0 out q70).bind fun q73 =>
      cond ((decide (0 ≤ q73.2.2.2.1)) && (decide (q73.2.2.2.1 < ((List.length q73.2.1) : Int))))
      (cond ((decide (0 ≤ q73.2.2.2.2.1)) && (decide (q73.2.2.2.2.1 < ((List.length q73.2.2.2.2.2.2) : Int))))
        (cond (decide ((((List.length q73.2.2.2.2.2.1) + 1) * 24) ≤ 140737488355328))
          (some (.inl (q73.1, q73.2.1, q73.2.2.1, wr .i64 (q73.2.2.2.1 + 1), q73.2.2.2.2.2.1 ++ [(List.getD q73.2.1 (Int.toNat q73.2.2.2.1) (⟨#[]⟩ : ByteArray), List.getD q73.2.2.2.2.2.2 (Int.toNat q73.2.2.2.2.1) 0)])))
          none)
        none)
      none)
    none)
  (some (.inr out))
def F36_l1 (nodes : (List Int)) (l : (List ByteArray)) (points : (List Point)) (i : Int) (out : (List Put)) : Option (List Put) :=
  loopN (S := ((List Int) × (List ByteArray) × (List Point) × Int × (List Put))) (O := (List Put)) (fun s => F36_s1 s.1 s.2.1 s.2.2.1 s.2.2.2.1 s.2.2.2.2) (nodes, l, points, i, out)
def F36 (nodes : (List Int)) (spots : Int) (l : (List ByteArray)) : Option (List Put) :=
  (F25 nodes spots).bind fun q69 =>
  (F36_l1 nodes l q69 0 []).bind fun q74 =>
  some q74

-- tattle/tattlelaw14.LoadTells
def F9_s10 (nodes : (List Int)) (l : (List ByteArray)) (puts : (List Put)) (task : ByteArray) (n : Int) (f : Int) (want : Int) (found : Int) (i : Int) (qv : (List Int)) (qv2 : Int) (qv3 : (List ByteArray)) (qv4 : (List Put)) (qv5 : Int) : Option (((List Int) × (List ByteArray) × (List Put) × ByteArray × Int × Int × Int × Int × Int × (List Int) × Int × (List ByteArray) × (List Put) × Int) ⊕ ((List Int) × (List ByteArray) × (List Put) × Int × Int × Int × Int × (List Int) × Int × (List ByteArray) × (List Put) × Int)) :=
  cond (decide (i < ((List.length puts) : Int)))
  (cond ((decide (0 ≤ i)) && (decide (i < ((List.length puts) : Int))))
    (cond ((ByteArray.toList (List.getD puts (Int.toNat i) ((⟨#[]⟩ : ByteArray), 0)).1) == (ByteArray.toList task))
      (cond ((decide (0 ≤ i)) && (decide (i < ((List.length puts) : Int))))
        (some (.inl (nodes, l, puts, task, n, f, (List.getD puts (Int.toNat i) ((⟨#[]⟩ : ByteArray), 0)).2, 0, wr .i64 (i + 1), qv, qv2, qv3, qv4, qv5)))
        none)
      (some (.inl (nodes, l, puts, task, n, f, want, found, wr .i64 (i + 1), qv, qv2, qv3, qv4, qv5))))
    none)
  (some (.inr (nodes, l, puts, n, f, want, found, qv, qv2, qv3, qv4, qv5)))
def F9_l10 (nodes : (List Int)) (l : (List ByteArray)) (puts : (List Put)) (task : ByteArray) (n : Int) (f : Int) (want : Int) (found : Int) (i : Int) (qv : (List Int)) (qv2 : Int) (qv3 : (List ByteArray)) (qv4 : (List Put)) (qv5 : Int) : Option ((List Int) × (List ByteArray) × (List Put) × Int × Int × Int × Int × (List Int) × Int × (List ByteArray) × (List Put) × Int) :=
  loopN (S := ((List Int) × (List ByteArray) × (List Put) × ByteArray × Int × Int × Int × Int × Int × (List Int) × Int × (List ByteArray) × (List Put) × Int)) (O := ((List Int) × (List ByteArray) × (List Put) × Int × Int × Int × Int × (List Int) × Int × (List ByteArray) × (List Put) × Int)) (fun s => F9_s10 s.1 s.2.1 s.2.2.1 s.2.2.2.1 s.2.2.2.2.1 s.2.2.2.2.2.1 s.2.2.2.2.2.2.1 s.2.2.2.2.2.2.2.1 s.2.2.2.2.2.2.2.2.1 s.2.2.2.2.2.2.2.2.2.1 s.2.2.2.2.2.2.2.2.2.2.1 s.2.2.2.2.2.2.2.2.2.2.2.1 s.2.2.2.2.2.2.2.2.2.2.2.2.1 s.2.2.2.2.2.2.2.2.2.2.2.2.2) (nodes, l, puts, task, n, f, want, found, i, qv, qv2, qv3, qv4, qv5)
def F9_j14 (t2 : Bool) : Option Bool :=
  some t2
def F9_j15 (t2 : Bool) : Option Bool :=
  some t2
def F9_j13 (nodes : (List Int)) (l : (List ByteArray)) (g : Int) (t173 : Bool) (qv : (List Int)) (qv2 : Int) (qv3 : (List ByteArray)) (qv4 : (List Put)) (qv5 : Int) (a : (List Put)) : Option Bool :=
  cond t173
  (cond (((List.length a) : Int) == 0)
    (cond (g == 1)
      ((F22).bind fun q279 =>
        F9_j14 q279)
      (F9_j14 false))
    (F9_j14 false))
  (cond (((List.length nodes) : Int) == 0)
    (cond (((List.length a) : Int) == 0)
      (cond (g == 6)
        ((F22).bind fun q280 =>
          F9_j15 q280)
        (F9_j15 false))
      (F9_j15 false))
    ((F36 nodes qv2 l).bind fun q281 =>
      (F28 a q281).bind fun q282 =>
      cond q282
      (cond (g == 0)
        ((F22).bind fun q283 =>
          some q283)
        (some false))
      (some false)))
def F9_j12 (nodes : (List Int)) (l : (List ByteArray)) (t147 : Bool) (qv : (List Int)) (qv2 : Int) (qv3 : (List ByteArray)) (qv4 : (List Put)) (qv5 : Int) : Option Bool :=
  cond t147
  (some false)
  ((F23 nodes qv2 l).bind fun q277 =>
    (F14 nodes).bind fun q278 =>
    cond (!q278)
    (F9_j13 nodes l q277.1 true qv qv2 qv3 qv4 qv5 q277.2)
    (cond (decide (qv2 < 1))
      (F9_j13 nodes l q277.1 true qv qv2 qv3 qv4 qv5 q277.2)
      (cond (decide (qv2 > 32))
        (F9_j13 nodes l q277.1 true qv qv2 qv3 qv4 qv5 q277.2)
        ((F35 l).bind fun q284 =>
          F9_j13 nodes l q277.1 (!q284) qv qv2 qv3 qv4 qv5 q277.2))))
def F9_j11 (nodes : (List Int)) (l : (List ByteArray)) (puts : (List Put)) (n : Int) (f : Int) (want : Int) (found : Int) (qv : (List Int)) (qv2 : Int) (qv3 : (List ByteArray)) (qv4 : (List Put)) (qv5 : Int) : Option Bool :=
  (F33 puts).bind fun q275 =>
  (F32 puts).bind fun q276 =>
  cond (!((q275 == 0) == q276))
  (F9_j12 nodes l true qv qv2 qv3 qv4 qv5)
  (cond (n != want)
    (F9_j12 nodes l true qv qv2 qv3 qv4 qv5)
    (cond (f != found)
      (F9_j12 nodes l true qv qv2 qv3 qv4 qv5)
      ((F34 l).bind fun q285 =>
        (F35 l).bind fun q286 =>
        F9_j12 nodes l (!((q285 == 0) == q286)) qv qv2 qv3 qv4 qv5)))
def F9_j9 (nodes : (List Int)) (l : (List ByteArray)) (puts : (List Put)) (task : ByteArray) (qv : (List Int)) (qv2 : Int) (qv3 : (List ByteArray)) (qv4 : (List Put)) (qv5 : Int) : Option Bool :=
  (F31 puts task).bind fun q272 =>
  (F9_l10 nodes l puts task q272.1 q272.2 0 6 0 qv qv2 qv3 qv4 qv5).bind fun q273 =>
  (F32 q273.2.2.1).bind fun q274 =>
  cond (!q274)
  (F9_j11 q273.1 q273.2.1 q273.2.2.1 q273.2.2.2.1 q273.2.2.2.2.1 0 1 q273.2.2.2.2.2.2.2.1 q273.2.2.2.2.2.2.2.2.1 q273.2.2.2.2.2.2.2.2.2.1 q273.2.2.2.2.2.2.2.2.2.2.1 q273.2.2.2.2.2.2.2.2.2.2.2)
  (F9_j11 q273.1 q273.2.1 q273.2.2.1 q273.2.2.2.1 q273.2.2.2.2.1 q273.2.2.2.2.2.1 q273.2.2.2.2.2.2.1 q273.2.2.2.2.2.2.2.1 q273.2.2.2.2.2.2.2.2.1 q273.2.2.2.2.2.2.2.2.2.1 q273.2.2.2.2.2.2.2.2.2.2.1 q273.2.2.2.2.2.2.2.2.2.2.2)
def F9_j8 (nodes : (List Int)) (l : (List ByteArray)) (puts : (List Put)) (qv : (List Int)) (qv2 : Int) (qv3 : (List ByteArray)) (qv4 : (List Put)) (qv5 : Int) : Option Bool :=
  cond (decide (((List.length l) : Int) > 0))
  (cond (decide (0 < ((List.length l) : Int)))
    (F9_j9 nodes l puts (List.getD l 0 (⟨#[]⟩ : ByteArray)) qv qv2 qv3 qv4 qv5)
    none)
  (F9_j9 nodes l puts (⟨#[]⟩ : ByteArray) qv qv2 qv3 qv4 qv5)
def F9_j7 (nodes : (List Int)) (l : (List ByteArray)) (puts : (List Put)) (t79 : Bool) (qv : (List Int)) (qv2 : Int) (qv3 : (List ByteArray)) (qv4 : (List Put)) (qv5 : Int) : Option Bool :=
  cond t79
  (some false)
  (F9_j8 nodes l puts qv qv2 qv3 qv4 qv5)
def F9_j16 (nodes : (List Int)) (l : (List ByteArray)) (puts : (List Put)) (t90 : Bool) (qv : (List Int)) (qv2 : Int) (qv3 : (List ByteArray)) (qv4 : (List Put)) (qv5 : Int) : Option Bool :=
  cond t90
  (some false)
  (F9_j8 nodes l puts qv qv2 qv3 qv4 qv5)
def F9_j6 (nodes : (List Int)) (l : (List ByteArray)) (puts : (List Put)) (b : Int) (e : Int) (t73 : Bool) (qv : (List Int)) (qv2 : Int) (qv3 : (List ByteArray)) (qv4 : (List Put)) (qv5 : Int) : Option Bool :=
  cond t73
  (cond (b != 0)
    (F9_j7 nodes l puts true qv qv2 qv3 qv4 qv5)
    (F9_j7 nodes l puts (e != 1) qv qv2 qv3 qv4 qv5))
  ((F30 qv5 qv2).bind fun q287 =>
    cond (b != q287)
    (F9_j16 nodes l puts true qv qv2 qv3 qv4 qv5)
    (F9_j16 nodes l puts (e != 0) qv qv2 qv3 qv4 qv5))
def F9_j5 (nodes : (List Int)) (l : (List ByteArray)) (puts : (List Put)) (qv : (List Int)) (qv2 : Int) (qv3 : (List ByteArray)) (qv4 : (List Put)) (qv5 : Int) : Option Bool :=
  (F24 qv5 qv2).bind fun q271 =>
  cond (decide (qv5 < 0))
  (F9_j6 nodes l puts q271.1 q271.2 true qv qv2 qv3 qv4 qv5)
  (cond (decide (qv5 > 100))
    (F9_j6 nodes l puts q271.1 q271.2 true qv qv2 qv3 qv4 qv5)
    (cond (decide (qv2 < 1))
      (F9_j6 nodes l puts q271.1 q271.2 true qv qv2 qv3 qv4 qv5)
      (F9_j6 nodes l puts q271.1 q271.2 (decide (qv2 > 64)) qv qv2 qv3 qv4 qv5)))
def F9_j4 (nodes : (List Int)) (l : (List ByteArray)) (qv : (List Int)) (qv2 : Int) (qv3 : (List ByteArray)) (qv4 : (List Put)) (qv5 : Int) : Option Bool :=
  cond (decide (((List.length qv4) : Int) > 101))
  (cond (decide (101 ≤ ((List.length qv4) : Int)))
    (F9_j5 nodes l (List.drop 0 (List.take 101 qv4)) qv qv2 qv3 qv4 qv5)
    none)
  (F9_j5 nodes l qv4 qv qv2 qv3 qv4 qv5)
def F9_j3 (nodes : (List Int)) (t38 : Bool) (qv : (List Int)) (qv2 : Int) (qv3 : (List ByteArray)) (qv4 : (List Put)) (qv5 : Int) (l : (List ByteArray)) : Option Bool :=
  cond t38
  (cond (decide (12 ≤ ((List.length l) : Int)))
    (F9_j4 nodes (List.drop 0 (List.take 12 l)) qv qv2 qv3 qv4 qv5)
    none)
  (F9_j4 nodes l qv qv2 qv3 qv4 qv5)
def F9_j2 (nodes : (List Int)) (qv : (List Int)) (qv2 : Int) (qv3 : (List ByteArray)) (qv4 : (List Put)) (qv5 : Int) (l : (List ByteArray)) : Option Bool :=
  cond (decide (((List.length l) : Int) > 12))
  (F9_j3 nodes (decide (((List.length l) : Int) ≤ 100)) qv qv2 qv3 qv4 qv5 l)
  (F9_j3 nodes false qv qv2 qv3 qv4 qv5 l)
def F9_j1 (nodes : (List Int)) (t28 : Bool) (qv : (List Int)) (qv2 : Int) (qv3 : (List ByteArray)) (qv4 : (List Put)) (qv5 : Int) (l : (List ByteArray)) : Option Bool :=
  cond t28
  (cond (decide (6 ≤ ((List.length nodes) : Int)))
    (F9_j2 (List.drop 0 (List.take 6 nodes)) qv qv2 qv3 qv4 qv5 l)
    none)
  (F9_j2 nodes qv qv2 qv3 qv4 qv5 l)
def F9 (qv : Ask) : Option Bool :=
  (F12 qv.1).bind fun q268 =>
  (F29 qv.2.2.1).bind fun q269 =>
  cond (decide (((List.length q268) : Int) > 6))
  ((F14 q268).bind fun q270 =>
    F9_j1 q268 q270 qv.1 qv.2.1 qv.2.2.1 qv.2.2.2.1 qv.2.2.2.2 q269)
  (F9_j1 q268 false qv.1 qv.2.1 qv.2.2.1 qv.2.2.2.1 qv.2.2.2.2 q269)

-- tattle/tattlelaw14.LoadBounds
def F10_j3 (t2 : Bool) : Option ((Int × Int × (List Int) × Int × (List ByteArray) × (List Put) × Int × (List Put)) ⊕ (Bool ⊕ (Int × (List Int) × Int × (List ByteArray) × (List Put) × Int))) :=
  some (.inr (.inl t2))
def F10_s2 (most : Int) (i : Int) (qv : (List Int)) (qv2 : Int) (qv3 : (List ByteArray)) (qv4 : (List Put)) (qv5 : Int) (a : (List Put)) : Option ((Int × Int × (List Int) × Int × (List ByteArray) × (List Put) × Int × (List Put)) ⊕ (Bool ⊕ (Int × (List Int) × Int × (List ByteArray) × (List Put) × Int))) :=
  cond (decide (i < ((List.length a) : Int)))
  (cond ((decide (0 ≤ i)) && (decide (i < ((List.length a) : Int))))
    (cond ((decide (0 ≤ i)) && (decide (i < ((List.length qv3) : Int))))
      (cond (!((ByteArray.toList (List.getD a (Int.toNat i) ((⟨#[]⟩ : ByteArray), 0)).1) == (ByteArray.toList (List.getD qv3 (Int.toNat i) (⟨#[]⟩ : ByteArray)))))
        (F10_j3 false)
        (cond ((decide (0 ≤ i)) && (decide (i < ((List.length a) : Int))))
          ((F19 qv (List.getD a (Int.toNat i) ((⟨#[]⟩ : ByteArray), 0)).2).bind fun q25 =>
            cond (q25 != 1)
            (F10_j3 false)
            (cond ((decide (0 ≤ i)) && (decide (i < ((List.length a) : Int))))
              ((F27 a (List.getD a (Int.toNat i) ((⟨#[]⟩ : ByteArray), 0)).2).bind fun q26 =>
                cond (decide (q26 > most))
                (F10_j3 false)
                (cond ((decide (0 ≤ i)) && (decide (i < ((List.length qv3) : Int))))
                  ((F31 a (List.getD qv3 (Int.toNat i) (⟨#[]⟩ : ByteArray))).bind fun q27 =>
                    cond ((decide (0 ≤ i)) && (decide (i < ((List.length a) : Int))))
                    (cond (q27.1 != (List.getD a (Int.toNat i) ((⟨#[]⟩ : ByteArray), 0)).2)
                      (some (.inr (.inl false)))
                      (cond (q27.2 != 0)
                        (some (.inr (.inl false)))
                        (some (.inl (most, wr .i64 (i + 1), qv, qv2, qv3, qv4, qv5, a)))))
                    none)
                  none))
              none))
          none))
      none)
    none)
  (some (.inr (.inr (most, qv, qv2, qv3, qv4, qv5))))
def F10_l2 (most : Int) (i : Int) (qv : (List Int)) (qv2 : Int) (qv3 : (List ByteArray)) (qv4 : (List Put)) (qv5 : Int) (a : (List Put)) : Option (Bool ⊕ (Int × (List Int) × Int × (List ByteArray) × (List Put) × Int)) :=
  loopN (S := (Int × Int × (List Int) × Int × (List ByteArray) × (List Put) × Int × (List Put))) (O := (Bool ⊕ (Int × (List Int) × Int × (List ByteArray) × (List Put) × Int))) (fun s => F10_s2 s.1 s.2.1 s.2.2.1 s.2.2.2.1 s.2.2.2.2.1 s.2.2.2.2.2.1 s.2.2.2.2.2.2.1 s.2.2.2.2.2.2.2) (most, i, qv, qv2, qv3, qv4, qv5, a)
def F10_j1 (most : Int) (t52 : Bool) (qv : (List Int)) (qv2 : Int) (qv3 : (List ByteArray)) (qv4 : (List Put)) (qv5 : Int) (a : (List Put)) : Option Bool :=
  cond t52
  (some false)
  ((F10_l2 most 0 qv qv2 qv3 qv4 qv5 a).bind
    (Sum.elim (fun q28 =>
      some q28)
    (fun q29 =>
      cond (decide ((wr .i64 (q29.1 * ((List.length q29.2.1) : Int))) ≥ ((List.length q29.2.2.2.1) : Int)))
      (cond (decide ((wr .i64 ((wr .i64 (4 * ((List.length q29.2.1) : Int))) * (wr .i64 (q29.1 - 1)))) < (wr .i64 ((wr .i64 (5 * ((List.length q29.2.2.2.1) : Int))) + 1))))
        ((F22).bind fun q30 =>
          some q30)
        (some false))
      (some false))))
def F10 (qv : Ask) : Option Bool :=
  (F21 qv).bind fun q21 =>
  cond (!q21)
  ((F22).bind fun q22 =>
    some q22)
  ((F23 qv.1 qv.2.1 qv.2.2.1).bind fun q23 =>
    (F24 ((List.length qv.2.2.1) : Int) ((List.length qv.1) : Int)).bind fun q24 =>
    cond (q23.1 != 0)
    (F10_j1 q24.1 true qv.1 qv.2.1 qv.2.2.1 qv.2.2.2.1 qv.2.2.2.2 q23.2)
    (cond (q24.2 != 0)
      (F10_j1 q24.1 true qv.1 qv.2.1 qv.2.2.1 qv.2.2.2.1 qv.2.2.2.2 q23.2)
      (cond (((List.length q23.2) : Int) != ((List.length qv.2.2.1) : Int))
        (F10_j1 q24.1 true qv.1 qv.2.1 qv.2.2.1 qv.2.2.2.1 qv.2.2.2.2 q23.2)
        ((F33 q23.2).bind fun q31 =>
          F10_j1 q24.1 (q31 != 0) qv.1 qv.2.1 qv.2.2.1 qv.2.2.2.1 qv.2.2.2.2 q23.2))))

-- tattle/tattlelaw14.LoadStays
def F11_s3 (name : ByteArray) (n : Int) (g : Int) (there : Bool) (i : Int) (qv : (List Int)) (qv2 : Int) (qv3 : (List ByteArray)) (qv4 : (List Put)) (qv5 : Int) : Option ((ByteArray × Int × Int × Bool × Int × (List Int) × Int × (List ByteArray) × (List Put) × Int) ⊕ (Int × Int × Bool)) :=
  cond (decide (i < ((List.length qv3) : Int)))
  (cond there
    (some (.inl (name, n, g, true, wr .i64 (i + 1), qv, qv2, qv3, qv4, qv5)))
    (cond ((decide (0 ≤ i)) && (decide (i < ((List.length qv3) : Int))))
      (some (.inl (name, n, g, (ByteArray.toList (List.getD qv3 (Int.toNat i) (⟨#[]⟩ : ByteArray))) == (ByteArray.toList name), wr .i64 (i + 1), qv, qv2, qv3, qv4, qv5)))
      none))
  (some (.inr (n, g, there)))
def F11_l3 (name : ByteArray) (n : Int) (g : Int) (there : Bool) (i : Int) (qv : (List Int)) (qv2 : Int) (qv3 : (List ByteArray)) (qv4 : (List Put)) (qv5 : Int) : Option (Int × Int × Bool) :=
  loopN (S := (ByteArray × Int × Int × Bool × Int × (List Int) × Int × (List ByteArray) × (List Put) × Int)) (O := (Int × Int × Bool)) (fun s => F11_s3 s.1 s.2.1 s.2.2.1 s.2.2.2.1 s.2.2.2.2.1 s.2.2.2.2.2.1 s.2.2.2.2.2.2.1 s.2.2.2.2.2.2.2.1 s.2.2.2.2.2.2.2.2.1 s.2.2.2.2.2.2.2.2.2) (name, n, g, there, i, qv, qv2, qv3, qv4, qv5)
def F11_j2 (name : ByteArray) (t57 : Bool) (qv : (List Int)) (qv2 : Int) (qv3 : (List ByteArray)) (qv4 : (List Put)) (qv5 : Int) (a : (List Put)) : Option Bool :=
  cond t57
  (some false)
  ((F31 a name).bind fun q11 =>
    (F11_l3 name q11.1 q11.2 false 0 qv qv2 qv3 qv4 qv5).bind fun q12 =>
    cond ((q12.2.1 == 0) == q12.2.2)
    (cond q12.2.2
      ((F22).bind fun q13 =>
        some q13)
      (cond (q12.1 == 0)
        (cond (q12.2.1 == 6)
          ((F22).bind fun q14 =>
            some q14)
          (some false))
        (some false)))
    (some false))
def F11_j1 (name : ByteArray) (t20 : Bool) (qv : (List Int)) (qv2 : Int) (qv3 : (List ByteArray)) (qv4 : (List Put)) (qv5 : Int) : Option Bool :=
  cond t20
  ((F22).bind fun q8 =>
    some q8)
  ((F23 qv qv2 qv3).bind fun q9 =>
    cond (decide (((0 + (List.length qv)) * 8) ≤ 140737488355328))
    (cond (decide (((0 + (List.length qv3)) * 16) ≤ 140737488355328))
      ((F23 qv qv2 qv3).bind fun q10 =>
        cond (q9.1 != 0)
        (F11_j2 name true qv qv2 qv3 qv4 qv5 q9.2)
        (cond (q10.1 != 0)
          (F11_j2 name true qv qv2 qv3 qv4 qv5 q9.2)
          ((F28 q9.2 q10.2).bind fun q15 =>
            F11_j2 name (!q15) qv qv2 qv3 qv4 qv5 q9.2)))
      none)
    none)
def F11 (qv : Ask) (name : ByteArray) : Option Bool :=
  (F21 qv).bind fun q7 =>
  cond (!q7)
  (F11_j1 name true qv.1 qv.2.1 qv.2.2.1 qv.2.2.2.1 qv.2.2.2.2)
  (F11_j1 name (decide (((ByteArray.size name) : Int) > 30)) qv.1 qv.2.1 qv.2.2.1 qv.2.2.2.1 qv.2.2.2.2)
end Go.Proofs.YtomijlhmjenaoaaDoor
