/- The law LoadBounds, plainly. -/
import Derived.Test.YtomijlhmjenaoaaDoorPLoad3
namespace Go.Proofs.YtomijlhmjenaoaaDoor.PureLoadBounds
open Go Go.Tat PureRingWalks PureLoadMost
set_option linter.unusedVariables false
theorem loop_eq {nodes : List Int} {s m : Nat} {l : List ByteArray} {a : List Put} (hput : IsPut nodes (pts s nodes) m l a) (hok : NodesOk nodes) (h1 : 1 ≤ s) (ht : tasksB l = true) (spots : Int) (puts : List Put) (T : Int) :
    F10_l2 (m : Int) 0 nodes spots l puts T a = some (.inr ((m : Int), nodes, spots, l, puts, T)) := by
  have hlen := hput.length
  obtain ⟨t1, t2, t3⟩ := tasks_iff.1 ht
  have h64 := hok.length
  have h := loopN_list (step := fun s : Int × Int × List Int × Int × List ByteArray × List Put × Int × List Put => F10_s2 s.1 s.2.1 s.2.2.1 s.2.2.2.1 s.2.2.2.2.1 s.2.2.2.2.2.1 s.2.2.2.2.2.2.1 s.2.2.2.2.2.2.2)
    (l := a) (fun i (_ : Unit) => ((m : Int), (i : Int), nodes, spots, l, puts, T, a))
    (fun _ x _ => .inl ()) (fun _ => (.inr ((m : Int), nodes, spots, l, puts, T) : Bool ⊕ (Int × List Int × Int × List ByteArray × List Put × Int))) (fun i _ => True) (by omega)
    (fun i u x hx hi => by
      have hlt := at_lt hx
      have hmem := List.mem_of_getElem? hx
      have hl : l[i]? = some x.1 := by rw [← hput.tasks, List.getElem?_map, hx]; rfl
      have hof := of_eq (l := a) x.1 (fun x hx => hok.2 _ (hput.node h1 hx)) (by rw [hput.tasks]; exact ht)
      have hof : F31 a x.1 = some (x.2, 0) := by
        rcases hof with ⟨y, hy, ey, ef⟩ | ⟨hno, _⟩
        · obtain ⟨j, hj, ej⟩ := List.getElem_of_mem hy
          have hji : j = i := by
            have hnd : l.Pairwise (fun a b => ltS a b = true) := t3
            rcases Nat.lt_trichotomy j i with h | h | h
            · have := names_at (l := a) (by rw [hput.tasks]; exact t3) h hlt
              rw [at_getD hx, at_getD (List.getElem?_eq_getElem hj), ej, ey, ltS_irr] at this; cases this
            · exact h
            · have := names_at (l := a) (by rw [hput.tasks]; exact t3) h hj
              rw [at_getD hx, at_getD (List.getElem?_eq_getElem hj), ej, ey, ltS_irr] at this; cases this
          subst hji
          have : y = x := by
            rw [List.getElem?_eq_getElem hj, ej] at hx
            exact Option.some.inj hx
          rw [ef, this]
        · exact (hno x hmem rfl).elim
      have hcount := count_one hok.nodup (hput.node h1 hmem)
      have hm := hput.most x.2
      simp only [F10_s2, toNat_cast, at_getD hx, at_getD hl, many_eq nodes x.2 (by omega), hcount, many_put a x.2 (by omega), hof, beq_self_eq_true, Option.bind_some]
      rw [dT (show (i : Int) < a.length by omega), dT (show (i : Int) < l.length by omega), dT (show (0 : Int) ≤ i by omega), wr_succ (by omega), dF (show ¬ ((cnt a x.2 : Nat) : Int) > (m : Int) by omega), show (x.2 != x.2) = false by simp]
      rfl)
    (fun i x a a' hx hi hf => trivial)
    (fun u hi => by simp only [F10_s2]; rw [dF (by omega), cond_false]) () trivial
  rw [foldE_foldl] at h
  exact h
theorem pure (q : Ask) (h : Ty.rng tyAsk q) : F10 q = some true := by
  obtain ⟨b, e1, hb⟩ := light_eq q h
  unfold F10
  rw [e1]
  cases b with
  | false => simp only [Option.bind_some, Bool.not_false, cond_true]; rw [awake14]; rfl
  | true =>
    obtain ⟨hok, hne, hn6, hl20, ht, hs1, hs8⟩ := hb rfl
    obtain ⟨nodes, spots, l, puts, T⟩ := q
    simp only [] at *
    simp only [Option.bind_some, Bool.not_true, cond_false]
    obtain ⟨s, hs⟩ : ∃ s : Nat, (s : Int) = spots := ⟨spots.toNat, by omega⟩
    subst hs
    have hpos := List.length_pos_iff.2 hne
    have hput := assign_put (s := s) l hok (by omega) (bd l.length nodes.length) (bd_room hpos)
    have hlen := hput.length
    have hroom := bd_room (t := l.length) hpos
    have hsp := bd_spec (t := l.length) hpos
    have eb := bd_eq (t := l.length) (n := nodes.length) (by omega) hpos (by omega)
    rw [assign_eq hok hne (by omega) (by omega) ht, eb]
    simp only [Option.bind_some]
    generalize assign ((bd l.length nodes.length : Nat) : Int) (pts s nodes) l = a at *
    have hbig : bd l.length nodes.length ≤ 1000 := by
      have := Nat.le_mul_of_pos_left (bd l.length nodes.length) (show 0 < 4 * nodes.length by omega)
      omega
    generalize bd l.length nodes.length = m at *
    simp only [show ((0 : Int) != 0) = false from rfl, cond_false]
    rw [hlen, show ((l.length : Int) != l.length) = false by simp, cond_false, check_put (fun x hx => hok.2 _ (hput.node (by omega) hx)) (by rw [hput.tasks]; exact ht)]
    simp only [Option.bind_some, show ((0 : Int) != 0) = false from rfl]
    unfold F10_j1
    rw [cond_false, loop_eq hput hok (by omega) ht]
    simp only [Option.bind_some, Sum.elim_inr]
    have hm1 : nodes.length * m ≤ 6 * 1000 := Nat.mul_le_mul hn6 hbig
    have c1 : ((m : Int) * (nodes.length : Int)) = ((nodes.length * m : Nat) : Int) := by rw [Nat.mul_comm]; rfl
    have c2 : (4 * (nodes.length : Int) * ((m : Int) - 1)) = ((4 * nodes.length * m : Nat) : Int) - 4 * nodes.length := by
      rw [Int.mul_sub, Int.mul_one]; rfl
    have c3 : 4 * nodes.length * m = 4 * (nodes.length * m) := Nat.mul_assoc _ _ _
    rw [c1, wr_i64 (x := ((nodes.length * m : Nat) : Int)) (by omega) (by omega), wr_i64 (x := 4 * (nodes.length : Int)) (by omega) (by omega), wr_i64 (x := (m : Int) - 1) (by omega) (by omega), c2,
      wr_i64 (x := ((4 * nodes.length * m : Nat) : Int) - 4 * nodes.length) (by omega) (by omega), wr_i64 (x := 5 * (l.length : Int)) (by omega) (by omega), wr_i64 (x := 5 * (l.length : Int) + 1) (by omega) (by omega),
      dT (show ((nodes.length * m : Nat) : Int) ≥ l.length by omega), dT (show ((4 * nodes.length * m : Nat) : Int) - 4 * nodes.length < 5 * (l.length : Int) + 1 by omega), awake14]
    rfl
end Go.Proofs.YtomijlhmjenaoaaDoor.PureLoadBounds
