/- The law LoadFirst, plainly. -/
import Derived.Test.YtomijlhmjenaoaaDoorPLoadRef2
namespace Go.Proofs.YtomijlhmjenaoaaDoor.PureLoadFirst
open Go Go.Tat PureRingWalks PureLoadMost
set_option linter.unusedVariables false
theorem inner_eq {m : Nat} {points : List Point} {i : Nat} {a : List Put} {x : Put} {w u v : List Int} (hx : a[i]? = some x) (ha : a.length ≤ 1000) (hw : w = u ++ x.2 :: v) (hl : w.length ≤ 1000) (hu : ∀ k ∈ u, k ≠ x.2 ∧ cnt a k = m) :
    F5_l3 (m : Int) points (i : Int) 0 a w = some (.inr ((m : Int), points, (i : Int), a)) := by
  have hlt := at_lt hx
  have hul : u.length < w.length := by rw [hw]; simp
  have h := loopN_list (step := fun s : Int × List Point × Int × Int × List Put × List Int => F5_s3 s.1 s.2.1 s.2.2.1 s.2.2.2.1 s.2.2.2.2.1 s.2.2.2.2.2)
    (l := u) (fun k (_ : Unit) => ((m : Int), points, (i : Int), (k : Int), a, w))
    (fun _ x _ => .inl ()) (fun _ => (.inr ((m : Int), points, (i : Int), a) : Bool ⊕ (Int × List Point × Int × List Put))) (fun i _ => True) (by omega)
    (fun k u' y hy hi => by
      have hk := at_lt hy
      have hwk : w[k]? = some y := by rw [hw, List.getElem?_append_left hk]; exact hy
      obtain ⟨h1, h2⟩ := hu y (List.mem_of_getElem? hy)
      simp only [F5_s3, toNat_cast, at_getD hwk, at_getD hx, many_put a y (by omega), h2, Option.bind_some]
      rw [dT (show (k : Int) < w.length by omega), dT (show (0 : Int) ≤ k by omega), dT (show (0 : Int) ≤ i by omega), dT (show (i : Int) < a.length by omega), wr_succ (by omega), show (y != x.2) = true by simpa using h1, show ((m : Int) != (m : Int)) = false by simp]
      rfl)
    (fun i x a a' hx hi hf => trivial)
    (fun u' hi => by
      have hwk : w[u.length]? = some x.2 := by rw [hw]; simp
      simp only [F5_s3, toNat_cast, at_getD hwk, at_getD hx]
      rw [dT (show (u.length : Int) < w.length by omega), dT (show (0 : Int) ≤ u.length by omega), dT (show (0 : Int) ≤ i by omega), dT (show (i : Int) < a.length by omega), show (x.2 != x.2) = false by simp]
      rfl) () trivial
  rw [foldE_foldl] at h
  exact h
theorem loop_eq {nodes : List Int} {s m : Nat} {l : List ByteArray} {a : List Put} (hput : IsPut nodes (pts s nodes) m l a) (hok : NodesOk nodes) (hne : nodes ≠ []) (h1 : 1 ≤ s) (h2 : s ≤ 32) (ht : tasksB l = true) :
    F5_l2 (m : Int) (pts s nodes) 0 a = some (.inr ()) := by
  have hlen := hput.length
  obtain ⟨t1, t2, t3⟩ := tasks_iff.1 ht
  have h64 := hok.length
  have h := loopN_list (step := fun s : Int × List Point × Int × List Put => F5_s2 s.1 s.2.1 s.2.2.1 s.2.2.2)
    (l := a) (fun i (_ : Unit) => ((m : Int), pts s nodes, (i : Int), a))
    (fun _ x _ => .inl ()) (fun _ => (.inr () : Bool ⊕ Unit)) (fun i _ => True) (by omega)
    (fun i u x hx hi => by
      have hlt := at_lt hx
      have hmem := List.mem_of_getElem? hx
      have hsz : x.1.size ≤ 20 := name_size (t2 _ (by rw [← hput.tasks]; exact List.mem_map_of_mem hmem))
      obtain ⟨p, v, hw, hu⟩ := hput.first x hmem
      simp only [F5_s2, toNat_cast, at_getD hx]
      rw [dT (show (i : Int) < a.length by omega), dT (show (0 : Int) ≤ i by omega), ref_walk x.1 (by omega) (pts_ok h2 hok) (pts_ne h1 hne)]
      simp only [cond_true, Bool.and_self, Option.bind_some]
      rw [inner_eq hx (by omega) hw (by rw [(walk_perm h1 hok _).length_eq]; omega) hu]
      simp only [Option.bind_some, Sum.elim_inr]
      rw [wr_succ (by omega)])
    (fun i x a a' hx hi hf => trivial)
    (fun u hi => by simp only [F5_s2]; rw [dF (by omega), cond_false]) () trivial
  rw [foldE_foldl] at h
  exact h
theorem pure (q : Ask) (h : Ty.rng tyAsk q) : F5 q = some true := by
  obtain ⟨b, e1, hb⟩ := light_eq q h
  unfold F5
  rw [e1]
  cases b with
  | false => simp only [Option.bind_some, Bool.not_false, cond_true]; rw [awake14]; rfl
  | true =>
    obtain ⟨hok, hne, hn6, hl20, ht, hs1, hs8⟩ := hb rfl
    obtain ⟨nodes, spots, l, puts, T⟩ := q
    simp only [] at *
    simp only [Option.bind_some, Bool.not_true, cond_false]
    obtain ⟨s, hs⟩ : ∃ s : Nat, (s : Int) = spots := ⟨spots.toNat, by omega⟩
    subst hs
    have hpos := List.length_pos_iff.2 hne
    have hput := assign_put (s := s) l hok (by omega) (bd l.length nodes.length) (bd_room hpos)
    have eb := bd_eq (t := l.length) (n := nodes.length) (by omega) hpos (by omega)
    rw [assign_eq hok hne (by omega) (by omega) ht, eb]
    simp only [Option.bind_some, show ((0 : Int) != 0) = false from rfl, cond_false]
    unfold F5_j1
    rw [cond_false, ref_points hok (by omega)]
    simp only [Option.bind_some]
    rw [loop_eq hput hok hne (by omega) (by omega) ht]
    simp only [Option.bind_some, Sum.elim_inr]
    rw [awake14]; rfl
end Go.Proofs.YtomijlhmjenaoaaDoor.PureLoadFirst
