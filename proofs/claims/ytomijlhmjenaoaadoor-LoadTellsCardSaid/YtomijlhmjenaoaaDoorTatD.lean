/- What is used to prove: the library's sort by the shelf's contract; no condition. -/
import Derived.Test.YtomijlhmjenaoaaDoorTatC
import Derived.Shelf.SlSortCmp.NoneTotal
set_option linter.unnecessarySimpa false
set_option linter.unusedSimpArgs false
namespace Go.Tat
set_option linter.unusedVariables false
open Go.Proofs Go.Shelf Go.RowKit Go.Lib Go.Sort

def Ty.scal : Ty → Bool
  | .int _ | .bool | .str => true
  | .prod a b => a.scal && b.scal
  | .box a => a.scal
  | _ => false
def encT : (t : Ty) → t.den → List Value
  | .int k, x => [.int k x]
  | .bool, x => [.bool x]
  | .str, x => [.string x]
  | .prod a b, x => encT a x.1 ++ encT b x.2
  | .box a, x => encT a x
  | .slice _, _ => []
  | .arr _ _, _ => []
theorem CR_enc {w : World} {M : Nat → Prop} : ∀ (t : Ty) (x : t.den) (vs : List Value), t.scal = true → (CR w M t x vs ↔ vs = encT t x)
  | .int k, x, vs, h => Iff.rfl
  | .bool, x, vs, h => Iff.rfl
  | .str, x, vs, h => Iff.rfl
  | .prod a b, x, vs, h => by
    simp only [Ty.scal, Bool.and_eq_true] at h
    constructor
    · rintro ⟨v1, v2, rfl, h1, h2⟩
      rw [(CR_enc a _ _ h.1).1 h1, (CR_enc b _ _ h.2).1 h2]; rfl
    · intro e
      exact ⟨_, _, e, (CR_enc a _ _ h.1).2 rfl, (CR_enc b _ _ h.2).2 rfl⟩
  | .box a, x, vs, h => CR_enc a x vs h
  | .slice _, x, vs, h => by cases h
  | .arr _ _, x, vs, h => by cases h
theorem encT_len : ∀ (t : Ty) (x : t.den), t.scal = true → (encT t x).length = t.sz
  | .int k, x, h => rfl
  | .bool, x, h => rfl
  | .str, x, h => rfl
  | .prod a b, x, h => by
    simp only [Ty.scal, Bool.and_eq_true] at h
    simp only [encT, List.length_append, encT_len a _ h.1, encT_len b _ h.2, Ty.sz]
  | .box a, x, h => encT_len a x h
  | .slice _, x, h => by cases h
  | .arr _ _, x, h => by cases h
theorem encT_one : ∀ (t : Ty) (x : t.den), ∀ v ∈ encT t x, v.oneCell' = true
  | .int k, x, v, h => by simp [encT] at h; subst h; rfl
  | .bool, x, v, h => by simp [encT] at h; subst h; rfl
  | .str, x, v, h => by simp [encT] at h; subst h; rfl
  | .prod a b, x, v, h => by
    rcases List.mem_append.1 h with h | h
    · exact encT_one a _ v h
    · exact encT_one b _ v h
  | .box a, x, v, h => encT_one a x v h
  | .slice _, x, v, h => by cases h
  | .arr _ _, x, v, h => by cases h
instance denInh (t : Ty) : Inhabited t.den := ⟨t.zero⟩
section
variable {α : Type} [Inhabited α] {enc : α → List Value} {k : Nat}
theorem flatten_get (hk : ∀ x, (enc x).length = k) : ∀ (l : List α) (t : Nat), t < l.length * k → ((l.map enc).flatten)[t]? = (enc (l[t / k]!))[t % k]?
  | [], t, h => by simp at h
  | x :: l, t, h => by
    have hk0 : 0 < k := by
      rcases Nat.eq_zero_or_pos k with e | e
      · subst e; simp at h
      · exact e
    rw [List.map_cons, List.flatten_cons]
    by_cases ht : t < k
    · rw [List.getElem?_append_left (by rw [hk]; exact ht), Nat.div_eq_of_lt ht, Nat.mod_eq_of_lt ht]; rfl
    · rw [List.getElem?_append_right (by rw [hk]; omega), hk, flatten_get hk l (t - k) (by simp [Nat.add_mul] at h; omega)]
      have e1 : t / k = (t - k) / k + 1 := by
        have := Nat.add_div_right (t - k) hk0
        rw [show t - k + k = t by omega] at this; exact this
      have e2 : t % k = (t - k) % k := by
        have := Nat.add_mod_right (t - k) k
        rw [show t - k + k = t by omega] at this; exact this
      rw [e1, e2]; rfl
theorem flatK_list (hk : ∀ x, (enc x).length = k) (l : List α) : (flatK enc k l.toArray).toList = (l.map enc).flatten := by
  have hlen : ((l.map enc).flatten).length = l.length * k := by
    rw [List.length_flatten]
    have : (l.map enc).map List.length = List.replicate l.length k := by
      rw [List.map_map]
      apply List.ext_getElem?
      intro i
      by_cases hi : i < l.length
      · simp [hi, hk]
      · rw [List.getElem?_eq_none (by simp; omega), List.getElem?_eq_none (by simp; omega)]
    rw [this, List.sum_replicate_nat]
  apply List.ext_getElem?
  intro t
  by_cases ht : t < l.length * k
  · rw [flatten_get hk l t ht]
    have hk0 : 0 < k := by
      rcases Nat.eq_zero_or_pos k with e | e
      · subst e; simp at ht
      · exact e
    have hm : t % k < (enc (l[t / k]!)).length := by rw [hk]; exact Nat.mod_lt _ hk0
    simp [flatK, ht]
    rw [List.getElem?_eq_getElem (by simpa using hm)]; rfl
  · rw [List.getElem?_eq_none (by simp; omega), List.getElem?_eq_none (by omega)]
end
theorem CRL_enc {w : World} {M : Nat → Prop} {e : Ty} (he : e.scal = true) {l : List e.den} {xs : List Value} : CRL (CR w M e) l xs ↔ xs = (l.map (encT e)).flatten := by
  constructor
  · rintro ⟨cs, rfl, hl, hc⟩
    congr 1
    apply List.ext_getElem?
    intro i
    by_cases hi : i < l.length
    · rw [List.getElem?_eq_getElem (by omega), List.getElem?_map, List.getElem?_eq_getElem hi, Option.map_some]
      congr 1
      exact (CR_enc e _ _ he).1 (hc i _ _ (List.getElem?_eq_getElem hi) (List.getElem?_eq_getElem (by omega)))
    · rw [List.getElem?_eq_none (by omega), List.getElem?_eq_none (by simp; omega)]
  · rintro rfl
    refine ⟨_, rfl, by simp, fun i x c hx hc => (CR_enc e _ _ he).2 ?_⟩
    rw [List.getElem?_map, hx] at hc
    simpa using hc.symm

section
variable {P : Program} {ρ : Ren}
/-- A comparison by its entry. -/
theorem cmp_lays {g : FuncId} {e : Ty} (he : e.scal = true) (hag : e.agg = true) (cf : e.den → e.den → Int) (F : e.den × e.den → Option Int)
    (hg : EntryOK P g ⟨⟨[.bor e, .bor e], []⟩, ⟨[.data (.int .i64)], []⟩, F⟩) (hcf : ∀ s, F s = some (cf s.1 s.2)) (x y : e.den) (W : World) :
    Calls P g (#[.agg (encT e x).toArray, .agg (encT e y).toArray] ++ #[]) W fun e' w' => e' = .returned (.int .i64 (cf x y)) ∧ ∃ q os', w' = grow (W.drewN q) os' := by
  have hprom := hg.2.2 (x, y) (cf x y) (hcf (x, y)) W (fun _ => False) [.agg (encT e x).toArray, .agg (encT e y).toArray] (fun _ => nilHd) (by
    refine ⟨[.d e x, .d e y], [], rfl, ?_, HS_empty W _ _⟩
    rw [MM_empty]
    have hx : ∀ z : e.den, VR W (fun _ => False) (fun _ => nilHd) (fun j => j < 0) (.d e z) (.agg (encT e z).toArray) := fun z => by
      rw [VR_d1 hag]; exact ⟨_, rfl, (CR_enc e _ _ he).2 (by simp)⟩
    simp only [VRs]
    exact ⟨_, _, rfl, hx x, _, _, rfl, hx y, rfl⟩)
  have ea : (#[Value.agg (encT e x).toArray, .agg (encT e y).toArray] ++ #[] : Array Value) = [Value.agg (encT e x).toArray, .agg (encT e y).toArray].toArray := by simp
  rw [ea]
  refine Calls.mono hprom fun e' w' ⟨vs, ν', hee, hrep, hgr, hkeep, _, _⟩ => ?_
  obtain ⟨avs, hh, hp2, hv2, _⟩ := hrep
  have hp3 : putPat id ⟨[.data (.int .i64)], []⟩ (unpack (Pat.tys ⟨[.data (.int .i64)], []⟩) (cf x y)) = some ([AV.d (.int .i64) (cf x y)], []) := rfl
  rw [hp3] at hp2
  cases hp2
  unfold VRs at hv2
  obtain ⟨v, vs', rfl, hvb, hv3⟩ := hv2
  unfold VRs at hv3
  subst hv3
  rw [VR_int] at hvb
  subst hvb
  refine ⟨hee, w'.drawn - W.drawn, w'.heap.extract W.heap.size w'.heap.size, ?_⟩
  have hheap : w'.heap = W.heap ++ w'.heap.extract W.heap.size w'.heap.size := by
    apply Array.ext_getElem?
    intro i
    by_cases hi : i < W.heap.size
    · rw [Array.getElem?_append_left hi]
      exact hkeep i hi (fun ⟨j, hj⟩ => by
        have : PH ⟨[.bor e, .bor e], []⟩ (unpack (Pat.tys ⟨[.bor e, .bor e], []⟩) (x, y)) = [] := PH_eq (a := [.d e x, .d e y]) rfl
        rw [this] at hj; cases hj)
    · have := hgr.le
      rw [Array.getElem?_append_right (by omega)]
      by_cases hi2 : i < w'.heap.size
      · simp [Array.getElem?_extract, show i - W.heap.size < w'.heap.size - W.heap.size by omega, show W.heap.size + (i - W.heap.size) = i by omega]
      · rw [Array.getElem?_eq_none (by omega), Array.getElem?_eq_none (by simp; omega)]
  obtain ⟨heap', tape', drawn', os', output'⟩ := w'
  have h1 := hgr.os; have h2 := hgr.tape; have h3 := hgr.output; have h4 := hgr.drawn
  simp only at h1 h2 h3 h4 hheap
  subst h1; subst h2; subst h3
  simp only [grow, World.drewN, World.mk.injEq]
  exact ⟨hheap, trivial, by omega, trivial, trivial⟩

/-- THE SORT's ENTRY. -/
theorem sort_entry (L : SlLaysF0.n6 P ρ) {g : FuncId} {tid : TypeId} {e : Ty} (he : e.scal = true) (hag : e.agg = true) (aE : ∀ w, (isAgg (ρ.t 24)).run P w = .ok true w) (zE : ∀ w, (Go.sizeOf (ρ.t 24)).run P w = .ok e.sz w)
    (cf : e.den → e.den → Int) (hO : SWO (ltOf cf)) (hT : ∀ x y, ltOf cf x y = false → ltOf cf y x = false → x = y) (F : e.den × e.den → Option Int)
    (hg : EntryOK P g ⟨⟨[.bor e, .bor e], []⟩, ⟨[.data (.int .i64)], []⟩, F⟩) (hcf : ∀ s, F s = some (cf s.1 s.2)) (eg : ∀ args w, (callFunc g args).run P w = .ok (.enter g args) w) (hf : FnOK P (ρ.f 6)) :
    EntryOK P (ρ.f 6) ⟨⟨[.own 0, .fn g 0 0], [.row true tid e]⟩, ⟨[], [.row true tid e]⟩, fun l => cond (Nat.blt (List.length l) 4611686018427387904) (some (sortBy (ltOf cf) l)) none⟩ := by
  refine ⟨rfl, hf, fun l q hq w Mo args ν hrep => ?_⟩
  have hq' : cond (Nat.blt (List.length (l : List e.den)) 4611686018427387904) (some (sortBy (ltOf cf) l)) none = some q := hq
  cases hlt : Nat.blt (List.length (l : List e.den)) 4611686018427387904 with
  | false => rw [hlt] at hq'; cases hq'
  | true =>
  rw [hlt] at hq'
  have hlt := Nat.blt_eq.mp hlt
  have hq2 : sortBy (ltOf cf) l = q := Option.some.inj hq'
  subst hq2
  let l : List e.den := l
  obtain ⟨avs, h, hp, hv, hs⟩ := hrep
  have hp3 : putPat id ⟨[.own 0, .fn g 0 0], [.row true tid e]⟩ (unpack (Pat.tys ⟨[.own 0, .fn g 0 0], [.row true tid e]⟩) l) = some ([AV.own 0, AV.fn g [] []], [(0, AObj.row tid e l true)]) := by
    simp [putPat, putSK, putObjs, Pat.tys, SK.tys, OK.tys, unpack, castD_self]
  rw [hp3] at hp
  cases hp
  unfold VRs at hv
  obtain ⟨v0, vs0, rfl, hv0, hv⟩ := hv
  unfold VRs at hv
  obtain ⟨v1, vs1, rfl, hv1, hv⟩ := hv
  unfold VRs at hv
  subst hv
  unfold VR at hv0 hv1
  obtain ⟨_, rfl, _⟩ := hv0
  obtain ⟨fa, fb, rfl, hfa, hfb⟩ := hv1
  unfold VRs at hfa hfb
  have hfa : fa = #[] := by apply Array.ext'; simpa using hfa
  have hfb : fb = #[] := by apply Array.ext'; simpa using hfb
  subst hfa; subst hfb
  have hobj := hs.obj 0
  have hget : hget [(0, AObj.row tid e l true)] 0 = .row tid e l true := rfl
  rw [hget] at hobj
  obtain ⟨hn, xs, how, hcrl⟩ := hobj
  rw [CRL_enc he] at hcrl
  have hk := fun x => encT_len e x he
  have hPH : PH ⟨[.own 0, .fn g 0 0], [.row true tid e]⟩ (unpack (Pat.tys ⟨[.own 0, .fn g 0 0], [.row true tid e]⟩) l) = [(0, AObj.row tid e l true)] := PH_eq hp3
  have hp4 : ∀ l' : List e.den, putPat id ⟨[], [.row true tid e]⟩ (unpack (Pat.tys ⟨[], [.row true tid e]⟩) l') = some ([], [(0, AObj.row tid e l' true)]) := fun l' => by
    simp [putPat, putSK, putObjs, Pat.tys, SK.tys, OK.tys, unpack, castD_self]
  have hother : ∀ (l' : List e.den) i, i ≠ 0 → Tat.hget [(0, AObj.row tid e l' true)] i = .dead := fun l' i hi => by
    rw [hget_cons, if_neg (Ne.symm hi)]; rfl
  -- what is left, out of a world
  have fin : ∀ (w' : World) (l' : List e.den) (xs' : List Value), l'.length = l.length → xs' = (l'.map (encT e)).flatten → w'.ownsRow 0 tid e.sz (ν 0).v l.length xs' → Grew w w' → (∀ b, b < w.heap.size → (ν 0).v.ownBlock ≠ some b → w'.heap[b]? = w.heap[b]?) →
      PRep w' Mo ⟨[], [.row true tid e]⟩ (unpack (Pat.tys ⟨[], [.row true tid e]⟩) l') [] ν := fun w' l' xs' hlen hxs how' hgr hkeep => by
    have mutz : ∀ i b, mutB (Tat.hget [(0, AObj.row tid e l' true)] i) (ν i).v = some b → i = 0 ∧ (ν 0).v.ownBlock = some b := fun i b hb => by
      by_cases hi : i = 0
      · subst hi; exact ⟨rfl, hb⟩
      · rw [hother l' i hi] at hb; cases hb
    refine ⟨[], _, hp4 l', by unfold VRs; rfl, fun i => ?_, fun i j b hi hj => ?_, fun i b hi => ?_, fun i cs hi => ?_, fun i => ?_, fun b hb => Nat.lt_of_lt_of_le (hs.mo b hb) hgr.le, Grew.refl _, fun _ _ _ => rfl⟩
    · by_cases hi : i = 0
      · subst hi
        exact ⟨by rw [hn, hlen], xs', by rw [hlen]; exact how', by rw [CRL_enc he]; exact hxs⟩
      · rw [hother l' i hi]; trivial
    · rw [(mutz i b hi).1, (mutz j b hj).1]
    · have := hs.out 0 b (mutz i b hi).2
      exact ⟨this.1, Nat.lt_of_lt_of_le this.2.1 hgr.le, .inl ⟨i, hi⟩⟩
    · by_cases hi0 : i = 0
      · subst hi0; cases hi
      · rw [hother l' i hi0] at hi; cases hi
    · by_cases hi : i = 0
      · exact .inr (by rw [hi]; exact Nat.zero_lt_one)
      · exact .inl (hother l' i hi)
  have fin2 : ∀ (w' : World) (l' : List e.den) (xs' : List Value), l'.length = l.length → xs' = (l'.map (encT e)).flatten → w'.ownsRow 0 tid e.sz (ν 0).v l.length xs' → Grew w w' → (∀ b, b < w.heap.size → (ν 0).v.ownBlock ≠ some b → w'.heap[b]? = w.heap[b]?) → l' = sortBy (ltOf cf) l →
      ∃ vs ν', Ending.returned (.tuple #[]) = .returned (resV vs) ∧ PRep w' Mo ⟨[], [.row true tid e]⟩ (unpack (Pat.tys ⟨[], [.row true tid e]⟩) (sortBy (ltOf cf) l)) vs ν' ∧ Grew w w' ∧
      (∀ b, b < w.heap.size → ¬ OwnB ν (PH ⟨[.own 0, .fn g 0 0], [.row true tid e]⟩ (unpack (Pat.tys ⟨[.own 0, .fn g 0 0], [.row true tid e]⟩) l)) b → w'.heap[b]? = w.heap[b]?) ∧
      (∀ b, OwnB ν' (PH ⟨[], [.row true tid e]⟩ (unpack (Pat.tys ⟨[], [.row true tid e]⟩) (sortBy (ltOf cf) l))) b → OwnB ν (PH ⟨[.own 0, .fn g 0 0], [.row true tid e]⟩ (unpack (Pat.tys ⟨[.own 0, .fn g 0 0], [.row true tid e]⟩) l)) b ∨ w.heap.size ≤ b) ∧
      (∀ j, j < 1 → (nthO [OK.row true tid e] j).fixed = true → ν' j = ν j) := fun w' l' xs' h1 h2 h3 h4 h5 h6 => by
    subst h6
    refine ⟨[], ν, rfl, fin w' _ xs' h1 h2 h3 h4 h5, h4, fun b hb hnb => h5 b hb fun hob => hnb ⟨0, by rw [hPH]; exact hob⟩, fun b ⟨i, hi⟩ => .inl ⟨i, ?_⟩, fun j _ _ => rfl⟩
    rw [PH_eq (hp4 _)] at hi
    rw [hPH]
    by_cases hi0 : i = 0
    · subst hi0; exact hi
    · rw [hother _ i hi0] at hi; cases hi
  rcases how.2 with ⟨hnil, hn0⟩ | ⟨b, cap, cur, hvv, _, hb, hnc, hcm, hsz, htk⟩
  · -- nothing to sort
    have hl0 : l = [] := List.eq_nil_of_length_eq_zero hn0
    rw [hnil]
    have hcall := AnyF.slices_SortFunc_none L none 0 (.func (.func g) #[] #[]) w
    refine Calls.mono hcall fun e' w' ⟨h1, h2⟩ => ?_
    subst h1; subst h2
    exact fin2 w' l xs rfl hcrl (by rw [← hnil] at *; exact how) (Grew.refl _) (fun _ _ _ => rfl) (by rw [hl0]; rfl)
  · have hxl : ((l.map (encT e)).flatten).length = l.length * e.sz := by rw [← hcrl]; exact how.1
    have hblk : b < w.heap.size := by
      rcases Nat.lt_or_ge b w.heap.size with h1 | h1
      · exact h1
      · rw [Array.getElem?_eq_none h1] at hb; cases hb
    have hcells : ∀ (W : World) (c : Array Value) (l' : List e.den), l'.length = l.length → W.heap[b]? = some (.cells c tid (0, 0)) → c.toList.take (l.length * e.sz) = (l'.map (encT e)).flatten → HoldsK (encT e) e.sz W b 0 l'.toArray := fun W c l' hl' hW hc j hj => by
      simp only [size_flatK, List.size_toArray] at hj
      have hj' : j < l.length * e.sz := by rw [← hl']; exact hj
      have h1 : (flatK (encT e) e.sz l'.toArray).toList[j]? = c[j]? := by
        rw [flatK_list hk, ← hc, List.getElem?_take, if_pos hj']; simp
      have h2 : (flatK (encT e) e.sz l'.toArray)[j]? = c[j]? := by simpa using h1
      have hjs : j < (flatK (encT e) e.sz l'.toArray).size := by simp [hj]
      refine ⟨?_, ?_⟩
      · rw [Nat.zero_add]
        have h3 : W.cell? ⟨b, j, none⟩ = c[j]? := by simp [World.cell?, hW]
        rw [h3, ← h2, Array.getElem?_eq_getElem hjs, getElem!_pos (flatK (encT e) e.sz l'.toArray) j hjs]; rfl
      · simp [World.frozen?, hW]
    have hH := hcells w cur l rfl hb (by rw [htk, hcrl])
    have hcall := AnyQ.slices_SortFunc L e.sz aE zE (encT e) hk (encT_one e) cf hO g #[] b 0 cap l.toArray w eg (fun m os dk hdk x y => cmp_lays he hag cf F hg hcf x y _) hH hblk (by simpa using hlt)
    rw [hvv]
    have ea : [Value.slice (some ⟨b, 0, none⟩) (List.length l) cap, .func (.func g) #[] #[]].toArray = #[Value.slice (some ⟨b, 0, none⟩) l.toArray.size cap, .func (.func g) #[] #[]] := by simp
    rw [ea]
    refine Calls.mono hcall fun e' w' ⟨h1, d', n, os, hperm, hsorted, hw'⟩ => ?_
    subst h1
    obtain ⟨hps, _, hpp⟩ := hperm
    have hds : d'.size = l.length := by simpa using hps
    have hpl : d'.toList.Perm l := by
      have : d'.extract 0 l.length = d' := by rw [← hds]; simp
      simpa [this] using hpp
    have hsl : d'.toList.Pairwise (fun x y => ltOf cf y x = false) := by
      rw [List.pairwise_iff_getElem]
      intro i j hi hj hij
      have := hsorted i j (Nat.zero_le _) hij (by simp at hj ⊢; omega)
      have e1 : d'[i]! = d'.toList[i] := by simp at hi; rw [getElem!_pos d' i hi]; simp
      have e2 : d'[j]! = d'.toList[j] := by simp at hj; rw [getElem!_pos d' j hj]; simp
      rw [e1, e2] at this; exact this
    have hir : ∀ x y, ltOf cf x y = true → ltOf cf y x = false := fun x y hxy => by
      cases hyx : ltOf cf y x with
      | false => rfl
      | true => have := hO.trans x y x hxy hyx; rw [hO.irrefl] at this; cases this
    have hd'l : d'.toList = sortBy (ltOf cf) l := sorted_unique (fun x y h1 h2 => hT x y h1 h2) _ _ (hpl.trans (sortBy_perm l).symm) hsl
      (sortBy_sorted (fun x y z h1 h2 => hO.ntrans z y x h2 h1) hir l)
    have hd'a : d' = d'.toList.toArray := by simp
    have hheapb : w'.heap[b]? = some (.cells (putCells id 0 (flatK (encT e) e.sz d') cur) tid (0, 0)) := by
      rw [hw']
      simp only [sortWorldK, grow, putRowK, putRow, mapBlock]
      rw [Array.getElem?_append_left (by simp [ahead, hblk])]
      simp [ahead, Array.getElem?_modify, hb, onCells]
    have hkeep : ∀ j, j < w.heap.size → j ≠ b → w'.heap[j]? = w.heap[j]? := fun j hj hjb => by
      rw [hw']
      simp only [sortWorldK, grow, putRowK, putRow, mapBlock]
      rw [Array.getElem?_append_left (by simp [ahead, hj])]
      simp [ahead, Array.getElem?_modify, Ne.symm hjb]
    have htake : (putCells id 0 (flatK (encT e) e.sz d') cur).toList.take (l.length * e.sz) = (d'.toList.map (encT e)).flatten := by
      rw [← flatK_list hk, ← hd'a]
      have hcs : l.length * e.sz ≤ cur.size := by rw [hsz]; exact Nat.mul_le_mul_right _ hnc
      apply List.ext_getElem?
      intro t
      by_cases ht : t < l.length * e.sz
      · rw [List.getElem?_take, if_pos ht]
        simp [putCells, ht, hds, show t < cur.size by omega]
      · rw [List.getElem?_eq_none (by simp; omega), List.getElem?_eq_none (by simp [hds]; omega)]
    refine fin2 w' d'.toList _ (by simpa using hds) rfl ?_ ?_ ?_ hd'l
    · refine ⟨?_, .inr ⟨b, cap, _, hvv, Nat.zero_le _, hheapb, hnc, hcm, by simp [putCells, hsz], htake⟩⟩
      rw [← htake]; simp [putCells]
      rw [hsz]; exact Nat.min_eq_left (Nat.mul_le_mul_right _ hnc)
    · rw [hw']
      refine ⟨?_, rfl, rfl, rfl, ?_⟩
      · simp [sortWorldK, grow, putRowK, putRow, mapBlock, ahead]
      · simp [sortWorldK, grow, putRowK, putRow, mapBlock, ahead]
    · intro j hj hob
      refine hkeep j hj fun hjb => hob ?_
      rw [hvv, hjb]; rfl
end
end Go.Tat
