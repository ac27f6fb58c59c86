/- What is used to prove: the interpreter is sound for code, calls, loops; no condition. -/
import Derived.Test.YtomijlhmjenaoaaDoorTatA
import Derived.Orders
import Derived.Scope
import Derived.Deep.LoopGhost
set_option linter.unnecessarySimpa false
set_option linter.unusedSimpArgs false
namespace Go.Tat
set_option linter.unusedVariables false
section
variable {P : Program} {w w' : World} {M M' : Nat → Prop} {μ μ' : Mu} {U U' : Nat → Prop} {H : Heap}

theorem bget_cons (k : Nat) (o : Option Nat) (r : Bnd) (i : Nat) : bget ((k, o) :: r) i = if k = i then some o else bget r i := by
  simp only [bget]
  by_cases h : k = i
  · subst h; simp
  · have : Nat.beq k i = false := by
      cases hb : Nat.beq k i with
      | false => rfl
      | true => exact (h (Nat.eq_of_beq_eq_true hb)).elim
    simp [this, h]
theorem bput_spec {b b' : Bnd} {j : Nat} {o : Option Nat} (h : bput b j o = some b') : bget b' j = some o ∧ ∀ k x, bget b k = some x → bget b' k = some x := by
  unfold bput at h
  split at h
  · rename_i hn
    cases h
    refine ⟨by rw [bget_cons, if_pos rfl], fun k x hk => ?_⟩
    rw [bget_cons, if_neg]
    · exact hk
    · intro e; subst e; rw [hn] at hk; cases hk
  · rename_i i hi
    split at h
    · rename_i i'
      cases hb : Nat.beq i i' with
      | false => rw [hb] at h; cases h
      | true =>
        rw [hb] at h; simp at h; subst h
        have := Nat.eq_of_beq_eq_true hb
        subst this
        exact ⟨hi, fun k x hk => hk⟩
    · cases h
  · cases h
theorem bget_mem : ∀ {b : Bnd} {i : Nat} {o : Option Nat}, bget b i = some o → (i, o) ∈ b
  | (k, x) :: r, i, o, h => by
    rw [bget_cons] at h
    split at h
    · rename_i e; subst e; cases h; simp
    · exact List.mem_cons_of_mem _ (bget_mem h)
theorem idsOf_mem : ∀ {b : Bnd} {i k : Nat}, (i, some k) ∈ b → k ∈ idsOf b
  | (j, some x) :: r, i, k, h => by
    simp only [idsOf]
    cases h with
    | head => simp
    | tail _ h => exact List.mem_cons_of_mem _ (idsOf_mem h)
  | (j, none) :: r, i, k, h => by
    simp only [idsOf]
    cases h with
    | tail _ h => exact idsOf_mem h
theorem nodup_ids : ∀ {b : Bnd} {i j k : Nat}, nodupN (idsOf b) = true → (i, some k) ∈ b → (j, some k) ∈ b → i = j
  | (x, some y) :: r, i, j, k, hn, h1, h2 => by
    simp only [idsOf, nodupN, Bool.and_eq_true, Bool.not_eq_true'] at hn
    cases h1 with
    | head =>
      cases h2 with
      | head => rfl
      | tail _ h2 => rw [memN_iff.2 (idsOf_mem h2)] at hn; cases hn.1
    | tail _ h1 =>
      cases h2 with
      | head => rw [memN_iff.2 (idsOf_mem h1)] at hn; cases hn.1
      | tail _ h2 => exact nodup_ids hn.2 h1 h2
  | (x, none) :: r, i, j, k, hn, h1, h2 => by
    simp only [idsOf] at hn
    cases h1 with
    | tail _ h1 =>
      cases h2 with
      | tail _ h2 => exact nodup_ids hn h1 h2

def nilHd : Hd := ⟨.slice none 0 0, 0⟩
/-- Where a pattern's objects lie. -/
def νOf (μ : Mu) (b : Bnd) (j : Nat) : Hd := match bget b j with | some (some i) => μ i | _ => nilHd
theorem νOf_some {b : Bnd} {j i : Nat} (h : bget b j = some (some i)) : νOf μ b j = μ i := by simp [νOf, h]
theorem νOf_none {b : Bnd} {j : Nat} (h : bget b j = some none) : νOf μ b j = nilHd := by simp [νOf, h]

theorem Frees.sub {ids ids' : List Nat} (h : Frees H μ ids M') (hs : ∀ i ∈ ids', i ∈ ids) : Frees H μ ids' M' := fun i hi => h i (hs i hi)

theorem getSK_rep (ho : ∀ i, objOK w M μ U i (hget H i)) (hx : Ext w M w M') {n : Nat} {bf : Bnd} :
    ∀ (ks : List SK) (avs : List AV) (vs : List Value) (b : Bnd) (g : Got) (rest : List DV), getSK H ks avs b = some g → VRs w M μ U avs vs → (∀ j o, bget g.b j = some o → bget bf j = some o) → skOk n ks = true →
      Frees H μ (g.fz ++ g.br) M' → (∃ a1, putSK id ks (g.ds ++ rest) = some (a1, rest) ∧ VRs w M' (νOf μ bf) (fun j => j < n) a1 vs) ∧ (∀ j o, bget b j = some o → bget g.b j = some o)
  | [], [], vs, b, g, rest, h, hv, hb, hk, hf => by
    simp only [getSK, Option.some.injEq] at h; subst h
    exact ⟨⟨[], rfl, by unfold VRs at hv ⊢; exact hv⟩, fun j o h => h⟩
  | [], _ :: _, vs, b, g, rest, h, hv, hb, hk, hf => by cases h
  | k :: ks, [], vs, b, g, rest, h, hv, hb, hk, hf => by cases k <;> cases h
  | .data t :: ks, a :: avs, vs, b, g, rest, h, hv, hb, hk, hf => by
    simp only [getSK] at h
    split at h
    · rename_i x i hd
      split at h
      · rename_i g' hg
        cases h
        unfold VRs at hv
        obtain ⟨v, vs', rfl, hv1, hv2⟩ := hv
        obtain ⟨⟨a1, h1, h2⟩, h3⟩ := getSK_rep ho hx ks avs vs' b g' rest hg hv2 hb hk (hf.sub fun i hi => by simp at hi ⊢; rcases hi with hi | hi <;> simp [hi])
        refine ⟨⟨.d t x :: a1, by simp only [List.cons_append, putSK, h1], ?_⟩, h3⟩
        unfold VRs
        exact ⟨v, vs', rfl, VR_any_data (toD_sound ho hx hv1 hd (hf.sub fun i hi => by simp [hi])), h2⟩
      · cases h
    · cases h
  | .bor t :: ks, a :: avs, vs, b, g, rest, h, hv, hb, hk, hf => by
    simp only [getSK] at h
    split at h
    · rename_i x i hd
      split at h
      · rename_i g' hg
        cases h
        unfold VRs at hv
        obtain ⟨v, vs', rfl, hv1, hv2⟩ := hv
        obtain ⟨⟨a1, h1, h2⟩, h3⟩ := getSK_rep ho hx ks avs vs' b g' rest hg hv2 hb hk (hf.sub fun i hi => by simp at hi ⊢; rcases hi with hi | hi <;> simp [hi])
        refine ⟨⟨.d t x :: a1, by simp only [List.cons_append, putSK, h1], ?_⟩, h3⟩
        unfold VRs
        exact ⟨v, vs', rfl, VR_any_data (toD_sound ho hx hv1 hd (hf.sub fun i hi => by simp [hi])), h2⟩
      · cases h
    · cases h
  | .own j :: ks, a :: avs, vs, b, g, rest, h, hv, hb, hk, hf => by
    simp only [skOk, Bool.and_eq_true] at hk
    unfold VRs at hv
    obtain ⟨v, vs', rfl, hv1, hv2⟩ := hv
    simp only [getSK] at h
    split at h
    · rename_i i
      split at h
      · rename_i b' hbp
        obtain ⟨⟨a1, h1, h2⟩, h3⟩ := getSK_rep ho hx ks avs vs' b' g rest h hv2 hb hk.2 hf
        obtain ⟨e1, e2⟩ := bput_spec hbp
        refine ⟨⟨.own j :: a1, by simp only [putSK, h1, id], ?_⟩, fun j' o hj => h3 j' o (e2 j' o hj)⟩
        unfold VRs
        refine ⟨v, vs', rfl, ?_, h2⟩
        unfold VR at hv1 ⊢
        exact ⟨Nat.blt_eq.mp hk.1, by rw [νOf_some (hb _ _ (h3 _ _ e1))]; exact hv1.2⟩
      · cases h
    · split at h
      · rename_i b' hbp
        obtain ⟨⟨a1, h1, h2⟩, h3⟩ := getSK_rep ho hx ks avs vs' b' g rest h hv2 hb hk.2 hf
        obtain ⟨e1, e2⟩ := bput_spec hbp
        refine ⟨⟨.own j :: a1, by simp only [putSK, h1, id], ?_⟩, fun j' o hj => h3 j' o (e2 j' o hj)⟩
        unfold VRs
        refine ⟨v, vs', rfl, ?_, h2⟩
        unfold VR at hv1 ⊢
        exact ⟨Nat.blt_eq.mp hk.1, by rw [νOf_none (hb _ _ (h3 _ _ e1))]; exact hv1, by rw [hv1]; rfl⟩
      · cases h
    · cases h
  | .ptr j off :: ks, a :: avs, vs, b, g, rest, h, hv, hb, hk, hf => by
    simp only [skOk, Bool.and_eq_true] at hk
    unfold VRs at hv
    obtain ⟨v, vs', rfl, hv1, hv2⟩ := hv
    simp only [getSK] at h
    split at h
    · rename_i i off'
      cases hoo : Nat.beq off off' with
      | false => rw [hoo] at h; cases h
      | true =>
      rw [hoo] at h; simp only [cond_true] at h
      have := Nat.eq_of_beq_eq_true hoo
      subst this
      split at h
      · rename_i b' hbp
        obtain ⟨⟨a1, h1, h2⟩, h3⟩ := getSK_rep ho hx ks avs vs' b' g rest h hv2 hb hk.2 hf
        obtain ⟨e1, e2⟩ := bput_spec hbp
        refine ⟨⟨.ptr j off :: a1, by simp only [putSK, h1, id], ?_⟩, fun j' o hj => h3 j' o (e2 j' o hj)⟩
        unfold VRs
        refine ⟨v, vs', rfl, ?_, h2⟩
        unfold VR at hv1 ⊢
        exact ⟨Nat.blt_eq.mp hk.1, by rw [νOf_some (hb _ _ (h3 _ _ e1))]; exact hv1.2⟩
      · cases h
    · cases h
  | .aptr j :: ks, a :: avs, vs, b, g, rest, h, hv, hb, hk, hf => by
    simp only [skOk, Bool.and_eq_true] at hk
    unfold VRs at hv
    obtain ⟨v, vs', rfl, hv1, hv2⟩ := hv
    simp only [getSK] at h
    split at h
    · rename_i i
      split at h
      · rename_i b' hbp
        obtain ⟨⟨a1, h1, h2⟩, h3⟩ := getSK_rep ho hx ks avs vs' b' g rest h hv2 hb hk.2 hf
        obtain ⟨e1, e2⟩ := bput_spec hbp
        refine ⟨⟨.aptr j :: a1, by simp only [putSK, h1, id], ?_⟩, fun j' o hj => h3 j' o (e2 j' o hj)⟩
        unfold VRs
        refine ⟨v, vs', rfl, ?_, h2⟩
        unfold VR at hv1 ⊢
        exact ⟨Nat.blt_eq.mp hk.1, by rw [νOf_some (hb _ _ (h3 _ _ e1))]; exact hv1.2⟩
      · cases h
    · cases h
  | .map j :: ks, a :: avs, vs, b, g, rest, h, hv, hb, hk, hf => by
    simp only [skOk, Bool.and_eq_true] at hk
    unfold VRs at hv
    obtain ⟨v, vs', rfl, hv1, hv2⟩ := hv
    simp only [getSK] at h
    split at h
    · rename_i i
      split at h
      · rename_i b' hbp
        obtain ⟨⟨a1, h1, h2⟩, h3⟩ := getSK_rep ho hx ks avs vs' b' g rest h hv2 hb hk.2 hf
        obtain ⟨e1, e2⟩ := bput_spec hbp
        refine ⟨⟨.map j :: a1, by simp only [putSK, h1, id], ?_⟩, fun j' o hj => h3 j' o (e2 j' o hj)⟩
        unfold VRs
        refine ⟨v, vs', rfl, ?_, h2⟩
        unfold VR at hv1 ⊢
        exact ⟨Nat.blt_eq.mp hk.1, by rw [νOf_some (hb _ _ (h3 _ _ e1))]; exact hv1.2⟩
      · cases h
    · cases h
  | .iter j :: ks, a :: avs, vs, b, g, rest, h, hv, hb, hk, hf => by
    simp only [skOk, Bool.and_eq_true] at hk
    unfold VRs at hv
    obtain ⟨v, vs', rfl, hv1, hv2⟩ := hv
    simp only [getSK] at h
    split at h
    · rename_i i
      split at h
      · rename_i b' hbp
        obtain ⟨⟨a1, h1, h2⟩, h3⟩ := getSK_rep ho hx ks avs vs' b' g rest h hv2 hb hk.2 hf
        obtain ⟨e1, e2⟩ := bput_spec hbp
        refine ⟨⟨.iter j :: a1, by simp only [putSK, h1, id], ?_⟩, fun j' o hj => h3 j' o (e2 j' o hj)⟩
        unfold VRs
        refine ⟨v, vs', rfl, ?_, h2⟩
        unfold VR at hv1 ⊢
        exact ⟨Nat.blt_eq.mp hk.1, by rw [νOf_some (hb _ _ (h3 _ _ e1))]; exact hv1.2⟩
      · cases h
    · cases h
  | .agg m :: ks, a :: avs, vs, b, g, rest, h, hv, hb, hk, hf => by
    simp only [skOk] at hk
    unfold VRs at hv
    obtain ⟨v, vs', rfl, hv1, hv2⟩ := hv
    simp only [getSK] at h
    split at h
    · rename_i cs
      cases hl : Nat.beq cs.length m with
      | false => rw [hl] at h; cases h
      | true =>
        rw [hl] at h; simp only [cond_true] at h
        have hl' := Nat.eq_of_beq_eq_true hl
        unfold VR at hv1
        obtain ⟨us, rfl, h5, h6⟩ := hv1
        obtain ⟨⟨a1, h1, h2⟩, h3⟩ := getSK_rep ho hx ks (cs ++ avs) (us.toList ++ vs') b g rest h (VRs_append h5 hv2) hb hk hf
        have hul : us.toList.length = m := by rw [← VRs_len _ _ h5, hl']
        refine ⟨⟨.agg (a1.take m) :: a1.drop m, by simp only [putSK, h1], ?_⟩, h3⟩
        have h7 := VRs_take m h2
        have h8 := VRs_drop m h2
        rw [← hul, List.take_left] at h7
        rw [← hul, List.drop_left] at h8
        rw [hul] at h7 h8
        unfold VRs
        refine ⟨_, _, rfl, ?_, h8⟩
        unfold VR
        exact ⟨us, rfl, h7, h6⟩
    · cases h
  | .fn f m k :: ks, a :: avs, vs, b, g, rest, h, hv, hb, hk, hf => by
    simp only [skOk] at hk
    unfold VRs at hv
    obtain ⟨v, vs', rfl, hv1, hv2⟩ := hv
    simp only [getSK] at h
    split at h
    · rename_i f' fi ca
      cases hl : (Nat.beq f f' && Nat.beq fi.length m && Nat.beq ca.length k) with
      | false => rw [hl] at h; cases h
      | true =>
        rw [hl] at h; simp only [cond_true] at h
        simp only [Bool.and_eq_true] at hl
        have hl0 := Nat.eq_of_beq_eq_true hl.1.1
        have hl1 := Nat.eq_of_beq_eq_true hl.1.2
        have hl2 := Nat.eq_of_beq_eq_true hl.2
        subst hl0
        unfold VR at hv1
        obtain ⟨x, y, rfl, h5, h6⟩ := hv1
        obtain ⟨⟨a1, h1, h2⟩, h3⟩ := getSK_rep ho hx ks (fi ++ (ca ++ avs)) (x.toList ++ (y.toList ++ vs')) b g rest h (VRs_append h5 (VRs_append h6 hv2)) hb hk hf
        have hxl : x.toList.length = m := by rw [← VRs_len _ _ h5, hl1]
        have hyl : y.toList.length = k := by rw [← VRs_len _ _ h6, hl2]
        refine ⟨⟨.fn f (a1.take m) ((a1.drop m).take k) :: a1.drop (m + k), by simp only [putSK, h1], ?_⟩, h3⟩
        have h7 := VRs_take m h2
        have h8 := VRs_drop m h2
        rw [← hxl, List.take_left, hxl] at h7
        rw [← hxl, List.drop_left, hxl] at h8
        have h9 := VRs_take k h8
        have h10 := VRs_drop k h8
        rw [← hyl, List.take_left, hyl] at h9
        rw [← hyl, List.drop_left, hyl, List.drop_drop] at h10
        unfold VRs
        refine ⟨_, _, rfl, ?_, h10⟩
        unfold VR
        exact ⟨x, y, rfl, h7, h9⟩
    · cases h
end
end Go.Tat

namespace Go.Tat
set_option linter.unusedVariables false
section
variable {P : Program} {w w' : World} {M M' : Nat → Prop} {μ μ' : Mu} {U U' : Nat → Prop} {H : Heap}

theorem castD_self (t : Ty) (x : t.den) : castD t t x = some x := by
  unfold castD; rw [dif_pos (Ty.beq_rfl _)]; rfl
/-- Where an object of a pattern comes from. -/
def SrcOK (H : Heap) (μ : Mu) (bf : Bnd) (i : Nat) (o : AObj) : Prop :=
  (∃ tid e l, o = .row tid e l true ∧ bget bf i = some none) ∨
  (∃ k, bget bf i = some (some k) ∧ (∀ b, mutB o (μ k).v = some b → mutB (hget H k) (μ k).v = some b) ∧ (∀ cs, o = .var cs false → ∃ cs' w, hget H k = .var cs' w) ∧ hget H k ≠ .dead)

theorem hget_none_of_lt {h : Heap} {j0 : Nat} (hh : ∀ i, hget h i = .dead ∨ j0 < i) : hget h j0 = .dead := by
  rcases hh j0 with h | h
  · exact h
  · exact (Nat.lt_irrefl _ h).elim

theorem getObjs_rep (ho : ∀ i, objOK w M μ U i (hget H i)) (hx : Ext w M w M') {n : Nat} {bf : Bnd} :
    ∀ (objs : List OK) (j0 : Nat) (b : Bnd) (g : Got), getObjs H j0 objs b = some g → (∀ j o, bget g.b j = some o → bget bf j = some o) → objsOk n objs = true → j0 + objs.length ≤ n →
      Frees H μ (g.fz ++ g.br) M' →
      (∃ h, putObjs id j0 objs g.ds = some h ∧ ∀ i, hget h i = .dead ∨ (j0 ≤ i ∧ i < n ∧ objOK w M' (νOf μ bf) (fun j => j < n) i (hget h i) ∧ SrcOK H μ bf i (hget h i))) ∧ (∀ j o, bget b j = some o → bget g.b j = some o)
  | [], j0, b, g, h, hb, hk, hn, hf => by
    simp only [getObjs, Option.some.injEq] at h; subst h
    exact ⟨⟨[], rfl, fun i => .inl rfl⟩, fun j o h => h⟩
  | .row fix tid e :: r, j0, b, g, h, hb, hk, hn, hf => by
    simp only [objsOk] at hk
    simp only [List.length_cons] at hn
    simp only [getObjs] at h
    split at h
    · rename_i hbn
      cases fix with
      | true => cases h
      | false =>
      simp only [cond_false] at h
      split at h
      · rename_i g' hg
        cases h
        obtain ⟨⟨h1, e1, e2⟩, h3⟩ := getObjs_rep ho hx r (j0 + 1) b g' hg hb hk (by omega) hf
        have hbb : bget bf j0 = some none := hb _ _ (h3 _ _ hbn)
        refine ⟨⟨(j0, .row tid e [] true) :: h1, by simp only [putObjs, e1]; rw [show castD (.slice e) (.slice e) _ = some [] from castD_self _ _]; rfl, fun i => ?_⟩, h3⟩
        rw [hget_cons]
        split
        · rename_i hji; subst hji
          refine .inr ⟨Nat.le_refl _, by omega, ⟨by rw [νOf_none hbb]; rfl, [], ?_, CRL.nil⟩, .inl ⟨_, _, _, rfl, hbb⟩⟩
          rw [νOf_none hbb]
          exact World.ownsRow_nil w 0 tid e.sz
        · exact (e2 i).imp id fun ⟨a, b, c⟩ => ⟨by omega, b, c⟩
      · cases h
    · rename_i k hbk
      split at h
      · rename_i tid' e' l hg0
        cases htt : Nat.beq tid tid' with
        | false => rw [htt] at h; cases h
        | true =>
        rw [htt] at h; simp only [cond_true] at h
        have := Nat.eq_of_beq_eq_true htt
        subst this
        split at h
        · rename_i y hy
          obtain ⟨he, rfl⟩ := castD_spec hy
          cases he
          split at h
          · rename_i g' hg
            cases h
            obtain ⟨⟨h1, e1, e2⟩, h3⟩ := getObjs_rep ho hx r (j0 + 1) b g' hg hb hk (by omega) hf
            have hbb : bget bf j0 = some (some k) := hb _ _ (h3 _ _ hbk)
            refine ⟨⟨(j0, .row tid e l true) :: h1, by simp only [putObjs, e1]; rw [show castD (.slice e) (.slice e) _ = some l from castD_self _ _]; rfl, fun i => ?_⟩, h3⟩
            rw [hget_cons]
            split
            · rename_i hji; subst hji
              have h4 := ho k
              rw [hg0] at h4
              refine .inr ⟨Nat.le_refl _, by omega, ?_, .inr ⟨k, hbb, fun b hb' => by rw [hg0]; exact hb', (fun cs hc => nomatch hc), by rw [hg0]; intro hd; cases hd⟩⟩
              obtain ⟨hn', xs, h5, h6⟩ := h4
              exact ⟨by rw [νOf_some hbb]; exact hn', xs, by rw [νOf_some hbb]; exact h5, h6.mono fun x c _ hc => CR_mono hx _ _ _ hc⟩
            · exact (e2 i).imp id fun ⟨a, b, c⟩ => ⟨by omega, b, c⟩
          · cases h
        · cases h
      · cases h
    · cases h
  | .arr m e :: r, j0, b, g, h, hb, hk, hn, hf => by
    simp only [objsOk] at hk
    simp only [List.length_cons] at hn
    simp only [getObjs] at h
    split at h
    · rename_i k hbk
      split at h
      · rename_i m' e' l hg0
        cases htt : Nat.beq m m' with
        | false => rw [htt] at h; cases h
        | true =>
        rw [htt] at h; simp only [cond_true] at h
        have := Nat.eq_of_beq_eq_true htt
        subst this
        split at h
        · rename_i y hy
          obtain ⟨he, rfl⟩ := castD_spec hy
          cases he
          split at h
          · rename_i g' hg
            cases h
            obtain ⟨⟨h1, e1, e2⟩, h3⟩ := getObjs_rep ho hx r (j0 + 1) b g' hg hb hk (by omega) hf
            have hbb : bget bf j0 = some (some k) := hb _ _ (h3 _ _ hbk)
            refine ⟨⟨(j0, .arr m e l) :: h1, by simp only [putObjs, e1]; rw [show castD (.arr m e) (.arr m e) _ = some l from castD_self (.arr m e) l]; rfl, fun i => ?_⟩, h3⟩
            rw [hget_cons]
            split
            · rename_i hji; subst hji
              have h4 := ho k
              rw [hg0] at h4
              refine .inr ⟨Nat.le_refl _, by omega, ?_, .inr ⟨k, hbb, fun b hb' => by rw [hg0]; exact hb', (fun cs hc => nomatch hc), by rw [hg0]; intro hd; cases hd⟩⟩
              obtain ⟨hn', b', vs, tid, h5, h6, h7⟩ := h4
              exact ⟨by rw [νOf_some hbb]; exact hn', b', vs, tid, by rw [νOf_some hbb]; exact h5, h6, CR_mono hx _ _ _ h7⟩
            · exact (e2 i).imp id fun ⟨a, b, c⟩ => ⟨by omega, b, c⟩
          · cases h
        · cases h
      · cases h
    · cases h
  | .var wr m ks :: r, j0, b, g, h, hb, hk, hn, hf => by
    simp only [objsOk, Bool.and_eq_true] at hk
    simp only [List.length_cons] at hn
    simp only [getObjs] at h
    split at h
    · rename_i k hbk
      split at h
      · rename_i cs wr' hg0
        cases htt : (Nat.beq cs.length m && (wr' || !wr)) with
        | false => rw [htt] at h; cases h
        | true =>
        rw [htt] at h; simp only [cond_true] at h
        simp only [Bool.and_eq_true] at htt
        split at h
        · rename_i g0 hg1
          split at h
          · rename_i g' hg
            cases h
            obtain ⟨⟨h1, e1, e2⟩, h3⟩ := getObjs_rep ho hx r (j0 + 1) g0.b g' hg hb hk.2 (by omega) (hf.sub fun i hi => by simp at hi ⊢; rcases hi with hi | hi <;> simp [hi])
            have h4 := ho k
            rw [hg0] at h4
            obtain ⟨b', vs, tid, h5, h6, h7, h8⟩ := h4
            obtain ⟨⟨a1, h9, h10⟩, h11⟩ := getSK_rep ho hx ks cs vs.toList b g0 g'.ds hg1 h7 (fun j o hj => hb j o (h3 j o hj)) hk.1 (hf.sub fun i hi => by simp at hi ⊢; rcases hi with hi | hi <;> simp [hi])
            have hbb : bget bf j0 = some (some k) := hb _ _ (h3 _ _ (h11 _ _ hbk))
            refine ⟨⟨(j0, .var a1 wr) :: h1, by simp only [putObjs, h9, e1]; rfl, fun i => ?_⟩, fun j o hj => h3 j o (h11 j o hj)⟩
            rw [hget_cons]
            split
            · rename_i hji; subst hji
              refine .inr ⟨Nat.le_refl _, by omega, ⟨b', vs, tid, by rw [νOf_some hbb]; exact h5, h6, h10, h8⟩, .inr ⟨k, hbb, fun b hb' => ?_, fun cs' hc => ⟨cs, wr', hg0⟩, by rw [hg0]; intro hd; cases hd⟩⟩
              cases wr with
              | false => cases hb'
              | true =>
                have hw : wr' = true := by simpa using htt.2
                rw [hg0, hw]; exact hb'
            · exact (e2 i).imp id fun ⟨a, b, c⟩ => ⟨by omega, b, c⟩
          · cases h
        · cases h
      · cases h
    · cases h
  | .map k v :: r, j0, b, g, h, hb, hk, hn, hf => by
    simp only [objsOk] at hk
    simp only [List.length_cons] at hn
    simp only [getObjs] at h
    split at h
    · rename_i k0 hbk
      split at h
      · rename_i k' v' m hg0
        split at h
        · rename_i y hy
          obtain ⟨he, rfl⟩ := castD_spec hy
          cases he
          split at h
          · rename_i g' hg
            cases h
            obtain ⟨⟨h1, e1, e2⟩, h3⟩ := getObjs_rep ho hx r (j0 + 1) b g' hg hb hk (by omega) hf
            have hbb : bget bf j0 = some (some k0) := hb _ _ (h3 _ _ hbk)
            refine ⟨⟨(j0, .map k v m) :: h1, by simp only [putObjs, e1]; rw [show castD (.slice (.prod k v)) (.slice (.prod k v)) _ = some m from castD_self _ _]; rfl, fun i => ?_⟩, h3⟩
            rw [hget_cons]
            split
            · rename_i hji; subst hji
              have h4 := ho k0
              rw [hg0] at h4
              refine .inr ⟨Nat.le_refl _, by omega, ?_, .inr ⟨k0, hbb, fun b hb' => by rw [hg0]; exact hb', (fun cs hc => nomatch hc), by rw [hg0]; intro hd; cases hd⟩⟩
              obtain ⟨ra, es, c, h5, h6, h7⟩ := h4
              exact ⟨ra, es, c, by rw [νOf_some hbb]; exact h5, h6, EntR_mono hx _ _ h7⟩
            · exact (e2 i).imp id fun ⟨a, b, c⟩ => ⟨by omega, b, c⟩
          · cases h
        · cases h
      · cases h
    · cases h
  | .iter :: r, j0, b, g, h, hb, hk, hn, hf => by
    simp only [objsOk] at hk
    simp only [List.length_cons] at hn
    simp only [getObjs] at h
    split at h
    · rename_i k0 hbk
      split at h
      · rename_i s pos hg0
        split at h
        · rename_i g' hg
          cases h
          obtain ⟨⟨h1, e1, e2⟩, h3⟩ := getObjs_rep ho hx r (j0 + 1) b g' hg hb hk (by omega) hf
          have hbb : bget bf j0 = some (some k0) := hb _ _ (h3 _ _ hbk)
          have hc1 : castD .str .str s = some s := castD_self _ _
          have hc2 : castD (.int .i64) (.int .i64) (pos : Int) = some (pos : Int) := castD_self (.int .i64) _
          refine ⟨⟨(j0, .iter s pos) :: h1, by simp only [putObjs, e1]; rw [show castD .str .str _ = some s from hc1, show castD (.int .i64) (.int .i64) _ = some (pos : Int) from hc2]; rfl, fun i => ?_⟩, h3⟩
          rw [hget_cons]
          split
          · rename_i hji; subst hji
            have h4 := ho k0
            rw [hg0] at h4
            refine .inr ⟨Nat.le_refl _, by omega, ?_, .inr ⟨k0, hbb, fun b hb' => by rw [hg0]; exact hb', (fun cs hc => nomatch hc), by rw [hg0]; intro hd; cases hd⟩⟩
            obtain ⟨ra, h5, h6⟩ := h4
            exact ⟨ra, by rw [νOf_some hbb]; exact h5, h6⟩
          · exact (e2 i).imp id fun ⟨a, b, c⟩ => ⟨by omega, b, c⟩
        · cases h
      · cases h
    · cases h
  | .gone :: r, j0, b, g, h, hb, hk, hn, hf => by
    simp only [objsOk] at hk
    simp only [List.length_cons] at hn
    simp only [getObjs] at h
    obtain ⟨⟨h1, e1, e2⟩, h3⟩ := getObjs_rep ho hx r (j0 + 1) b g h hb hk (by omega) hf
    exact ⟨⟨h1, by simp only [putObjs, e1], fun i => (e2 i).imp id fun ⟨a, b, c⟩ => ⟨by omega, b, c⟩⟩, h3⟩
  | .keep :: r, j0, b, g, h, hb, hk, hn, hf => by
    simp only [objsOk] at hk
    simp only [List.length_cons] at hn
    simp only [getObjs] at h
    obtain ⟨⟨h1, e1, e2⟩, h3⟩ := getObjs_rep ho hx r (j0 + 1) b g h hb hk (by omega) hf
    exact ⟨⟨h1, by simp only [putObjs, e1], fun i => (e2 i).imp id fun ⟨a, b, c⟩ => ⟨by omega, b, c⟩⟩, h3⟩

/-- One's own blocks. -/
def OwnB (ν : Mu) (h : Heap) : Nat → Prop := fun b => ∃ i, mutB (hget h i) (ν i).v = some b
/-- WHAT STANDS BEHIND A PATTERN's DATA in a world: values, and objects. -/
def PRep (w : World) (Mo : Nat → Prop) (p : Pat) (ds : List DV) (vs : List Value) (ν : Mu) : Prop :=
  ∃ avs h, putPat id p ds = some (avs, h) ∧ VRs w (MM Mo ν h) ν (fun j => j < p.objs.length) avs vs ∧ HS w (OwnB ν h) Mo w ν (fun j => j < p.objs.length) h

/-- What is taken out of a state stands in the world. -/
theorem getPat_rep {w0 : World} {B0 Mo : Nat → Prop} (hs : HS w0 B0 Mo w μ U H) {p : Pat} {avs : List AV} {vs : List Value} {b0 : Bnd} {g : Got} (hv : VRs w (MM Mo μ H) μ U avs vs)
    (h : getPat H p avs b0 = some g) (hok : g.ok = true) (hp : p.ok = true) {Mo' : Nat → Prop} (hM : ∀ b, Mo' b → MM Mo μ H b ∧ b < w.heap.size)
    (hown : ∀ a1 h1, putPat id p g.ds = some (a1, h1) → ∀ b, OwnB (νOf μ g.b) h1 b → ¬ Mo' b) (hfr : Frees H μ (g.fz ++ g.br) Mo') :
    PRep w Mo' p g.ds vs (νOf μ g.b) ∧ (∀ j o, bget b0 j = some o → bget g.b j = some o) ∧
      (∀ a1 h1, putPat id p g.ds = some (a1, h1) → ∀ i, hget h1 i = .dead ∨ (i < p.objs.length ∧ SrcOK H μ g.b i (hget h1 i))) := by
  unfold getPat at h
  split at h
  · rename_i g0 hg0
    split at h
    · rename_i g1 hg1
      cases h
      simp only [Got.ok, Bool.and_eq_true] at hok
      simp only [Pat.ok, Bool.and_eq_true] at hp
      -- the blocks that stay open
      let M2 : Nat → Prop := fun b => Mo' b ∨ ∃ i k, bget g1.b i = some (some k) ∧ mutB (hget H k) (μ k).v = some b
      have hM2 : ∀ b, M2 b → MM Mo μ H b := fun b hb => hb.elim (fun hb => (hM b hb).1) fun ⟨i, k, _, hk⟩ => .inr ⟨k, hk⟩
      have hx : Ext w (MM Mo μ H) w M2 := Ext.sub w hM2
      have hnot : ∀ j ∈ (g0.fz ++ g1.fz) ++ (g0.br ++ g1.br), ∀ i, bget g1.b i ≠ some (some j) := fun j hj i hb => by
        have h1 := idsOf_mem (bget_mem hb)
        rcases List.mem_append.1 hj with hj | hj
        · exact apartN_spec hok.2.1 j hj h1
        · exact apartN_spec hok.2.2 j hj h1
      have hf2 : Frees H μ ((g0.fz ++ g1.fz) ++ (g0.br ++ g1.br)) M2 := fun j hj tid e l hg b hb hm => by
        rcases hm with hm | ⟨i, k, h1, h2⟩
        · exact hfr j hj tid e l hg b hb hm
        · have := hs.inj j k b (by rw [hg]; exact hb) h2
          subst this
          exact hnot j hj i h1
      obtain ⟨⟨h1, e1, e2⟩, e3⟩ := getObjs_rep (bf := g1.b) (n := p.objs.length) hs.obj hx p.objs 0 g0.b g1 hg1 (fun j o hj => hj) hp.2 (by omega) (hf2.sub fun i hi => by simp at hi ⊢; rcases hi with hi | hi <;> simp [hi])
      obtain ⟨⟨a1, e4, e5⟩, e6⟩ := getSK_rep (bf := g1.b) (n := p.objs.length) hs.obj hx p.ks avs vs b0 g0 g1.ds hg0 hv (fun j o hj => e3 j o hj) hp.1 (hf2.sub fun i hi => by simp at hi ⊢; rcases hi with hi | hi <;> simp [hi])
      have hput : putPat id p (g0.ds ++ g1.ds) = some (a1, h1) := by simp only [putPat, e4, e1]
      refine ⟨⟨a1, h1, hput, ?_, ?_⟩, fun j o hj => e3 j o (e6 j o hj), fun a1' h1' hp' i => by
        rw [hput] at hp'; cases hp'
        exact (e2 i).imp (fun h => h) fun ⟨_, h1, _, h2⟩ => ⟨h1, h2⟩⟩
      all_goals
        have hsrc : ∀ i b, mutB (hget h1 i) (νOf μ g1.b i).v = some b → ∃ k, bget g1.b i = some (some k) ∧ mutB (hget H k) (μ k).v = some b := fun i b hb => by
          rcases e2 i with hd | ⟨_, _, _, hsrc⟩
          · rw [hd] at hb; cases hb
          · rcases hsrc with ⟨tid, e, l, ho, hbn⟩ | ⟨k, hbk, hmk, _⟩
            · rw [ho, νOf_none hbn] at hb; cases hb
            · rw [νOf_some hbk] at hb; exact ⟨k, hbk, hmk b hb⟩
        have hM3 : ∀ b, MM Mo' (νOf μ g1.b) h1 b → M2 b := fun b hb => hb.imp id fun ⟨i, hi⟩ => let ⟨k, h2, h3⟩ := hsrc i b hi; ⟨i, k, h2, h3⟩
        have hnx : Next w M2 (νOf μ g1.b) (fun j => j < p.objs.length) w (MM Mo' (νOf μ g1.b) h1) (νOf μ g1.b) (fun j => j < p.objs.length) := ⟨Ext.sub w hM3, fun _ _ => rfl, fun _ h => h⟩
      · exact VRs_mono hnx _ _ e5
      · refine ⟨fun i => ?_, fun i j b hi hj => ?_, fun i b hi => ?_, fun i cs hi => ?_, fun i => ?_, fun b hb => (hM b hb).2, Grew.refl _, fun _ _ _ => rfl⟩
        · rcases e2 i with hd | ⟨_, _, ho, _⟩
          · rw [hd]; trivial
          · exact objOK_mono hnx rfl (fun _ _ => rfl) (fun _ _ _ _ => rfl) ho
        · obtain ⟨k, h2, h3⟩ := hsrc i b hi
          obtain ⟨k', h4, h5⟩ := hsrc j b hj
          have := hs.inj k k' b h3 h5
          subst this
          exact nodup_ids hok.1 (bget_mem h2) (bget_mem h4)
        · obtain ⟨k, h2, h3⟩ := hsrc i b hi
          exact ⟨hown a1 h1 hput b ⟨i, hi⟩, (hs.out k b h3).2.1, .inl ⟨i, hi⟩⟩
        · rcases e2 i with hd | ⟨_, _, ho, hsr⟩
          · rw [hd] at hi; cases hi
          · rw [hi] at ho hsr
            rcases hsr with ⟨tid, e, l, ho', _⟩ | ⟨k, hbk, _, hvar, _⟩
            · cases ho'
            · obtain ⟨b, vs', tid, h2, h3, _⟩ := ho
              refine ⟨b, by rw [h2]; rfl, (Array.getElem?_eq_some_iff.1 h3).1, fun j hj => ?_⟩
              obtain ⟨k', h4, h5⟩ := hsrc j b hj
              obtain ⟨cs', wr, hvk⟩ := hvar cs rfl
              rw [νOf_some hbk] at h2
              cases wr with
              | true =>
                have hmk : mutB (hget H k) (μ k).v = some b := by rw [hvk, h2]; rfl
                have := hs.inj k k' b hmk h5
                subst this
                have := nodup_ids hok.1 (bget_mem hbk) (bget_mem h4)
                subst this
                rw [hi] at hj; cases hj
              | false =>
                obtain ⟨b2, hb1, _, hb3⟩ := hs.ro k cs' hvk
                rw [h2] at hb1; cases hb1
                exact hb3 k' h5
        · rcases e2 i with hd | ⟨_, hlt, _, _⟩
          · exact .inl hd
          · exact .inr hlt
    · cases h
  · cases h
end
end Go.Tat

namespace Go.Tat
set_option linter.unusedVariables false
section
variable {P : Program} {w w' : World} {M M' : Nat → Prop} {μ μ' : Mu} {U U' : Nat → Prop} {H : Heap}

/-- Values that mean the same, one by one. -/
def ARs (w : World) (M : Nat → Prop) (μ : Mu) (U : Nat → Prop) (w' : World) (M' : Nat → Prop) (μ' : Mu) (U' : Nat → Prop) : List AV → List AV → Prop
  | [], ys => ys = []
  | x :: xs, ys => ∃ y ys', ys = y :: ys' ∧ (∀ v, VR w M μ U x v → VR w' M' μ' U' y v) ∧ ARs w M μ U w' M' μ' U' xs ys'
theorem ARs_VRs : ∀ {xs ys : List AV} {vs : List Value}, ARs w M μ U w' M' μ' U' xs ys → VRs w M μ U xs vs → VRs w' M' μ' U' ys vs
  | [], ys, vs, h, hv => by unfold VRs at hv; rw [show ys = [] from h]; unfold VRs; exact hv
  | x :: xs, ys, vs, h, hv => by
    obtain ⟨y, ys', rfl, h1, h2⟩ := h
    unfold VRs at hv ⊢
    obtain ⟨v, vs', rfl, h3, h4⟩ := hv
    exact ⟨v, vs', rfl, h1 v h3, ARs_VRs h2 h4⟩
theorem ARs_take : ∀ (n : Nat) {xs ys : List AV}, ARs w M μ U w' M' μ' U' xs ys → ARs w M μ U w' M' μ' U' (xs.take n) (ys.take n)
  | 0, xs, ys, h => by simp [ARs]
  | n + 1, [], ys, h => by rw [show ys = [] from h]; simp [ARs]
  | n + 1, x :: xs, ys, h => by
    obtain ⟨y, ys', rfl, h1, h2⟩ := h
    exact ⟨y, ys'.take n, rfl, h1, ARs_take n h2⟩
theorem ARs_drop : ∀ (n : Nat) {xs ys : List AV}, ARs w M μ U w' M' μ' U' xs ys → ARs w M μ U w' M' μ' U' (xs.drop n) (ys.drop n)
  | 0, xs, ys, h => by simpa using h
  | n + 1, [], ys, h => by rw [show ys = [] from h]; simp [ARs]
  | n + 1, x :: xs, ys, h => by
    obtain ⟨y, ys', rfl, h1, h2⟩ := h
    simpa using ARs_drop n h2

theorem putSK_ren {mu : Nat → Nat} (hx : Ext w M w' M') (hmu : ∀ j, U j → μ' (mu j) = μ j ∧ U' (mu j)) :
    ∀ (ks : List SK) (ds : List DV) (a1 : List AV) (r : List DV), putSK id ks ds = some (a1, r) → ∃ a2, putSK mu ks ds = some (a2, r) ∧ ARs w M μ U w' M' μ' U' a1 a2
  | [], ds, a1, r, h => by simp only [putSK, Option.some.injEq, Prod.mk.injEq] at h; obtain ⟨rfl, rfl⟩ := h; exact ⟨[], rfl, rfl⟩
  | .data t :: ks, [], a1, r, h => by cases h
  | .data t :: ks, ⟨t', x⟩ :: ds, a1, r, h => by
    simp only [putSK] at h
    split at h
    · rename_i vs r' hr
      cases h
      obtain ⟨a2, e1, e2⟩ := putSK_ren hx hmu ks ds vs _ hr
      exact ⟨.d t' x :: a2, by simp only [putSK, e1], _, _, rfl, fun v hv => VR_data_mono hx hv, e2⟩
    · cases h
  | .bor t :: ks, [], a1, r, h => by cases h
  | .bor t :: ks, ⟨t', x⟩ :: ds, a1, r, h => by
    simp only [putSK] at h
    split at h
    · rename_i vs r' hr
      cases h
      obtain ⟨a2, e1, e2⟩ := putSK_ren hx hmu ks ds vs _ hr
      exact ⟨.d t' x :: a2, by simp only [putSK, e1], _, _, rfl, fun v hv => VR_data_mono hx hv, e2⟩
    · cases h
  | .own j :: ks, ds, a1, r, h => by
    simp only [putSK] at h
    split at h
    · rename_i vs r' hr
      cases h
      obtain ⟨a2, e1, e2⟩ := putSK_ren hx hmu ks ds vs _ hr
      refine ⟨.own (mu j) :: a2, by simp only [putSK, e1], _, _, rfl, fun v hv => ?_, e2⟩
      unfold VR at hv ⊢
      exact ⟨(hmu j hv.1).2, by rw [(hmu j hv.1).1]; exact hv.2⟩
    · cases h
  | .ptr j off :: ks, ds, a1, r, h => by
    simp only [putSK] at h
    split at h
    · rename_i vs r' hr
      cases h
      obtain ⟨a2, e1, e2⟩ := putSK_ren hx hmu ks ds vs _ hr
      refine ⟨.ptr (mu j) off :: a2, by simp only [putSK, e1], _, _, rfl, fun v hv => ?_, e2⟩
      unfold VR at hv ⊢
      exact ⟨(hmu j hv.1).2, by rw [(hmu j hv.1).1]; exact hv.2⟩
    · cases h
  | .aptr j :: ks, ds, a1, r, h => by
    simp only [putSK] at h
    split at h
    · rename_i vs r' hr
      cases h
      obtain ⟨a2, e1, e2⟩ := putSK_ren hx hmu ks ds vs _ hr
      refine ⟨.aptr (mu j) :: a2, by simp only [putSK, e1], _, _, rfl, fun v hv => ?_, e2⟩
      unfold VR at hv ⊢
      exact ⟨(hmu j hv.1).2, by rw [(hmu j hv.1).1]; exact hv.2⟩
    · cases h
  | .map j :: ks, ds, a1, r, h => by
    simp only [putSK] at h
    split at h
    · rename_i vs r' hr
      cases h
      obtain ⟨a2, e1, e2⟩ := putSK_ren hx hmu ks ds vs _ hr
      refine ⟨.map (mu j) :: a2, by simp only [putSK, e1], _, _, rfl, fun v hv => ?_, e2⟩
      unfold VR at hv ⊢
      exact ⟨(hmu j hv.1).2, by rw [(hmu j hv.1).1]; exact hv.2⟩
    · cases h
  | .iter j :: ks, ds, a1, r, h => by
    simp only [putSK] at h
    split at h
    · rename_i vs r' hr
      cases h
      obtain ⟨a2, e1, e2⟩ := putSK_ren hx hmu ks ds vs _ hr
      refine ⟨.iter (mu j) :: a2, by simp only [putSK, e1], _, _, rfl, fun v hv => ?_, e2⟩
      unfold VR at hv ⊢
      exact ⟨(hmu j hv.1).2, by rw [(hmu j hv.1).1]; exact hv.2⟩
    · cases h
  | .agg n :: ks, ds, a1, r, h => by
    simp only [putSK] at h
    split at h
    · rename_i vs r' hr
      cases h
      obtain ⟨a2, e1, e2⟩ := putSK_ren hx hmu ks ds vs _ hr
      refine ⟨.agg (a2.take n) :: a2.drop n, by simp only [putSK, e1], _, _, rfl, fun v hv => ?_, ARs_drop n e2⟩
      unfold VR at hv ⊢
      obtain ⟨us, h1, h2, h3⟩ := hv
      exact ⟨us, h1, ARs_VRs (ARs_take n e2) h2, h3⟩
    · cases h
  | .fn f n m :: ks, ds, a1, r, h => by
    simp only [putSK] at h
    split at h
    · rename_i vs r' hr
      cases h
      obtain ⟨a2, e1, e2⟩ := putSK_ren hx hmu ks ds vs _ hr
      refine ⟨.fn f (a2.take n) ((a2.drop n).take m) :: a2.drop (n + m), by simp only [putSK, e1], _, _, rfl, fun v hv => ?_, ARs_drop _ e2⟩
      unfold VR at hv ⊢
      obtain ⟨x, y, h1, h2, h3⟩ := hv
      exact ⟨x, y, h1, ARs_VRs (ARs_take n e2) h2, ARs_VRs (ARs_take m (ARs_drop n e2)) h3⟩
    · cases h

/-- The same object under other numbers. -/
def ObjRen (w : World) (M : Nat → Prop) (μ : Mu) (U : Nat → Prop) (w' : World) (M' : Nat → Prop) (μ' : Mu) (U' : Nat → Prop) (o o' : AObj) : Prop :=
  (∃ cs cs' wr, o = .var cs wr ∧ o' = .var cs' wr ∧ ARs w M μ U w' M' μ' U' cs cs') ∨ (o' = o ∧ ∀ cs wr, o ≠ .var cs wr)
theorem ObjRen.mut {o o' : AObj} (h : ObjRen w M μ U w' M' μ' U' o o') (v : Value) : mutB o' v = mutB o v := by
  rcases h with ⟨cs, cs', wr, rfl, rfl, _⟩ | ⟨rfl, _⟩
  · cases wr <;> rfl
  · rfl
theorem putObjs_ren {mu : Nat → Nat} (hx : Ext w M w' M') (hmu : ∀ j, U j → μ' (mu j) = μ j ∧ U' (mu j)) :
    ∀ (objs : List OK) (j0 : Nat) (ds : List DV) (h1 : Heap), putObjs id j0 objs ds = some h1 → ∃ h2, putObjs mu j0 objs ds = some h2 ∧
      (∀ i, (∀ j, j0 ≤ j → j < j0 + objs.length → hget h1 j ≠ .dead → mu j ≠ i) → ∀ G, hget (h2 ++ G) i = hget G i) ∧
      (∀ j, hget h1 j ≠ .dead → j0 ≤ j ∧ j < j0 + objs.length ∧ ((∀ j', j0 ≤ j' → j' < j → hget h1 j' ≠ .dead → mu j' ≠ mu j) → ∀ G, ObjRen w M μ U w' M' μ' U' (hget h1 j) (hget (h2 ++ G) (mu j))))
  | [], j0, ds, h1, h => by
    cases ds with
    | nil =>
      simp only [putObjs, Option.some.injEq] at h; subst h
      exact ⟨[], rfl, fun i _ G => rfl, fun j hj => (hj rfl).elim⟩
    | cons => cases h
  | o :: r, j0, ds, h1, h => by
    -- one object in front
    have key : ∀ (ob ob2 : AObj) (ds' : List DV) (hr : Heap), putObjs id (j0 + 1) r ds' = some hr → h1 = (j0, ob) :: hr → ob ≠ .dead → (∀ h2', putObjs mu (j0 + 1) r ds' = some h2' → putObjs mu j0 (o :: r) ds = some ((mu j0, ob2) :: h2')) →
        ObjRen w M μ U w' M' μ' U' ob ob2 → ∃ h2, putObjs mu j0 (o :: r) ds = some h2 ∧
      (∀ i, (∀ j, j0 ≤ j → j < j0 + (o :: r).length → hget h1 j ≠ .dead → mu j ≠ i) → ∀ G, hget (h2 ++ G) i = hget G i) ∧
      (∀ j, hget h1 j ≠ .dead → j0 ≤ j ∧ j < j0 + (o :: r).length ∧ ((∀ j', j0 ≤ j' → j' < j → hget h1 j' ≠ .dead → mu j' ≠ mu j) → ∀ G, ObjRen w M μ U w' M' μ' U' (hget h1 j) (hget (h2 ++ G) (mu j)))) := fun ob ob2 ds' hr hp he hd hput hren => by
      obtain ⟨h2', e1, e2, e3⟩ := putObjs_ren hx hmu r (j0 + 1) ds' hr hp
      have hj0 : hget h1 j0 = ob := by rw [he, hget_cons, if_pos rfl]
      have hjn : ∀ j, j ≠ j0 → hget h1 j = hget hr j := fun j hj => by rw [he, hget_cons, if_neg (Ne.symm hj)]
      refine ⟨(mu j0, ob2) :: h2', hput h2' e1, fun i hi G => ?_, fun j hj => ?_⟩
      · rw [List.cons_append, hget_cons, if_neg (hi j0 (Nat.le_refl _) (by simp) (by rw [hj0]; exact hd))]
        refine e2 i (fun j hj1 hj2 hj3 => hi j (by omega) (by simp; omega) (by rw [hjn j (by omega)]; exact hj3)) G
      · by_cases hjj : j = j0
        · subst hjj
          refine ⟨Nat.le_refl _, by simp, fun _ G => ?_⟩
          rw [hj0, List.cons_append, hget_cons, if_pos rfl]
          exact hren
        · rw [hjn j hjj] at hj ⊢
          obtain ⟨h3, h4, h5⟩ := e3 j hj
          refine ⟨by omega, by simp; omega, fun hinj G => ?_⟩
          rw [List.cons_append, hget_cons, if_neg (hinj j0 (Nat.le_refl _) (by omega) (by rw [hj0]; exact hd))]
          exact h5 (fun j' h6 h7 h8 => hinj j' (by omega) h7 (by rw [hjn j' (by omega)]; exact h8)) G
    have skip : ∀ (hr : putObjs id (j0 + 1) r ds = some h1) (hput : putObjs mu j0 (o :: r) ds = putObjs mu (j0 + 1) r ds), ∃ h2, putObjs mu j0 (o :: r) ds = some h2 ∧
      (∀ i, (∀ j, j0 ≤ j → j < j0 + (o :: r).length → hget h1 j ≠ .dead → mu j ≠ i) → ∀ G, hget (h2 ++ G) i = hget G i) ∧
      (∀ j, hget h1 j ≠ .dead → j0 ≤ j ∧ j < j0 + (o :: r).length ∧ ((∀ j', j0 ≤ j' → j' < j → hget h1 j' ≠ .dead → mu j' ≠ mu j) → ∀ G, ObjRen w M μ U w' M' μ' U' (hget h1 j) (hget (h2 ++ G) (mu j)))) := fun hr hput => by
      obtain ⟨h2, e1, e2, e3⟩ := putObjs_ren hx hmu r (j0 + 1) ds h1 hr
      refine ⟨h2, by rw [hput, e1], fun i hi G => e2 i (fun j hj1 hj2 hj3 => hi j (by omega) (by simp; omega) hj3) G, fun j hj => ?_⟩
      obtain ⟨h3, h4, h5⟩ := e3 j hj
      exact ⟨by omega, by simp; omega, fun hinj G => h5 (fun j' h6 h7 h8 => hinj j' (by omega) h7 h8) G⟩
    cases o with
    | row fix tid e =>
      cases ds with
      | nil => cases h
      | cons d ds =>
        obtain ⟨t, x⟩ := d
        simp only [putObjs] at h
        split at h
        · rename_i l hl
          split at h
          · rename_i hr hp
            cases h
            exact key (.row tid e l true) _ ds hr hp rfl (fun hc => by cases hc) (fun h2' hp2 => by simp only [putObjs, hl, hp2]) (.inr ⟨rfl, fun cs wr hc => by cases hc⟩)
          · cases h
        · cases h
    | arr n e =>
      cases ds with
      | nil => cases h
      | cons d ds =>
        obtain ⟨t, x⟩ := d
        simp only [putObjs] at h
        split at h
        · rename_i l hl
          split at h
          · rename_i hr hp
            cases h
            exact key (.arr n e l) _ ds hr hp rfl (fun hc => by cases hc) (fun h2' hp2 => by simp only [putObjs, hl, hp2]) (.inr ⟨rfl, fun cs wr hc => by cases hc⟩)
          · cases h
        · cases h
    | var wr n ks =>
      simp only [putObjs] at h
      split at h
      · rename_i cs ds' hsk
        split at h
        · rename_i hr hp
          cases h
          obtain ⟨a2, e1, e2⟩ := putSK_ren hx hmu ks ds cs ds' hsk
          exact key (.var cs wr) (.var a2 wr) ds' hr hp rfl (fun hc => by cases hc) (fun h2' hp2 => by simp only [putObjs, e1, hp2]) (.inl ⟨_, _, _, rfl, rfl, e2⟩)
        · cases h
      · cases h
    | map k v =>
      cases ds with
      | nil => cases h
      | cons d ds =>
        obtain ⟨t, x⟩ := d
        simp only [putObjs] at h
        split at h
        · rename_i l hl
          split at h
          · rename_i hr hp
            cases h
            exact key (.map k v l) _ ds hr hp rfl (fun hc => by cases hc) (fun h2' hp2 => by simp only [putObjs, hl, hp2]) (.inr ⟨rfl, fun cs wr hc => by cases hc⟩)
          · cases h
        · cases h
    | iter =>
      match ds, h, key, skip with
      | [], h, key, skip => cases h
      | [_], h, key, skip => cases h
      | ⟨t, x⟩ :: ⟨u, y⟩ :: ds, h, key, skip =>
        simp only [putObjs] at h
        split at h
        · rename_i s n hs hn
          split at h
          · rename_i hr hp
            cases h
            exact key (.iter s (Int.toNat n)) _ ds hr hp rfl (fun hc => by cases hc) (fun h2' hp2 => by simp only [putObjs, hs, hn, hp2]) (.inr ⟨rfl, fun cs wr hc => by cases hc⟩)
          · cases h
        · cases h
    | gone => exact skip (by simpa only [putObjs] using h) (by simp only [putObjs])
    | keep => exact skip (by simpa only [putObjs] using h) (by simp only [putObjs])
end
end Go.Tat

namespace Go.Tat
set_option linter.unusedVariables false

theorem objOK_ren {w : World} {M M' : Nat → Prop} {ν μ' : Mu} {Uc U' : Nat → Prop} {j i : Nat} {o o' : AObj} (hx : Ext w M w M') (hi : μ' i = ν j) (hr : ObjRen w M ν Uc w M' μ' U' o o') (h : objOK w M ν Uc j o) : objOK w M' μ' U' i o' := by
  rcases hr with ⟨cs, cs', wr, rfl, rfl, ha⟩ | ⟨rfl, hv⟩
  · obtain ⟨b, vs, tid, h1, h2, h3, h4⟩ := h
    exact ⟨b, vs, tid, by rw [hi]; exact h1, h2, ARs_VRs ha h3, h4⟩
  · cases o' with
    | row tid e l live =>
      cases live with
      | true => obtain ⟨hn, xs, h1, h2⟩ := h; exact ⟨by rw [hi]; exact hn, xs, by rw [hi]; exact h1, h2.mono fun x c _ hc => CR_mono hx _ _ _ hc⟩
      | false => exact ⟨by rw [hi]; exact h.1, by rw [hi]; exact CR_mono hx _ _ _ h.2.1, by rw [hi]; exact h.2.2⟩
    | arr n e l => obtain ⟨hn, b, vs, tid, h1, h2, h3⟩ := h; exact ⟨by rw [hi]; exact hn, b, vs, tid, by rw [hi]; exact h1, h2, CR_mono hx _ _ _ h3⟩
    | var cs wr => exact (hv cs wr rfl).elim
    | map k v m => obtain ⟨r, es, c, h1, h2, h3⟩ := h; exact ⟨r, es, c, by rw [hi]; exact h1, h2, EntR_mono hx _ _ h3⟩
    | iter s pos => obtain ⟨r, h1, h2⟩ := h; exact ⟨r, by rw [hi]; exact h1, h2⟩
    | dead => trivial

theorem HS.join {w0 : World} {B0 Mo : Nat → Prop} {w : World} {μ : Mu} {U : Nat → Prop} {H : Heap} (hs : HS w0 B0 Mo w μ U H) {w' : World} {C : Nat → Prop} {Moc : Nat → Prop} {ν' : Mu} {Uc : Nat → Prop} {h' : Heap}
    (hc : HS w' (OwnB ν' h') Moc w' ν' Uc h') {mu : Nat → Nat} {μ' : Mu} {U' : Nat → Prop} {H' : Heap}
    (hC : ∀ b, C b → ∃ k, mutB (hget H k) (μ k).v = some b)
    (hk : ∀ b, b < w.heap.size → ¬ C b → w'.heap[b]? = w.heap[b]?) (hz : Grew w w')
    (hown : ∀ b, OwnB ν' h' b → C b ∨ w.heap.size ≤ b)
    (hmu : ∀ j, Uc j → μ' (mu j) = ν' j ∧ U' (mu j)) (hU : ∀ i, U i → μ' i = μ i ∧ U' i)
    (hinj : ∀ j1 j2, hget h' j1 ≠ .dead → hget h' j2 ≠ .dead → mu j1 = mu j2 → j1 = j2)
    (hA : ∀ j, hget h' j ≠ .dead → ObjRen w' (MM Moc ν' h') ν' Uc w' (MM Mo μ' H') μ' U' (hget h' j) (hget H' (mu j)))
    (hro' : ∀ j cs, hget h' j ≠ .var cs false)
    (hB : ∀ i, (∀ j, hget h' j ≠ .dead → mu j ≠ i) → LeO (hget H i) (hget H' i) ∧ (∀ b, mutB (hget H i) (μ i).v = some b → C b → hget H' i = .dead))
    (hX : (∀ j, hget h' j = .dead) ∨ Ext w' (MM Moc ν' h') w' (MM Mo μ' H')) :
    HS w0 B0 Mo w' μ' U' H' ∧ Next w (MM Mo μ H) μ U w' (MM Mo μ' H') μ' U' := by
  -- who stands at a number
  have who : ∀ i, (∃ j, hget h' j ≠ .dead ∧ mu j = i) ∨ (∀ j, hget h' j ≠ .dead → mu j ≠ i) := fun i => by
    by_cases h : ∃ j, hget h' j ≠ .dead ∧ mu j = i
    · exact .inl h
    · exact .inr fun j hj he => h ⟨j, hj, he⟩
  have hUc : ∀ j, hget h' j ≠ .dead → Uc j := fun j hj => (hc.use j).resolve_left hj
  have hUH : ∀ i, hget H i ≠ .dead → U i := fun i hi => (hs.use i).resolve_left hi
  have mutA : ∀ j b, hget h' j ≠ .dead → mutB (hget H' (mu j)) (μ' (mu j)).v = some b → mutB (hget h' j) (ν' j).v = some b := fun j b hj hm => by
    rw [(hA j hj).mut, (hmu j (hUc j hj)).1] at hm; exact hm
  have mutBo : ∀ i b, (∀ j, hget h' j ≠ .dead → mu j ≠ i) → mutB (hget H' i) (μ' i).v = some b → mutB (hget H i) (μ i).v = some b ∧ ¬ C b ∧ b < w.heap.size := fun i b hi hm => by
    obtain ⟨h1, h2⟩ := hB i hi
    have hnd : hget H' i ≠ .dead := fun hd => by rw [hd] at hm; cases hm
    have heq : hget H' i = hget H i := by
      rcases h1 with h1 | h1 | ⟨tid, e, l, c, h3, h4⟩
      · exact h1
      · exact (hnd h1).elim
      · rw [h4] at hm; cases hm
    have hHi : hget H i ≠ .dead := by rw [← heq]; exact hnd
    rw [heq, (hU i (hUH i hHi)).1] at hm
    exact ⟨hm, fun hcb => hnd (h2 b hm hcb), (hs.out i b hm).2.1⟩
  have hM' : ∀ b, b < w.heap.size → MM Mo μ' H' b → MM Mo μ H b := fun b hlt hm => by
    rcases hm with hm | ⟨i, hi⟩
    · exact .inl hm
    · rcases who i with ⟨j, hj, rfl⟩ | hno
      · rcases hown b ⟨j, mutA j b hj hi⟩ with h | h
        · obtain ⟨k, hk⟩ := hC b h; exact .inr ⟨k, hk⟩
        · omega
      · exact .inr ⟨i, (mutBo i b hno hi).1⟩
  have hCM : ∀ b, C b → MM Mo μ H b := fun b h => let ⟨k, hk⟩ := hC b h; .inr ⟨k, hk⟩
  have hext : Ext w (MM Mo μ H) w' (MM Mo μ' H') := fun a v hcell hm => by
    have hlt := World.block_lt_of_cell? w a hcell
    exact ⟨by rw [World.cell?_of_block (hk a.block hlt fun h => hm (hCM _ h))]; exact hcell, fun hm' => hm (hM' _ hlt hm')⟩
  have hnext : Next w (MM Mo μ H) μ U w' (MM Mo μ' H') μ' U' := ⟨hext, fun i hi => (hU i hi).1, fun i hi => (hU i hi).2⟩
  refine ⟨⟨fun i => ?_, fun i1 i2 b h1 h2 => ?_, fun i b hi => ?_, fun i cs hi => ?_, fun i => ?_, hs.mo, hs.grow.trans hz, fun b hlt hnb => ?_⟩, hnext⟩
  · rcases who i with ⟨j, hj, rfl⟩ | hno
    · rcases hX with hX | hX
      · exact (hj (hX j)).elim
      · exact objOK_ren hX (hmu j (hUc j hj)).1 (hA j hj) (hc.obj j)
    · obtain ⟨h1, h2⟩ := hB i hno
      by_cases hHi : hget H i = .dead
      · rcases h1 with h1 | h1 | ⟨tid, e, l, c, h3, h4⟩
        · rw [h1, hHi]; trivial
        · rw [h1]; trivial
        · rw [hHi] at h3; cases h3
      · have hui := hU i (hUH i hHi)
        have hnC : ∀ b, hget H' i ≠ .dead → mutB (hget H i) (μ i).v = some b → ¬ C b := fun b hnd hm hcb => hnd (h2 b hm hcb)
        rcases h1 with h1 | h1 | ⟨tid, e, l, c, h3, h4⟩
        · rw [h1]
          refine objOK_mono hnext hui.1 (fun b hb => ?_) (fun cs hcs b hb => ?_) (hs.obj i)
          · exact hk b (hs.out i b hb).2.1 (hnC b (by rw [h1]; exact hHi) hb)
          · obtain ⟨b', hb1, hb2, hb3⟩ := hs.ro i cs hcs
            rw [hb1] at hb; cases hb
            exact hk b hb2 fun hcb => by obtain ⟨k, hk⟩ := hC b hcb; exact hb3 k hk
        · rw [h1]; trivial
        · rw [h4]
          have h5 := hs.obj i
          rw [h3] at h5
          cases c with
          | false => exact ⟨by rw [hui.1]; exact h5.1, by rw [hui.1]; exact CR_mono hext _ _ _ h5.2.1, by rw [hui.1]; exact h5.2.2⟩
          | true =>
            obtain ⟨hn, xs, h6, h7⟩ := h5
            have hmi : ∀ b, (μ i).v.ownBlock = some b → mutB (hget H i) (μ i).v = some b := fun b hb => by rw [h3]; exact hb
            refine ⟨by rw [hui.1]; exact hn, ?_, by rw [hui.1]; exact ownsRow_off h6⟩
            rw [hui.1]
            refine row_data (ownsRow_same h6 fun b hb => hk b (hs.out i b (hmi b hb)).2.1 (hnC b (by rw [h4]; intro hd; cases hd) (hmi b hb))) (h7.mono fun y c _ hcc => CR_mono hext _ _ _ hcc) fun b hb hm => ?_
            have hnCb := hnC b (by rw [h4]; intro hd; cases hd) (hmi b hb)
            rcases hm with hm | ⟨i', hi'⟩
            · exact (hs.out i b (hmi b hb)).1 hm
            · rcases who i' with ⟨j, hj, rfl⟩ | hno'
              · rcases hown b ⟨j, mutA j b hj hi'⟩ with h | h
                · exact hnCb h
                · have := (hs.out i b (hmi b hb)).2.1; omega
              · have := hs.inj i i' b (hmi b hb) (mutBo i' b hno' hi').1
                subst this
                rw [h4] at hi'; cases hi'
  · rcases who i1 with ⟨j1, hj1, rfl⟩ | hno1 <;> rcases who i2 with ⟨j2, hj2, rfl⟩ | hno2
    · rw [hc.inj j1 j2 b (mutA j1 b hj1 h1) (mutA j2 b hj2 h2)]
    · obtain ⟨h3, h4, h5⟩ := mutBo i2 b hno2 h2
      rcases hown b ⟨j1, mutA j1 b hj1 h1⟩ with h | h
      · exact (h4 h).elim
      · omega
    · obtain ⟨h3, h4, h5⟩ := mutBo i1 b hno1 h1
      rcases hown b ⟨j2, mutA j2 b hj2 h2⟩ with h | h
      · exact (h4 h).elim
      · omega
    · exact hs.inj i1 i2 b (mutBo i1 b hno1 h1).1 (mutBo i2 b hno2 h2).1
  · rcases who i with ⟨j, hj, rfl⟩ | hno
    · have h1 := mutA j b hj hi
      have hlt := (hc.out j b h1).2.1
      rcases hown b ⟨j, h1⟩ with h | h
      · obtain ⟨k, hk⟩ := hC b h
        exact ⟨(hs.out k b hk).1, hlt, (hs.out k b hk).2.2⟩
      · exact ⟨fun hm => by have := hs.mo b hm; have := hs.grow.le; omega, hlt, .inr (Nat.le_trans hs.grow.le h)⟩
    · have h1 := hs.out i b (mutBo i b hno hi).1
      exact ⟨h1.1, Nat.lt_of_lt_of_le h1.2.1 hz.le, h1.2.2⟩
  · rcases who i with ⟨j, hj, rfl⟩ | hno
    · exfalso
      rcases hA j hj with ⟨cs1, cs2, wr, h1, h2, _⟩ | ⟨h1, h2⟩
      · rw [h2] at hi; cases hi; exact hro' j _ h1
      · rw [h1] at hi; exact hro' j _ hi
    · obtain ⟨h1, _⟩ := hB i hno
      have heq : hget H i = .var cs false := by
        rcases h1 with h1 | h1 | ⟨tid, e, l, c, h3, h4⟩
        · rw [← h1]; exact hi
        · rw [h1] at hi; cases hi
        · rw [h4] at hi; cases hi
      obtain ⟨b, hb1, hb2, hb3⟩ := hs.ro i cs heq
      refine ⟨b, by rw [(hU i (hUH i (by rw [heq]; intro hd; cases hd))).1]; exact hb1, Nat.lt_of_lt_of_le hb2 hz.le, fun i' hi' => ?_⟩
      rcases who i' with ⟨j, hj, rfl⟩ | hno'
      · rcases hown b ⟨j, mutA j b hj hi'⟩ with h | h
        · obtain ⟨k, hk⟩ := hC b h; exact hb3 k hk
        · omega
      · exact hb3 i' (mutBo i' b hno' hi').1
  · rcases who i with ⟨j, hj, rfl⟩ | hno
    · exact .inr (hmu j (hUc j hj)).2
    · obtain ⟨h1, _⟩ := hB i hno
      rcases hs.use i with h2 | h2
      · rcases h1 with h1 | h1 | ⟨tid, e, l, c, h3, h4⟩
        · exact .inl (h1.trans h2)
        · exact .inl h1
        · rw [h2] at h3; cases h3
      · exact .inr (hU i h2).2
  · have hnC : ¬ C b := fun hcb => by
      obtain ⟨k, hk⟩ := hC b hcb
      rcases (hs.out k b hk).2.2 with h | h
      · exact hnb h
      · omega
    rw [hk b (Nat.lt_of_lt_of_le hlt hs.grow.le) hnC]
    exact hs.keep b hlt hnb
end Go.Tat

namespace Go.Tat
set_option linter.unusedVariables false

def resV : List Value → Value
  | [v] => v
  | vs => .tuple vs.toArray
/-- The objects of a pattern. -/
def PH (p : Pat) (ds : List DV) : Heap := match putPat id p ds with | some (_, h) => h | none => []
theorem PH_eq {p : Pat} {ds : List DV} {a : List AV} {h : Heap} (e : putPat id p ds = some (a, h)) : PH p ds = h := by simp [PH, e]
def FnOK (P : Program) (f : FuncId) : Prop := ∃ fn, P.funcs[f]? = some fn ∧ (fn.name == "runtime.NumGoroutine") = false ∧ fn.body.isNone = false
/-- WHAT AN ENTRY PROMISES. -/
def Promise (P : Program) (f : FuncId) (pre post : Pat) (ds ds' : List DV) : Prop :=
  ∀ (w : World) (Mo : Nat → Prop) (args : List Value) (ν : Mu), PRep w Mo pre ds args ν →
    Calls P f args.toArray w fun e w' => ∃ vs ν', e = .returned (resV vs) ∧ PRep w' Mo post ds' vs ν' ∧ Grew w w' ∧
      (∀ b, b < w.heap.size → ¬ OwnB ν (PH pre ds) b → w'.heap[b]? = w.heap[b]?) ∧ (∀ b, OwnB ν' (PH post ds') b → OwnB ν (PH pre ds) b ∨ w.heap.size ≤ b) ∧
      (∀ j, j < pre.objs.length → (nthO post.objs j).fixed = true → ν' j = ν j)
def EntryOK (P : Program) (f : FuncId) (E : Entry) : Prop :=
  E.ok = true ∧ FnOK P f ∧ ∀ s q, E.F s = some q → Promise P f E.pre E.post (unpack E.pre.tys s) (unpack E.post.tys q)

theorem pack_unpack : ∀ (ts : List Ty) (ds : List DV) (s : denT ts), pack ts ds = some s → unpack ts s = ds
  | [], [], s, h => rfl
  | [], _ :: _, s, h => by cases h
  | [t], [], s, h => by cases h
  | [t], [⟨u, x⟩], s, h => by
    simp only [pack] at h
    obtain ⟨rfl, rfl⟩ := castD_spec h
    rfl
  | [t], _ :: _ :: _, s, h => by cases h
  | t :: v :: r, [], s, h => by cases h
  | t :: v :: r, ⟨u, x⟩ :: ds, s, h => by
    simp only [pack] at h
    split at h
    · rename_i y hy
      split at h
      · rename_i z hz
        cases h
        obtain ⟨rfl, rfl⟩ := castD_spec hy
        simp only [unpack]
        rw [pack_unpack (v :: r) ds z hz]
      · cases h
    · cases h

/-- What kind of object stands for what kind in a pattern. -/
def kindIs : OK → AObj → Prop
  | .row _ _ _, .row _ _ _ true => True
  | .arr _ _, .arr _ _ _ => True
  | .var w _ _, .var _ w' => w' = w
  | .map _ _, .map _ _ _ => True
  | .iter, .iter _ _ => True
  | .gone, .dead => True
  | .keep, .dead => True
  | _, _ => False
theorem nthO_nil (k : Nat) : nthO [] k = .gone := by cases k <;> rfl
theorem putObjs_kind : ∀ (objs : List OK) (j0 : Nat) (ds : List DV) (h : Heap), putObjs id j0 objs ds = some h →
    (∀ k, kindIs (nthO objs k) (hget h (j0 + k))) ∧ (∀ i, i < j0 → hget h i = .dead)
  | [], j0, ds, h, hp => by
    cases ds with
    | nil => simp only [putObjs, Option.some.injEq] at hp; subst hp; exact ⟨fun k => by rw [nthO_nil]; trivial, fun i _ => rfl⟩
    | cons => cases hp
  | o :: r, j0, ds, h, hp => by
    have key : ∀ (ob : AObj) (ds' : List DV) (hr : Heap), putObjs id (j0 + 1) r ds' = some hr → h = (j0, ob) :: hr → kindIs o ob → (∀ k, kindIs (nthO (o :: r) k) (hget h (j0 + k))) ∧ (∀ i, i < j0 → hget h i = .dead) := fun ob ds' hr hpr he hk => by
      obtain ⟨e1, e2⟩ := putObjs_kind r (j0 + 1) ds' hr hpr
      refine ⟨fun k => ?_, fun i hi => ?_⟩
      · cases k with
        | zero => rw [he, Nat.add_zero, hget_cons, if_pos rfl]; exact hk
        | succ k => rw [he, hget_cons, if_neg (by omega)]; have := e1 k; rw [show j0 + 1 + k = j0 + (k + 1) by omega] at this; exact this
      · rw [he, hget_cons, if_neg (by omega)]; exact e2 i (by omega)
    have skip : putObjs id (j0 + 1) r ds = some h → kindIs o .dead → (∀ k, kindIs (nthO (o :: r) k) (hget h (j0 + k))) ∧ (∀ i, i < j0 → hget h i = .dead) := fun hpr hk => by
      obtain ⟨e1, e2⟩ := putObjs_kind r (j0 + 1) ds h hpr
      refine ⟨fun k => ?_, fun i hi => e2 i (by omega)⟩
      cases k with
      | zero => rw [Nat.add_zero, e2 j0 (by omega)]; exact hk
      | succ k => have := e1 k; rw [show j0 + 1 + k = j0 + (k + 1) by omega] at this; exact this
    cases o with
    | row fix tid e =>
      cases ds with
      | nil => cases hp
      | cons d ds =>
        obtain ⟨t, x⟩ := d
        simp only [putObjs] at hp
        split at hp
        · split at hp
          · rename_i hr hpr; cases hp; exact key _ ds hr hpr rfl trivial
          · cases hp
        · cases hp
    | arr n e =>
      cases ds with
      | nil => cases hp
      | cons d ds =>
        obtain ⟨t, x⟩ := d
        simp only [putObjs] at hp
        split at hp
        · split at hp
          · rename_i hr hpr; cases hp; exact key _ ds hr hpr rfl trivial
          · cases hp
        · cases hp
    | var wr n ks =>
      simp only [putObjs] at hp
      split at hp
      · split at hp
        · rename_i hr hpr; cases hp; exact key _ _ hr hpr rfl rfl
        · cases hp
      · cases hp
    | map k v =>
      cases ds with
      | nil => cases hp
      | cons d ds =>
        obtain ⟨t, x⟩ := d
        simp only [putObjs] at hp
        split at hp
        · split at hp
          · rename_i hr hpr; cases hp; exact key _ ds hr hpr rfl trivial
          · cases hp
        · cases hp
    | iter =>
      match ds, hp, key with
      | [], hp, key => cases hp
      | [_], hp, key => cases hp
      | ⟨t, x⟩ :: ⟨u, y⟩ :: ds, hp, key =>
        simp only [putObjs] at hp
        split at hp
        · split at hp
          · rename_i hr hpr; cases hp; exact key _ ds hr hpr rfl trivial
          · cases hp
        · cases hp
    | gone => exact skip (by simpa only [putObjs] using hp) trivial
    | keep => exact skip (by simpa only [putObjs] using hp) trivial
theorem putPat_kind {p : Pat} {ds : List DV} {a : List AV} {h : Heap} (e : putPat id p ds = some (a, h)) : ∀ k, kindIs (nthO p.objs k) (hget h k) := by
  unfold putPat at e
  split at e
  · split at e
    · rename_i h' hp
      cases e
      intro k
      have := (putObjs_kind p.objs 0 _ _ hp).1 k
      rwa [Nat.zero_add] at this
    · cases e
  · cases e
theorem nthO_ge : ∀ (l : List OK) (k : Nat), l.length ≤ k → nthO l k = .gone
  | [], k, _ => nthO_nil k
  | x :: r, 0, h => by simp at h
  | x :: r, k + 1, h => nthO_ge r k (by simpa using h)
theorem kindIs_dead {o : OK} (h : kindIs o .dead) : o = .gone ∨ o = .keep := by cases o <;> simp_all [kindIs]
theorem kinds_pair : ∀ (a b : List OK), kindsOk a b = true → a.length ≤ b.length ∧ (∀ j, j < a.length → pairOk (nthO a j) (nthO b j) = true) ∧ (∀ j, a.length ≤ j → j < b.length → newOk (nthO b j) = true)
  | [], [], h => ⟨Nat.le_refl _, fun j hj => by simp at hj, fun j _ hj => by simp at hj⟩
  | [], b :: r, h => by
    simp only [kindsOk, Bool.and_eq_true] at h
    obtain ⟨_, _, h3⟩ := kinds_pair [] r h.2
    refine ⟨by simp, fun j hj => by simp at hj, fun j _ hj => ?_⟩
    cases j with
    | zero => exact h.1
    | succ j => exact h3 j (by simp) (by simpa using hj)
  | a :: r, b :: r', h => by
    simp only [kindsOk, Bool.and_eq_true] at h
    obtain ⟨h1, h2, h3⟩ := kinds_pair r r' h.2
    refine ⟨by simpa using h1, fun j hj => ?_, fun j hj hj' => ?_⟩
    · cases j with
      | zero => exact h.1
      | succ j => exact h2 j (by simpa using hj)
    · cases j with
      | zero => simp at hj
      | succ j => exact h3 j (by simpa using hj) (by simpa using hj')
  | _ :: _, [], h => by cases h

section
variable {P : Program} {w0 : World} {B0 Mo : Nat → Prop} {w : World} {μ : Mu} {U : Nat → Prop} {H : Heap} {nx : Nat}

theorem flat_VR {w' : World} {M M' : Nat → Prop} : ∀ (t : Ty), t.flat = true → ∀ (x : t.den) (vs : List Value), CR w M t x vs → CR w' M' t x vs
  | .int k, _, x, vs, h => h
  | .bool, _, x, vs, h => h
  | .str, _, x, vs, h => h
  | .slice e, hf, x, vs, h => by cases hf
  | .arr n e, hf, x, vs, h => ⟨h.1, h.2.mono fun y c _ hc => flat_VR e hf y c hc⟩
  | .prod a b, hf, x, vs, h => by
    simp only [Ty.flat, Bool.and_eq_true] at hf
    obtain ⟨v1, v2, h1, h2, h3⟩ := h
    exact ⟨v1, v2, h1, flat_VR a hf.1 _ _ h2, flat_VR b hf.2 _ _ h3⟩
  | .box a, hf, x, vs, h => flat_VR a hf x vs h
theorem flat_VRd {w' : World} {M M' : Nat → Prop} {μ' : Mu} {U U' : Nat → Prop} {t : Ty} (hf : t.flat = true) {x : t.den} {v : Value} (h : VR w M μ U (.d t x) v) : VR w' M' μ' U' (.d t x) v := by
  rw [VR_d] at h ⊢
  cases ht : t.agg with
  | true => simp only [ht] at h ⊢; obtain ⟨vs, h1, h2⟩ := h; exact ⟨vs, h1, flat_VR t hf _ _ h2⟩
  | false => simp only [ht] at h ⊢; exact flat_VR t hf _ _ h
theorem flat_VRs {w' : World} {M M' : Nat → Prop} {μ' : Mu} {U U' : Nat → Prop} : ∀ (xs : List AV), flatAVs xs = true → ∀ (vs : List Value), VRs w M μ U xs vs → VRs w' M' μ' U' xs vs
  | [], _, vs, h => by unfold VRs at h ⊢; exact h
  | .d t x :: r, hf, vs, h => by
    simp only [flatAVs, Bool.and_eq_true] at hf
    unfold VRs at h ⊢
    obtain ⟨v, vs', rfl, h1, h2⟩ := h
    exact ⟨v, vs', rfl, flat_VRd hf.1 h1, flat_VRs r hf.2 vs' h2⟩
end
end Go.Tat

namespace Go.Tat
set_option linter.unusedVariables false
section
variable {P : Program} {w0 : World} {B0 Mo : Nat → Prop} {w : World} {μ : Mu} {U : Nat → Prop} {H : Heap} {nx : Nat}

theorem muOf_cases (n : Nat) (os : List OK) (b : Bnd) (nx j : Nat) : (∃ k, (nthO os j).fixed = true ∧ j < n ∧ bget b j = some (some k) ∧ muOf n os b nx j = k) ∨ muOf n os b nx j = nx + j := by
  unfold muOf
  cases hf : ((nthO os j).fixed && Nat.blt j n) with
  | false => exact .inr rfl
  | true =>
    simp only [Bool.and_eq_true] at hf
    simp only [cond_true]
    split
    · rename_i i hi; exact .inl ⟨i, hf.1, Nat.blt_eq.mp hf.2, hi, rfl⟩
    · exact .inr rfl
theorem muOf_eq {n : Nat} {os : List OK} {b : Bnd} {nx j k : Nat} (hf : (nthO os j).fixed = true) (hj : j < n) (hb : bget b j = some (some k)) : muOf n os b nx j = k := by
  unfold muOf
  rw [hf, show Nat.blt j n = true from Nat.blt_eq.mpr hj]
  simp [hb]
theorem lost_mem (os : List OK) : ∀ (b : Bnd) (j k : Nat), (j, some k) ∈ b → (nthO os j).fixed = false → k ∈ lost os b
  | (x, some y) :: r, j, k, h, hf => by
    simp only [lost]
    cases h with
    | head => rw [hf]; simp
    | tail _ h =>
      have := lost_mem os r j k h hf
      cases (nthO os x).fixed <;> simp [this]
  | (x, none) :: r, j, k, h, hf => by
    simp only [lost]
    cases h with
    | tail _ h => exact lost_mem os r j k h hf

theorem tupOf_VR {M : Nat → Prop} {avs : List AV} {vs : List Value} (h : VRs w M μ U avs vs) : VR w M μ U (tupOf avs) (resV vs) := by
  match avs, vs, h with
  | [], vs, h => unfold VRs at h; subst h; simp only [tupOf, resV]; unfold VR; exact ⟨_, rfl, by simp [VRs]⟩
  | [a], vs, h =>
    obtain ⟨v, rfl, h1⟩ := VRs_one h
    exact h1
  | a :: b :: r, vs, h =>
    have h0 := h
    unfold VRs at h
    obtain ⟨v, vs', rfl, h1, h2⟩ := h
    unfold VRs at h2
    obtain ⟨v2, vs2, rfl, h3, h4⟩ := h2
    simp only [tupOf, resV]
    unfold VR
    exact ⟨_, rfl, by simpa using h0⟩

/-- THE JOIN behind a call or a loop: what is taken out stands for itself; what comes back is put in. -/
theorem join_core {pre post : Pat} {gt : Got} {avs : List AV} {vs : List Value} (hs : HS w0 B0 Mo w μ U H) (hv : VRs w (MM Mo μ H) μ U avs vs) (hgt : getPat H pre avs [] = some gt) (hok : gt.ok = true) (hpre : pre.ok = true)
    (hkinds : kindsOk pre.objs post.objs = true) (hlen : post.objs.length ≤ 16) (hf : ∀ i, nx ≤ i → i < nx + 16 → ¬ U i) :
    ∃ Moc, PRep w Moc pre gt.ds vs (νOf μ gt.b) ∧ ∀ (w' : World) (vs' : List Value) (ν' : Mu) (ds' : List DV) (out : List AV) (h2 : Heap), PRep w' Moc post ds' vs' ν' → Grew w w' →
      (∀ b, b < w.heap.size → ¬ OwnB (νOf μ gt.b) (PH pre gt.ds) b → w'.heap[b]? = w.heap[b]?) → (∀ b, OwnB ν' (PH post ds') b → OwnB (νOf μ gt.b) (PH pre gt.ds) b ∨ w.heap.size ≤ b) →
      (∀ j, j < pre.objs.length → (nthO post.objs j).fixed = true → ν' j = νOf μ gt.b j) → putPat (muOf pre.objs.length post.objs gt.b nx) post ds' = some (out, h2) → (nil? gt.br || (flatAVs out && nilH h2)) = true →
      ∃ μ' U', VRs w' (MM Mo μ' ((h2 ++ (kill (lost post.objs gt.b) ++ freeze H gt.fz)) ++ H)) μ' U' out vs' ∧ HS w0 B0 Mo w' μ' U' ((h2 ++ (kill (lost post.objs gt.b) ++ freeze H gt.fz)) ++ H) ∧
        Next w (MM Mo μ H) μ U w' (MM Mo μ' ((h2 ++ (kill (lost post.objs gt.b) ++ freeze H gt.fz)) ++ H)) μ' U' ∧ (∀ i, U' i → U i ∨ (nx ≤ i ∧ i < nx + 16)) := by
  obtain ⟨hkl, hkp, hkn⟩ := kinds_pair _ _ hkinds
  have hok' := hok
  simp only [Got.ok, Bool.and_eq_true] at hok'
  -- the state that the callee sees
  let ν := νOf μ gt.b
  let C : Nat → Prop := OwnB ν (PH pre gt.ds)
  let Fz : Nat → Prop := fun b => ∃ j ∈ gt.fz ++ gt.br, ∃ tid e l, hget H j = .row tid e l true ∧ (μ j).v.ownBlock = some b
  let Moc : Nat → Prop := fun b => MM Mo μ H b ∧ b < w.heap.size ∧ ¬ C b ∧ ¬ Fz b
  obtain ⟨hrep, _, hsrc⟩ := getPat_rep (Mo' := Moc) hs hv hgt hok hpre (fun b hb => ⟨hb.1, hb.2.1⟩)
    (fun a1 h1 hp b hb hm => hm.2.2.1 (by show OwnB ν (PH pre gt.ds) b; rw [PH_eq hp]; exact hb))
    (fun j hj tid e l hg b hb hm => hm.2.2.2 ⟨j, hj, tid, e, l, hg, hb⟩)
  obtain ⟨a0, h0, hp0, hv0, hs0⟩ := id hrep
  have hPH0 := PH_eq hp0
  have hsrc0 := hsrc a0 h0 hp0
  have hkind0 := putPat_kind hp0
  -- who may be changed
  have hCk : ∀ b, C b → ∃ j k, j < pre.objs.length ∧ mutB (hget h0 j) (ν j).v = some b ∧ bget gt.b j = some (some k) ∧ mutB (hget H k) (μ k).v = some b := fun b hb => by
    obtain ⟨j, hj⟩ : OwnB ν (PH pre gt.ds) b := hb
    rw [hPH0] at hj
    rcases hsrc0 j with hd | ⟨hlt, ⟨tid, e, l, ho, hbn⟩ | ⟨k, hbk, hm, _⟩⟩
    · rw [hd] at hj; cases hj
    · rw [ho, show ν j = nilHd from νOf_none hbn] at hj; cases hj
    · refine ⟨j, k, hlt, hj, hbk, ?_⟩
      rw [show ν j = μ k from νOf_some hbk] at hj
      exact hm b hj
  have hlive0 : ∀ j, j < pre.objs.length → hget h0 j ≠ .dead := fun j hj hd => by
    have h1 := hkind0 j
    rw [hd] at h1
    have h2 := hkp j hj
    rcases kindIs_dead h1 with h3 | h3 <;> rw [h3] at h2 <;> (revert h2; cases nthO post.objs j <;> simp [pairOk])
    all_goals (rename_i w' _ _; cases w' <;> simp [pairOk])
  have hbU : ∀ j k, j < pre.objs.length → bget gt.b j = some (some k) → U k := fun j k hj hb => by
    rcases hsrc0 j with hd | ⟨_, ⟨tid, e, l, ho, hbn⟩ | ⟨k', hbk, _, _, hnd⟩⟩
    · exact (hlive0 j hj hd).elim
    · rw [hb] at hbn; cases hbn
    · rw [hb] at hbk; cases hbk
      exact (hs.use k).resolve_left hnd
  refine ⟨Moc, hrep, fun w' vs' ν' ds' out h2 hrep' hz hk hown hfix hput2 hbr => ?_⟩
  obtain ⟨a1, h1, hp1, hv1, hs1⟩ := hrep'
  have hkind1 := putPat_kind hp1
  rw [PH_eq hp1, hPH0] at hown
  rw [hPH0] at hk
  let mu := muOf pre.objs.length post.objs gt.b nx
  let μ' : Mu := fun i => if nx ≤ i ∧ i < nx + 16 then ν' (i - nx) else μ i
  let U' : Nat → Prop := fun i => U i ∨ (nx ≤ i ∧ i < nx + 16)
  have hU : ∀ i, U i → μ' i = μ i ∧ U' i := fun i hi => by
    refine ⟨?_, .inl hi⟩
    show (if nx ≤ i ∧ i < nx + 16 then ν' (i - nx) else μ i) = μ i
    rw [if_neg fun hh => hf i hh.1 hh.2 hi]
  have hmu : ∀ j, j < post.objs.length → μ' (mu j) = ν' j ∧ U' (mu j) := fun j hj => by
    rcases muOf_cases pre.objs.length post.objs gt.b nx j with ⟨k, hfx, hjn, hbk, hmk⟩ | hmk
    · have hUk := hbU j k hjn hbk
      rw [show mu j = k from hmk, (hU k hUk).1, hfix j hjn hfx]
      exact ⟨(νOf_some hbk).symm, .inl hUk⟩
    · rw [show mu j = nx + j from hmk]
      refine ⟨?_, .inr ⟨by omega, by omega⟩⟩
      show (if nx ≤ nx + j ∧ nx + j < nx + 16 then ν' (nx + j - nx) else μ (nx + j)) = ν' j
      rw [if_pos ⟨by omega, by omega⟩, Nat.add_sub_cancel_left]
  have hlt1 : ∀ j, hget h1 j ≠ .dead → j < post.objs.length := fun j hj => (hs1.use j).resolve_left hj
  have hinj : ∀ j1 j2, j1 < post.objs.length → j2 < post.objs.length → mu j1 = mu j2 → j1 = j2 := fun j1 j2 hl1 hl2 hm => by
    rcases muOf_cases pre.objs.length post.objs gt.b nx j1 with ⟨k1, hfx1, hjn1, hbk1, hmk1⟩ | hmk1 <;> rcases muOf_cases pre.objs.length post.objs gt.b nx j2 with ⟨k2, hfx2, hjn2, hbk2, hmk2⟩ | hmk2
    · have : k1 = k2 := by rw [← hmk1, ← hmk2]; exact hm
      subst this
      exact nodup_ids hok'.1 (bget_mem hbk1) (bget_mem hbk2)
    · have : k1 = nx + j2 := by rw [← hmk1, ← hmk2]; exact hm
      exact (hf k1 (by omega) (by omega) (hbU j1 k1 hjn1 hbk1)).elim
    · have : nx + j1 = k2 := by rw [← hmk1, ← hmk2]; exact hm
      exact (hf k2 (by omega) (by omega) (hbU j2 k2 hjn2 hbk2)).elim
    · have : nx + j1 = nx + j2 := by rw [← hmk1, ← hmk2]; exact hm
      omega
  -- the pieces of what is put
  have hput1 := hp1
  unfold putPat at hput1
  split at hput1
  · rename_i a1' rest hsk
    split at hput1
    · rename_i h1' hob
      simp only [Option.some.injEq, Prod.mk.injEq] at hput1
      obtain ⟨rfl, rfl⟩ := hput1
      have ren : ∀ M2 : Nat → Prop, Ext w' (MM Moc ν' h1') w' M2 → VRs w' M2 μ' U' out vs' ∧
          (∀ i, (∀ j, hget h1' j ≠ .dead → mu j ≠ i) → ∀ G, hget (h2 ++ G) i = hget G i) ∧
          (∀ j, hget h1' j ≠ .dead → ∀ G, ObjRen w' (MM Moc ν' h1') ν' (fun j => j < post.objs.length) w' M2 μ' U' (hget h1' j) (hget (h2 ++ G) (mu j))) := fun M2 hx => by
        obtain ⟨a2, e1, e2⟩ := putSK_ren (μ' := μ') (U' := U') (mu := mu) (U := fun j => j < post.objs.length) hx hmu post.ks _ a1' rest hsk
        obtain ⟨h2', e3, e4, e5⟩ := putObjs_ren (μ' := μ') (U' := U') (mu := mu) (U := fun j => j < post.objs.length) hx hmu post.objs 0 rest h1' hob
        have : putPat mu post ds' = some (a2, h2') := by simp only [putPat, e1, e3]
        have h9 := this.symm.trans hput2
        cases h9
        refine ⟨ARs_VRs e2 hv1, fun i hi G => e4 i (fun j _ _ hj => hi j hj) G, fun j hj G => ?_⟩
        obtain ⟨_, _, h7⟩ := e5 j hj
        exact h7 (fun j' _ hlt hj' hm => by have := hinj j' j (hlt1 j' hj') (hlt1 j hj) hm; omega) G
      obtain ⟨hvr0, hG0, hR0⟩ := ren _ (Ext.refl _ _)
      let H' : Heap := (h2 ++ (kill (lost post.objs gt.b) ++ freeze H gt.fz)) ++ H
      have hH'i : ∀ i, (∀ j, hget h1' j ≠ .dead → mu j ≠ i) → hget H' i = if i ∈ lost post.objs gt.b then .dead else hget (freeze H gt.fz ++ H) i := fun i hi => by
        show hget ((h2 ++ (kill (lost post.objs gt.b) ++ freeze H gt.fz)) ++ H) i = _
        rw [List.append_assoc, hG0 i hi, List.append_assoc, hget_kill]
      have hB : ∀ i, (∀ j, hget h1' j ≠ .dead → mu j ≠ i) → LeO (hget H i) (hget H' i) ∧ (∀ b, mutB (hget H i) (μ i).v = some b → C b → hget H' i = .dead) := fun i hi => by
        refine ⟨?_, fun b hm hcb => ?_⟩
        · rw [hH'i i hi]
          split
          · exact .inr (.inl rfl)
          · exact LeO_freeze H gt.fz i
        · rw [hH'i i hi]
          obtain ⟨j, k, hj, hmj, hbk, hmk⟩ := hCk b hcb
          have := hs.inj k i b hmk hm
          subst this
          cases hfx : (nthO post.objs j).fixed with
          | false => rw [if_pos (lost_mem _ _ _ _ (bget_mem hbk) hfx)]
          | true =>
            exfalso
            have hpair := hkp j hj
            have hk0 := hkind0 j
            have hk1 := hkind1 j
            have hmuj : mu j = k := muOf_eq hfx hj hbk
            have hdead : hget h1' j = .dead := by
              by_cases hd : hget h1' j = .dead
              · exact hd
              · exact (hi j hd hmuj).elim
            rw [hdead] at hk1
            rcases kindIs_dead hk1 with hg | hg
            · rw [hg] at hfx; cases hfx
            · rw [hg] at hpair
              cases hpre : nthO pre.objs j <;> rw [hpre] at hpair hk0 <;> simp only [pairOk] at hpair <;> (try cases hpair)
              rename_i wr n ks
              cases wr with
              | true => cases hpair
              | false =>
                cases hh : hget h0 j <;> rw [hh] at hk0 hmj <;> simp only [kindIs] at hk0
                subst hk0; cases hmj
      have hro' : ∀ j cs, hget h1' j ≠ .var cs false := fun j cs hv => by
        have hk1 := hkind1 j
        have hjl := hlt1 j (by rw [hv]; intro hd; cases hd)
        rw [hv] at hk1
        have hpo : ∃ n ks, nthO post.objs j = .var false n ks := by
          cases hh : nthO post.objs j <;> rw [hh] at hk1 <;> simp only [kindIs] at hk1
          exact ⟨_, _, by rw [← hk1]⟩
        obtain ⟨n, ks, hpo⟩ := hpo
        rcases Nat.lt_or_ge j pre.objs.length with hjp | hjp
        · have := hkp j hjp; rw [hpo] at this; cases this
        · have := hkn j hjp hjl; rw [hpo] at this; cases this
      have hXY : (nil? gt.br = true → Ext w' (MM Moc ν' h1') w' (MM Mo μ' H')) := fun hnb => by
        have hbrn : gt.br = [] := by cases hh : gt.br with | nil => rfl | cons x r => rw [hh] at hnb; cases hnb
        refine Ext.sub w' fun b hb => ?_
        rcases hb with hb | ⟨i, hi⟩
        · refine .inl ⟨.inl hb, Nat.lt_of_lt_of_le (hs.mo b hb) hs.grow.le, fun hcb => ?_, fun ⟨j, hj, tid, e, l, hg, hbb⟩ => ?_⟩
          · obtain ⟨j, k, _, _, _, hmk⟩ := hCk b hcb; exact (hs.out k b hmk).1 hb
          · exact (hs.out j b (by rw [hg]; exact hbb)).1 hb
        · by_cases hlv : ∃ j, hget h1' j ≠ .dead ∧ mu j = i
          · obtain ⟨j, hj, rfl⟩ := hlv
            have hr := hR0 j hj (kill (lost post.objs gt.b) ++ freeze H gt.fz ++ H)
            have : hget H' (mu j) = hget (h2 ++ (kill (lost post.objs gt.b) ++ freeze H gt.fz ++ H)) (mu j) := by
              show hget ((h2 ++ (kill (lost post.objs gt.b) ++ freeze H gt.fz)) ++ H) (mu j) = _
              rw [List.append_assoc]
            rw [this, hr.mut, (hmu j (hlt1 j hj)).1] at hi
            exact .inr ⟨j, hi⟩
          · have hno : ∀ j, hget h1' j ≠ .dead → mu j ≠ i := fun j hj he => hlv ⟨j, hj, he⟩
            obtain ⟨hle, hcd⟩ := hB i hno
            have hnd : hget H' i ≠ .dead := fun hd => by rw [hd] at hi; cases hi
            have heq : hget H' i = hget H i := by
              rcases hle with h1 | h1 | ⟨tid, e, l, c, h3, h4⟩
              · exact h1
              · exact (hnd h1).elim
              · rw [h4] at hi; cases hi
            have hUi : U i := (hs.use i).resolve_left (by rw [← heq]; exact hnd)
            have hi' := hi
            rw [heq, (hU i hUi).1] at hi
            refine .inl ⟨.inr ⟨i, hi⟩, (hs.out i b hi).2.1, fun hcb => hnd (hcd b hi hcb), fun ⟨j, hj, tid, e, l, hg, hbb⟩ => ?_⟩
            have := hs.inj j i b (by rw [hg]; exact hbb) hi
            subst this
            rw [hbrn, List.append_nil] at hj
            rw [hH'i j hno] at hi' hnd
            split at hi'
            · cases hi'
            · rw [hget_freeze_mem H H gt.fz j hj tid e l true hg] at hi'; cases hi'
      have hX : (∀ j, hget h1' j = .dead) ∨ Ext w' (MM Moc ν' h1') w' (MM Mo μ' H') := by
        cases hnb : nil? gt.br with
        | true => exact .inr (hXY hnb)
        | false =>
          rw [hnb] at hbr
          simp only [Bool.false_or, Bool.and_eq_true] at hbr
          refine .inl fun j => ?_
          have hh2 : h2 = [] := by cases hh : h2 with | nil => rfl | cons x r => rw [hh] at hbr; cases hbr.2
          by_cases hd : hget h1' j = .dead
          · exact hd
          · have := hR0 j hd []
            rw [hh2] at this
            rcases this with ⟨cs, cs', wr, _, h8, _⟩ | ⟨h8, _⟩
            · cases h8
            · exact h8.symm
      have hA : ∀ j, hget h1' j ≠ .dead → ObjRen w' (MM Moc ν' h1') ν' (fun j => j < post.objs.length) w' (MM Mo μ' H') μ' U' (hget h1' j) (hget H' (mu j)) := fun j hj => by
        rcases hX with hX | hX
        · exact (hj (hX j)).elim
        · have := (ren _ hX).2.2 j hj (kill (lost post.objs gt.b) ++ freeze H gt.fz ++ H)
          show ObjRen _ _ _ _ _ _ _ _ _ (hget ((h2 ++ (kill (lost post.objs gt.b) ++ freeze H gt.fz)) ++ H) (mu j))
          rw [List.append_assoc]; exact this
      obtain ⟨g1, g2⟩ := hs.join (C := C) hs1 (mu := mu) (μ' := μ') (U' := U') (H' := H') (fun b hb => let ⟨_, k, _, _, _, hmk⟩ := hCk b hb; ⟨k, hmk⟩)
        (fun b hlt hnc => hk b hlt fun hb => hnc (by show OwnB ν (PH pre gt.ds) b; rw [hPH0]; exact hb)) hz
        (fun b hb => (hown b hb).imp (fun hb => by show OwnB ν (PH pre gt.ds) b; rw [hPH0]; exact hb) id)
        hmu hU (fun j1 j2 h3 h4 hm => hinj j1 j2 (hlt1 j1 h3) (hlt1 j2 h4) hm) hA hro' hB hX
      refine ⟨μ', U', ?_, g1, g2, fun i hi => hi⟩
      cases hnb : nil? gt.br with
      | true => exact (ren _ (hXY hnb)).1
      | false =>
        rw [hnb] at hbr
        simp only [Bool.false_or, Bool.and_eq_true] at hbr
        exact flat_VRs _ hbr.1 _ hvr0
    · cases hput1
  · cases hput1
theorem call_sound {g : FuncId} : ∀ (es : List Entry), (∀ e ∈ es, EntryOK P g e) → ∀ {avs : List AV} {vs : List Value} {r : R}, HS w0 B0 Mo w μ U H → VRs w (MM Mo μ H) μ U avs vs →
    (callE H nx avs es).run some = some r → (∀ i, nx ≤ i → i < r.nx → ¬ U i) → Calls P g vs.toArray w fun e w' => ∃ v, e = .returned v ∧ Good w0 B0 Mo w μ U H nx r v w'
  | [], _, avs, vs, r, hs, hv, h, hf => by cases h
  | E :: es, hE, avs, vs, r, hs, hv, h, hf => by
    simp only [callE] at h
    cases hmt : skMatch E.pre.ks avs with
    | false => rw [hmt] at h; exact call_sound es (fun e he => hE e (by simp [he])) hs hv h hf
    | true =>
    rw [hmt] at h; simp only [cond_true] at h
    split at h
    · rename_i gt hgt
      cases hok : gt.ok with
      | false => rw [hok] at h; cases h
      | true =>
      rw [hok] at h; simp only [cond_true] at h
      split at h
      · rename_i s hpk
        simp only [DT.run] at h
        cases hq : E.F s with
        | none => rw [hq] at h; cases h
        | some q =>
        rw [hq] at h
        simp only [Option.bind_some] at h
        split at h
        · rename_i out h2 hput2
          cases hbr : (nil? gt.br || (flatAVs out && nilH h2)) with
          | false => rw [hbr] at h; cases h
          | true =>
          rw [hbr] at h
          simp only [cond_true, DT.run, Option.some.injEq] at h; subst h
          obtain ⟨hEok, _, hprom⟩ := hE E (by simp)
          simp only [Entry.ok, Bool.and_eq_true] at hEok
          obtain ⟨hpre, hpost, hkinds, hlen⟩ := hEok
          obtain ⟨Moc, hrep, hjoin⟩ := join_core (nx := nx) hs hv hgt hok hpre hkinds (Nat.ble_eq.mp hlen) hf
          have hun := pack_unpack _ _ _ hpk
          have hpr := hprom s q hq
          rw [hun] at hpr
          refine (hpr w Moc vs _ hrep).mono fun e w' ⟨vs', ν', he, hrep', hz, hk, hown, hfix⟩ => ?_
          obtain ⟨μ', U', g0, g1, g2, g3⟩ := hjoin w' vs' ν' _ out h2 hrep' hz hk hown hfix hput2 hbr
          exact ⟨resV vs', he, μ', U', tupOf_VR g0, g1, g2, g3, Nat.le_add_right _ _⟩
        · cases h
      · cases h
    · cases h
end
end Go.Tat

namespace Go.Tat
set_option linter.unusedVariables false
section
variable {P : Program} {T : TE} {E : FuncId → List Entry} {w0 : World} {B0 Mo : Nat → Prop} {w : World} {M : Nat → Prop} {μ : Mu} {U : Nat → Prop} {H : Heap} {nx : Nat} {ρ : Operand → AV} {a : Act} {o : Oper} {r : R}

theorem run_callOp {f : FuncId} {x y : Array Value} {c : Call} {fo : Operand} (hfn : FnOK P f) (ho : o.op = .call c) (hc : c.callee = .value fo) (hv : a.eval fo = .func (.func f) x y) :
    (execOp a.eval o).run P w = .ok (.enter f (x ++ c.args.map a.eval ++ y)) w := by
  obtain ⟨fn, h1, h2, h3⟩ := hfn
  simp only [execOp, ho, resolve, hc, hv, Deferred.ofValue, invoke, Sem.run_bind, Sem.run_pure, Result.andThen_ok]
  have h3' : fn.body ≠ none := fun hh => by rw [hh] at h3; cases h3
  simp at h2
  simp [callFunc, program, Sem.run, h1, h2, h3']

theorem op_call {c : Call} {f : Operand} (hE : ∀ g, ∀ e ∈ E g, EntryOK P g e) (hs : HS w0 B0 Mo w μ U H) (hρ : ∀ x, VR w (MM Mo μ H) μ U (ρ x) (a.eval x)) (ho : o.op = .call c) (hc : c.callee = .value f)
    (h : (opG T E ρ H nx o).run some = some r) (hf : ∀ i, nx ≤ i → i < r.nx → ¬ U i) : OpOK P a o w (Good w0 B0 Mo w μ U H nx r) := by
  simp only [opG, ho, hc] at h
  split at h
  · rename_i g first caps hx
    have h1 := hρ f
    rw [hx] at h1; unfold VR at h1
    obtain ⟨x, y, hv, hx1, hy1⟩ := h1
    have hne : ∃ e, e ∈ E g := by
      cases he : E g with
      | nil => rw [he] at h; cases h
      | cons e r => exact ⟨e, by simp⟩
    obtain ⟨e, he⟩ := hne
    have hrun := run_callOp (w := w) (hE g e he).2.1 ho hc hv
    have hcall := call_sound (E g) (hE g) hs (VRs_append hx1 (VRs_append (VRs_map hρ c.args.toList) hy1)) h hf
    unfold OpOK Oper.wp
    rw [hrun]
    have hargs : x ++ c.args.map a.eval ++ y = (x.toList ++ (c.args.toList.map a.eval ++ y.toList)).toArray := by apply Array.ext'; simp
    rw [hargs]
    refine Calls.mono hcall fun e' w' ⟨v, he', hg⟩ => ?_
    subst he'
    exact ⟨v, rfl, hg⟩
  · cases h

theorem opAny (hT : TEok P T) (hE : ∀ g, ∀ e ∈ E g, EntryOK P g e) (hs : HS w0 B0 Mo w μ U H) (hρ : ∀ x, VR w (MM Mo μ H) μ U (ρ x) (a.eval x))
    (h : (opG T E ρ H nx o).run some = some r) (hf : ∀ i, nx ≤ i → i < r.nx → ¬ U i) : OpOK P a o w (Good w0 B0 Mo w μ U H nx r) := by
  cases hc : isCall o with
  | false => exact op_sound hT hs hρ hc h hf
  | true =>
    unfold isCall at hc
    split at hc
    · rename_i c ho
      split at hc
      · rename_i f hcf; exact op_call hE hs hρ ho hcf h hf
      · cases hc
    · cases hc
end
end Go.Tat

namespace Go.Tat
set_option linter.unusedVariables false
section
variable {P : Program} {T : TE} {E : FuncId → List Entry} {w0 : World} {B0 Mo : Nat → Prop} {w : World} {M : Nat → Prop} {μ : Mu} {U : Nat → Prop} {H : Heap} {nx : Nat} {ρ : Operand → AV} {a : Act} {o : Oper} {r : R}

/-- Slots in a world. -/
def SlotsOK (w : World) (M : Nat → Prop) (μ : Mu) (U : Nat → Prop) (σ : Slots) (a : Act) : Prop := ∀ s, VR w M μ U (look σ s) (a.tmps.getD s undef)
theorem look_cons (d : Nat) (v : AV) (σ : Slots) (s : Nat) : look ((d, v) :: σ) s = if d = s then v else look σ s := by
  simp only [look]
  by_cases h : d = s
  · subst h; simp
  · have : Nat.beq d s = false := by
      cases hb : Nat.beq d s with
      | false => rfl
      | true => exact (h (Nat.eq_of_beq_eq_true hb)).elim
    simp [this, h]
theorem SlotsOK.put {w' : World} {M' : Nat → Prop} {μ' : Mu} {U' : Nat → Prop} {σ : Slots} (hn : Next w M μ U w' M' μ' U') (h : SlotsOK w M μ U σ a) (hd : ∀ d, o.dst = some d → d < a.tmps.size) {v : AV} {u : Value} (hv : VR w' M' μ' U' v u) :
    SlotsOK w' M' μ' U' (putDst o v σ) (a.put o.dst u) := by
  intro s
  unfold putDst Act.put
  cases hdd : o.dst with
  | none => exact VR_mono hn _ _ (h s)
  | some d =>
    simp only []
    rw [look_cons]
    have hlt := hd d hdd
    by_cases hds : d = s
    · subst hds
      rw [if_pos rfl]
      have : (a.tmps.setIfInBounds d u).getD d undef = u := by simp [Array.getD, hlt]
      rw [this]; exact hv
    · rw [if_neg hds]
      have : (a.tmps.setIfInBounds d u).getD s undef = a.tmps.getD s undef := by
        simp [Array.getD_eq_getD_getElem?, Array.getElem?_setIfInBounds_ne hds]
      rw [this]; exact VR_mono hn _ _ (h s)
theorem put_size (o : Option Tmp) (v : Value) : (a.put o v).tmps.size = a.tmps.size := by cases o <;> simp [Act.put]
theorem put_defers (o : Option Tmp) (v : Value) : (a.put o v).defers = a.defers := by cases o <;> simp [Act.put]

/-- What an operation leaves, by its value, the heap, the next number. -/
def GoodH (w0 : World) (B0 Mo : Nat → Prop) (w : World) (μ : Mu) (U : Nat → Prop) (H : Heap) (nx : Nat) (x : AV) (H' : Heap) (nx' : Nat) (v : Value) (w' : World) : Prop :=
  ∃ μ' U', VR w' (MM Mo μ' H') μ' U' x v ∧ HS w0 B0 Mo w' μ' U' H' ∧ Next w (MM Mo μ H) μ U w' (MM Mo μ' H') μ' U' ∧ (∀ i, U' i → U i ∨ (nx ≤ i ∧ i < nx') ∨ i < nx) ∧ nx ≤ nx'
theorem GoodH.of {v : Value} {w' : World} (h : Good w0 B0 Mo w μ U H nx r v w') : GoodH w0 B0 Mo w μ U H nx r.v (r.ups ++ H) r.nx v w' := by
  obtain ⟨μ', U', h1, h2, h3, h4, h5⟩ := h
  exact ⟨μ', U', h1, h2, h3, fun i hi => (h4 i hi).imp id .inl, h5⟩
/-- A function that is walked into. -/
def InlOK (P : Program) {Z : Type} (inl : Inl Z) : Prop :=
  ∀ (g : FuncId) (vs : List AV) (H : Heap) (nx : Nat) (K : R → Option Z) (z : Z), inl g vs H nx K = some z → FnOK P g ∧
    ∀ (w0 : World) (B0 Mo : Nat → Prop) (w : World) (μ : Mu) (U : Nat → Prop) (args : List Value), HS w0 B0 Mo w μ U H → VRs w (MM Mo μ H) μ U vs args → (∀ i, U i → i < nx) →
      Calls P g args.toArray w fun e w' => ∃ v r, e = .returned v ∧ K r = some z ∧ GoodH w0 B0 Mo w μ U H nx r.v r.ups r.nx v w'
theorem noInl_ok {Z : Type} : InlOK P (noInl (Z := Z)) := fun g vs H nx K z h => by cases h

theorem opX_sound {Z : Type} {inl : Inl Z} (hT : TEok P T) (hE : ∀ g, ∀ e ∈ E g, EntryOK P g e) (hI : InlOK P inl) {K : AV → Heap → List Nat → List Nat → Nat → Option Z} {z : Z} (hs : HS w0 B0 Mo w μ U H) (hρ : ∀ x, VR w (MM Mo μ H) μ U (ρ x) (a.eval x))
    (hf : ∀ i, U i → i < nx) (h : opX T E inl ρ H nx o K = some z) :
    o.wp P a w (fun a' w' => ∃ x H' rd wr nx' v, a' = a.put o.dst v ∧ GoodH w0 B0 Mo w μ U H nx x H' nx' v w' ∧ K x H' rd wr nx' = some z) (fun _ _ _ => False) := by
  unfold opX at h
  split at h
  · rename_i g vs hi
    unfold inlOf at hi
    split at hi
    · rename_i c ho
      split at hi
      · rename_i f hc
        split at hi
        · rename_i g' first caps hx
          split at hi
          · cases hi
            have h1 := hρ f
            rw [hx] at h1; unfold VR at h1
            obtain ⟨x, y, hv, hx1, hy1⟩ := h1
            obtain ⟨hfn, hcalls⟩ := hI _ _ _ _ _ _ h
            have hrun := run_callOp (w := w) hfn ho hc hv
            unfold Oper.wp
            rw [hrun]
            have hargs : x ++ c.args.map a.eval ++ y = (x.toList ++ (c.args.toList.map a.eval ++ y.toList)).toArray := by apply Array.ext'; simp
            rw [hargs]
            refine Calls.mono (hcalls w0 B0 Mo w μ U _ hs (VRs_append hx1 (VRs_append (VRs_map hρ c.args.toList) hy1)) hf) fun e' w' ⟨v, r, he', hk, hg⟩ => ?_
            subst he'
            exact ⟨_, _, _, _, _, v, rfl, hg, hk⟩
          · cases hi
        · cases hi
      · cases hi
    · cases hi
  · rw [DT.run_bind] at h
    cases hr : (opG T E ρ H nx o).run some with
    | none => rw [hr] at h; cases h
    | some r =>
      rw [hr] at h
      have := opAny hT hE hs hρ hr (fun i h1 _ h2 => by have := hf i h2; omega)
      exact Go.Oper.wp_mono (fun a' w' ⟨v, h1, h2⟩ => ⟨_, _, _, _, _, v, h1, GoodH.of h2, h⟩) this

/-- Is an operation wanted? -/
theorem wantOf_spec {ops : Array Oper} {σ : Slots} (hσ : SlotsOK w M μ U σ a) : (match (wantOf ops.toList σ o).eff with
    | some b => Region.wanted o (yielded ops a.tmps) = b
    | none => True) := by
  unfold wantOf
  cases hg : o.guard with
  | none => simp [Region.wanted, hg, Want.eff]
  | some gw =>
    obtain ⟨j, want⟩ := gw
    simp only []
    have hj : (ops.toList[j]?).bind (·.dst) = (ops[j]?).bind (·.dst) := by simp
    rw [hj]
    cases hd : (ops[j]?).bind (·.dst) with
    | none => trivial
    | some d =>
      simp only []
      have hv := hσ d
      have hy : yielded ops a.tmps j = (match a.tmps[d]? with | some (.bool b) => some b | _ => none) := by
        simp only [yielded, hd, Option.bind_some]
        rfl
      cases hl : look σ d with
      | d t x =>
        cases t with
        | bool =>
          rw [hl, VR_bool] at hv
          have h1 : a.tmps[d]? = some (.bool x) := by
            rw [Array.getD_eq_getD_getElem?] at hv
            cases h2 : a.tmps[d]? with
            | none => rw [h2] at hv; cases hv
            | some u => rw [h2] at hv; simp at hv; rw [hv]
          simp only [Region.wanted, hg, hy, h1]
          have : ∀ x want : Bool, (some x == some want) = cond want x (!x) := by decide
          exact this x want
        | _ => trivial
      | raw v =>
        cases v with
        | tuple vs =>
          rw [hl] at hv; unfold VR at hv
          have h1 : yielded ops a.tmps j = none := by
            rw [hy]
            cases h2 : a.tmps[d]? with
            | none => rfl
            | some u =>
              rw [Array.getD_eq_getD_getElem?, h2] at hv
              simp at hv; rw [hv]
          simp [Region.wanted, hg, h1, Want.eff]
        | _ => trivial
      | _ => trivial

theorem wantOf_hangs {all : List Oper} {σ : Slots} {d : Nat} {b w : Bool} (h : wantOf all σ o = .hangs d b w) : look σ d = .d .bool b := by
  unfold wantOf at h
  split at h
  · cases h
  · split at h
    · split at h
      · rename_i hl; cases h; exact hl
      · cases h
      · cases h
    · cases h
theorem look_known {σ : Slots} {d : Nat} {v : AV} (h : look σ d = v) (t : Nat) : look ((d, v) :: σ) t = look σ t := by
  rw [look_cons]; split
  · rename_i e; rw [← e, h]
  · rfl
theorem SlotsOK_congr {σ σ' : Slots} {M : Nat → Prop} (h : ∀ t, look σ' t = look σ t) (hs : SlotsOK w M μ U σ a) : SlotsOK w M μ U σ' a := fun t => by rw [h]; exact hs t
theorem wp_mono2 {K K' : Act → World → Prop} {Q Q' : Exit → Act → World → Prop} (h : ∀ a w, K a w → K' a w) (hq : ∀ e a w, Q e a w → Q' e a w) (hh : o.wp P a w K Q) : o.wp P a w K' Q' := by
  unfold Oper.wp at *
  generalize (execOp a.eval o).run P w = r at *
  have hl : LetsOut Q → LetsOut Q' := fun ⟨a, w, x⟩ => ⟨a, w, hq _ _ _ x⟩
  cases r with
  | ok n w' =>
    cases n <;> simp only [Oper.upon] at hh ⊢ <;>
      first
        | exact h _ _ hh
        | exact Calls.mono hh (fun e w'' he => by cases e <;> first | exact h _ _ he | exact hq _ _ _ he | exact hl he)
        | exact Rows.mono hh (fun _ _ he => h _ _ he)
  | halt x w' => cases x <;> simp only [Oper.upon] at hh ⊢ <;> exact hq _ _ _ hh

/-- Behind some operations in the order of the text. -/
theorem execOps_sound {Z : Type} {inl : Inl Z} (hT : TEok P T) (hE : ∀ g, ∀ e ∈ E g, EntryOK P g e) (hI : InlOK P inl) {ops : Array Oper} {K : Slots → Heap → Nat → List Touch → Option Z} {z : Z} {Q : Exit → Act → World → Prop} :
    ∀ (rest : List Oper) (i : Nat) (σ : Slots) (H : Heap) (nx : Nat) (ts : List Touch) (w : World) (μ : Mu) (U : Nat → Prop) (a : Act), ops.toList.drop i = rest →
      (∀ o ∈ rest, ∀ d, o.dst = some d → d < a.tmps.size) → HS w0 B0 Mo w μ U H → SlotsOK w (MM Mo μ H) μ U σ a → (∀ i, U i → i < nx) →
      execOps T E inl ops.toList rest i σ H nx ts K = some z →
      (∀ σ' H' nx' ts' μ' U' a' w', K σ' H' nx' ts' = some z → HS w0 B0 Mo w' μ' U' H' → SlotsOK w' (MM Mo μ' H') μ' U' σ' a' → (∀ i, U' i → i < nx') →
        Next w (MM Mo μ H) μ U w' (MM Mo μ' H') μ' U' → nx ≤ nx' → a'.tmps.size = a.tmps.size → a'.defers = a.defers → Q .normal a' w') →
      wpOps P ops Q ((List.range ops.size).drop i) a w
  | [], i, σ, H, nx, ts, w, μ, U, a, hd, hdst, hs, hσ, hf, h, hQ => by
    have hi : ops.size ≤ i := by have := List.drop_eq_nil_iff.1 hd; simpa using this
    have : (List.range ops.size).drop i = [] := List.drop_eq_nil_of_le (by simpa using hi)
    rw [this]
    simp only [execOps] at h
    exact hQ σ H nx ts μ U a w h hs hσ hf Next.refl (Nat.le_refl _) rfl rfl
  | o :: rest, i, σ, H, nx, ts, w, μ, U, a, hd, hdst, hs, hσ, hf, h, hQ => by
    have hil : i < ops.size := by
      rcases Nat.lt_or_ge i ops.size with h1 | h1
      · exact h1
      · rw [List.drop_eq_nil_of_le (by simpa using h1)] at hd; cases hd
    have hr : (List.range ops.size).drop i = i :: (List.range ops.size).drop (i + 1) := by
      rw [List.drop_eq_getElem_cons (by simpa using hil)]; simp
    have hd' : ops.toList.drop (i + 1) = rest := by rw [← List.drop_drop, hd]; rfl
    have ho : ops[i]? = some o := by
      have : ops.toList[i]? = some o := by
        have := congrArg List.head? hd
        rw [List.head?_drop] at this; simpa using this
      simpa using this
    rw [hr]
    simp only [execOps] at h
    have hw := wantOf_spec (o := o) (ops := ops) hσ
    have run : ∀ σ : Slots, SlotsOK w (MM Mo μ H) μ U σ a → opX T E inl (evalA σ) H nx o (fun v H' rd wr nx' => execOps T E inl ops.toList rest (i + 1) (putDst o v σ) H' nx' (⟨i, rd, wr⟩ :: ts) K) = some z → Region.wanted o (yielded ops a.tmps) = true →
        wpOps P ops Q (i :: (List.range ops.size).drop (i + 1)) a w := fun σ hσ h hwt => by
      simp only [wpOps, ho, hwt, if_true]
      refine .inl (wp_mono2 (fun a' w' ⟨x, H', rd, wr, nx', v, ha, hg, hk⟩ => ?_) (fun _ _ _ hh => hh.elim) (opX_sound hT hE hI hs (fun x => evalA_sound hσ x) hf h))
      subst ha
      obtain ⟨μ1, U1, hv1, hs1, hn1, hu1, hx1⟩ := hg
      exact execOps_sound hT hE hI rest (i + 1) _ _ _ _ w' μ1 U1 (a.put o.dst v) hd' (fun o' ho' d hdd => by rw [put_size]; exact hdst o' (by simp [ho']) d hdd) hs1
        (hσ.put hn1 (hdst o (by simp)) hv1) (fun k hk => by
          rcases hu1 k hk with h | h | h
          · have := hf k h; omega
          · exact h.2
          · omega) hk
        (fun σ' H' nx' ts' μ' U' a' w'' h1 h2 h3 h4 h5 h6 h7 h8 => hQ σ' H' nx' ts' μ' U' a' w'' h1 h2 h3 h4 (hn1.trans h5) (Nat.le_trans hx1 h6) (by rw [h7, put_size]) (by rw [h8, put_defers]))
    have skip : ∀ σ : Slots, SlotsOK w (MM Mo μ H) μ U σ a → execOps T E inl ops.toList rest (i + 1) (putDst o (.raw undef) σ) H nx ts K = some z → Region.wanted o (yielded ops a.tmps) = false → wpOps P ops Q (i :: (List.range ops.size).drop (i + 1)) a w := fun σ hσ h hwt => by
      simp only [wpOps, ho, hwt, Bool.false_eq_true, if_false]
      exact execOps_sound hT hE hI rest (i + 1) _ _ _ _ w μ U (a.put o.dst undef) hd' (fun o' ho' d hdd => by rw [put_size]; exact hdst o' (by simp [ho']) d hdd) hs
        (hσ.put Next.refl (hdst o (by simp)) (by unfold VR; rfl)) hf h
        (fun σ' H' nx' ts' μ' U' a' w'' h1 h2 h3 h4 h5 h6 h7 h8 => hQ σ' H' nx' ts' μ' U' a' w'' h1 h2 h3 h4 h5 h6 (by rw [h7, put_size]) (by rw [h8, put_defers]))
    cases hwo : wantOf ops.toList σ o with
    | yes => rw [hwo] at h hw; exact run σ hσ h hw
    | no => rw [hwo] at h hw; exact skip σ hσ h hw
    | lost => rw [hwo] at h; cases h
    | hangs d b wn =>
      rw [hwo] at h hw
      have hl := look_known (wantOf_hangs hwo)
      cases b <;> cases wn <;> simp only [cond_true, cond_false, Want.eff, Bool.not_true, Bool.not_false] at h hw
      · exact run _ (SlotsOK_congr hl hσ) h hw
      · exact skip _ (SlotsOK_congr hl hσ) h hw
      · exact skip _ (SlotsOK_congr hl hσ) h hw
      · exact run _ (SlotsOK_congr hl hσ) h hw
end
end Go.Tat

namespace Go.Tat
set_option linter.unusedVariables false
section
variable {P : Program} {T : TE} {E : FuncId → List Entry} {w0 : World} {B0 Mo : Nat → Prop} {w : World} {M : Nat → Prop} {μ : Mu} {U : Nat → Prop} {H : Heap} {nx : Nat} {a : Act}

theorem slots_of_list {f : Nat → Value} : ∀ (nos : List Nat) (avs : List AV), VRs w M μ U avs (nos.map f) → ∀ s, VR w M μ U (look (putSlots nos avs) s) (f s)
  | [], avs, h, s => by simp only [putSlots, look]; unfold VR; trivial
  | n :: ns, [], h, s => by simp only [putSlots, look]; unfold VR; trivial
  | n :: ns, v :: vs, h, s => by
    simp only [List.map_cons] at h
    unfold VRs at h
    obtain ⟨u, us, he, h1, h2⟩ := h
    cases he
    simp only [putSlots]
    rw [look_cons]
    split
    · rename_i e; subst e; exact h1
    · exact slots_of_list ns vs h2 s
theorem list_of_slots {σ : Slots} (hσ : SlotsOK w M μ U σ a) : ∀ (nos : List Nat), VRs w M μ U (nos.map (look σ)) (nos.map fun s => a.tmps.getD s undef)
  | [] => by simp [VRs]
  | n :: ns => by simp only [List.map_cons]; unfold VRs; exact ⟨_, _, rfl, hσ n, list_of_slots hσ ns⟩

theorem nth_eq : ∀ (l : List Nat) (j : Nat), j < l.length → l[j]? = some (nth l j)
  | [], j, h => by simp at h
  | x :: r, 0, h => rfl
  | x :: r, j + 1, h => by simpa [nth] using nth_eq r j (by simpa using h)
theorem nth_mem {l : List Nat} {j : Nat} (h : j < l.length) : nth l j ∈ l := List.mem_of_getElem? (nth_eq l j h)
theorem nodup_nth : ∀ (l : List Nat) (i j : Nat), nodupN l = true → i < l.length → j < l.length → nth l i = nth l j → i = j
  | x :: r, 0, 0, _, _, _, _ => rfl
  | x :: r, 0, j + 1, hn, _, hj, he => by
    simp only [nodupN, Bool.and_eq_true, Bool.not_eq_true'] at hn
    have := memN_iff.2 (nth_mem (l := r) (j := j) (by simpa using hj))
    simp only [nth] at he
    rw [← he] at this; rw [this] at hn; cases hn.1
  | x :: r, i + 1, 0, hn, hi, _, he => by
    simp only [nodupN, Bool.and_eq_true, Bool.not_eq_true'] at hn
    have := memN_iff.2 (nth_mem (l := r) (j := i) (by simpa using hi))
    simp only [nth] at he
    rw [he] at this; rw [this] at hn; cases hn.1
  | x :: r, i + 1, j + 1, hn, hi, hj, he => by
    simp only [nodupN, Bool.and_eq_true] at hn
    rw [nodup_nth r i j hn.2 (by simpa using hi) (by simpa using hj) he]
theorem ltAll_nth : ∀ (l : List Nat) (n j : Nat), ltAll n l = true → j < l.length → nth l j < n
  | x :: r, n, 0, h, _ => by simp only [ltAll, Bool.and_eq_true] at h; exact Nat.blt_eq.mp h.1
  | x :: r, n, j + 1, h, hj => by simp only [ltAll, Bool.and_eq_true] at h; exact ltAll_nth r n j h.2 (by simpa using hj)
theorem newIds_spec : ∀ (os : List OK) (is : List Nat) (N j : Nat), newIds N os is = true → j < os.length → j < is.length → (nthO os j).fixed = false → N ≤ nth is j
  | o :: r, i :: is, N, 0, h, _, _, hf => by
    simp only [newIds, Bool.and_eq_true] at h
    simp only [nthO] at hf
    rw [hf] at h
    have h1 := h.1
    simp only [Bool.false_or] at h1
    exact Nat.ble_eq.mp h1
  | o :: r, i :: is, N, j + 1, h, h1, h2, hf => by
    simp only [newIds, Bool.and_eq_true] at h
    exact newIds_spec r is N j h.2 (by simpa using h1) (by simpa using h2) hf
theorem fixOk_spec : ∀ (os : List OK) (j0 : Nat) (ids : List Nat) (b : Bnd) (k : Nat), fixOk os j0 ids b = true → k < os.length → (nthO os k).fixed = true → bget b (j0 + k) = some (some (nth ids (j0 + k)))
  | o :: r, j0, ids, b, 0, h, _, hf => by
    simp only [fixOk, Bool.and_eq_true] at h
    simp only [nthO] at hf
    rw [hf] at h
    have h1 := h.1
    simp only [Bool.not_true, Bool.false_or] at h1
    split at h1
    · rename_i i hi
      rw [Nat.add_zero, hi, Nat.eq_of_beq_eq_true h1]
    · cases h1
  | o :: r, j0, ids, b, k + 1, h, hk, hf => by
    simp only [fixOk, Bool.and_eq_true] at h
    have := fixOk_spec r (j0 + 1) ids b k h.2 (by simpa using hk) hf
    rw [show j0 + 1 + k = j0 + (k + 1) by omega] at this
    exact this

/-- A CUT: the state that its data stand for stands in the same world. -/
theorem cut_sound {N : Nat} {p : CPat} {b0 : Bnd} {σ : Slots} {s : denT p.pat.tys} {g : Got} (hs : HS w0 B0 Mo w μ U H) (hσ : SlotsOK w (MM Mo μ H) μ U σ a) (h : cutGet p b0 σ H = some (s, g)) (hp : p.ok = true)
    (hfix : ∀ k, k < p.pat.objs.length → (nthO p.pat.objs k).fixed = true → bget g.b k = some (some (nth p.ids k))) (hnew : newIds N p.pat.objs p.ids = true) (hN : N ≤ p.nx) (hU : ∀ i, i < N → U i) :
    ∃ st, cutSt p s = some st ∧ ∃ μ' U', HS w0 B0 Mo w μ' U' st.H ∧ SlotsOK w (MM Mo μ' st.H) μ' U' st.σ a ∧ (∀ i, U' i → i < st.nx) ∧ (∀ i, i < N → μ' i = μ i ∧ U' i) ∧ Ext w (MM Mo μ H) w (MM Mo μ' st.H) := by
  unfold cutGet at h
  split at h
  · rename_i g' hgt
    cases hc : (g'.ok && (nil? g'.br && p.pat.ok)) with
    | false => rw [hc] at h; cases h
    | true =>
    rw [hc] at h; simp only [cond_true] at h
    split at h
    · rename_i s' hpk
      cases h
      simp only [Bool.and_eq_true] at hc
      obtain ⟨hok, _, hpok⟩ := hc
      simp only [CPat.ok, Bool.and_eq_true] at hp
      obtain ⟨⟨hnd, hlt⟩, hlen⟩ := hp
      have hlen : p.ids.length = p.pat.objs.length := Nat.eq_of_beq_eq_true hlen
      let ν := νOf μ g.b
      let Mo' : Nat → Prop := fun b => Mo b ∧ ¬ OwnB ν (PH p.pat g.ds) b
      obtain ⟨hrep, _, hsrc⟩ := getPat_rep (Mo' := Mo') hs (list_of_slots hσ p.nos) hgt hok hpok (fun b hb => ⟨.inl hb.1, Nat.lt_of_lt_of_le (hs.mo b hb.1) hs.grow.le⟩)
        (fun a1 h1 hp' b hb hm => hm.2 (by rw [PH_eq hp']; exact hb))
        (fun j hj tid e l hg b hb hm => (hs.out j b (by rw [hg]; exact hb)).1 hm.1)
      obtain ⟨a1, h1, hp1, hv1, hs1⟩ := id hrep
      have hsrc1 := hsrc a1 h1 hp1
      have hown : ∀ j b, mutB (hget h1 j) (ν j).v = some b → ∃ k, mutB (hget H k) (μ k).v = some b := fun j b hj => by
        rcases hsrc1 j with hd | ⟨hlt, ⟨tid, e, l, ho, hbn⟩ | ⟨k, hbk, hm, _⟩⟩
        · rw [hd] at hj; cases hj
        · rw [ho, show ν j = nilHd from νOf_none hbn] at hj; cases hj
        · rw [show ν j = μ k from νOf_some hbk] at hj; exact ⟨k, hm b hj⟩
      have hMo : ∀ b, Mo b → Mo' b := fun b hb => ⟨hb, fun ⟨j, hj⟩ => by
        rw [PH_eq hp1] at hj
        obtain ⟨k, hk⟩ := hown j b hj
        exact (hs.out k b hk).1 hb⟩
      let mu := nth p.ids
      let n := p.pat.objs.length
      have hinj : ∀ i j, i < n → j < n → mu i = mu j → i = j := fun i j hi hj he => nodup_nth p.ids i j hnd (by rw [hlen]; exact hi) (by rw [hlen]; exact hj) he
      open Classical in
      let μ' : Mu := fun i => if hh : ∃ j, j < n ∧ mu j = i then ν (Classical.choose hh) else μ i
      let U' : Nat → Prop := fun i => i < N ∨ ∃ j, j < n ∧ mu j = i
      have hmu : ∀ j, j < n → μ' (mu j) = ν j ∧ U' (mu j) := fun j hj => by
        have hex : ∃ j', j' < n ∧ mu j' = mu j := ⟨j, hj, rfl⟩
        refine ⟨?_, .inr hex⟩
        show (if hh : ∃ j', j' < n ∧ mu j' = mu j then ν (Classical.choose hh) else μ (mu j)) = ν j
        rw [dif_pos hex]
        have := Classical.choose_spec hex
        rw [hinj _ _ this.1 hj this.2]
      have hNmu : ∀ i, i < N → μ' i = μ i ∧ U' i := fun i hi => by
        refine ⟨?_, .inl hi⟩
        by_cases hex : ∃ j, j < n ∧ mu j = i
        · obtain ⟨j, hj, rfl⟩ := hex
          rw [(hmu j hj).1]
          cases hf : (nthO p.pat.objs j).fixed with
          | true => exact νOf_some (hfix j hj hf)
          | false => have := newIds_spec p.pat.objs p.ids N j hnew hj (by rw [hlen]; exact hj) hf; exact absurd hi (Nat.not_lt.2 this)
        · show (if hh : ∃ j, j < n ∧ mu j = i then ν (Classical.choose hh) else μ i) = μ i
          rw [dif_neg hex]
      have hput1 := hp1
      unfold putPat at hput1
      split at hput1
      · rename_i a1' rest hsk
        split at hput1
        · rename_i h1' hob
          simp only [Option.some.injEq, Prod.mk.injEq] at hput1
          obtain ⟨rfl, rfl⟩ := hput1
          have hlt1 : ∀ j, hget h1' j ≠ .dead → j < n := fun j hj => (hs1.use j).resolve_left hj
          have ren : ∀ M2 : Nat → Prop, Ext w (MM Mo' ν h1') w M2 → ∃ a2 h2, putPat mu p.pat g.ds = some (a2, h2) ∧ VRs w M2 μ' U' a2 (p.nos.map fun s => a.tmps.getD s undef) ∧
              (∀ i, (∀ j, hget h1' j ≠ .dead → mu j ≠ i) → hget h2 i = .dead) ∧
              (∀ j, hget h1' j ≠ .dead → ObjRen w (MM Mo' ν h1') ν (fun j => j < n) w M2 μ' U' (hget h1' j) (hget h2 (mu j))) := fun M2 hx => by
            obtain ⟨a2, e1, e2⟩ := putSK_ren (μ' := μ') (U' := U') (mu := mu) (U := fun j => j < n) hx hmu p.pat.ks _ a1' rest hsk
            obtain ⟨h2, e3, e4, e5⟩ := putObjs_ren (μ' := μ') (U' := U') (mu := mu) (U := fun j => j < n) hx hmu p.pat.objs 0 rest h1' hob
            refine ⟨a2, h2, by simp only [putPat, e1, e3], ARs_VRs e2 hv1, fun i hi => ?_, fun j hj => ?_⟩
            · have := e4 i (fun j _ _ hj => hi j hj) []
              rw [List.append_nil] at this; rw [this]; rfl
            · obtain ⟨_, _, h7⟩ := e5 j hj
              have := h7 (fun j' _ hlt hj' hm => by have := hinj j' j (hlt1 j' hj') (hlt1 j hj) hm; omega) []
              rwa [List.append_nil] at this
          obtain ⟨a2, h2, hput2, hv0, hD0, hR0⟩ := ren _ (Ext.refl _ _)
          have who : ∀ i, (∃ j, hget h1' j ≠ .dead ∧ mu j = i) ∨ hget h2 i = .dead := fun i => by
            by_cases hh : ∃ j, hget h1' j ≠ .dead ∧ mu j = i
            · exact .inl hh
            · exact .inr (hD0 i fun j hj he => hh ⟨j, hj, he⟩)
          have mutA : ∀ j b, hget h1' j ≠ .dead → mutB (hget h2 (mu j)) (μ' (mu j)).v = some b → mutB (hget h1' j) (ν j).v = some b := fun j b hj hm => by
            rw [(hR0 j hj).mut, (hmu j (hlt1 j hj)).1] at hm; exact hm
          have hX : Ext w (MM Mo' ν h1') w (MM Mo μ' h2) := Ext.sub w fun b hb => by
            rcases hb with hb | ⟨i, hi⟩
            · exact .inl (hMo b hb)
            · rcases who i with ⟨j, hj, rfl⟩ | hd
              · exact .inr ⟨j, mutA j b hj hi⟩
              · rw [hd] at hi; cases hi
          obtain ⟨a3, h3, hput3, hv3, _, hR3⟩ := ren _ hX
          rw [hput2] at hput3
          cases hput3
          have hun := pack_unpack _ _ _ hpk
          refine ⟨⟨putSlots p.nos a2, h2, p.nx⟩, by simp only [cutSt, hun]; rw [show nth p.ids = mu from rfl, hput2], μ', U', ?_, slots_of_list p.nos a2 hv3, fun i hi => ?_, hNmu, Ext.sub w fun b hb => ?_⟩
          · refine ⟨fun i => ?_, fun i1 i2 b h4 h5 => ?_, fun i b hi => ?_, fun i cs hi => ?_, fun i => ?_, hs.mo, hs.grow, hs.keep⟩
            · rcases who i with ⟨j, hj, rfl⟩ | hd
              · exact objOK_ren hX (hmu j (hlt1 j hj)).1 (hR3 j hj) (hs1.obj j)
              · show objOK _ _ _ _ _ (hget h2 i); rw [hd]; trivial
            · rcases who i1 with ⟨j1, hj1, rfl⟩ | hd1
              · rcases who i2 with ⟨j2, hj2, rfl⟩ | hd2
                · rw [hs1.inj j1 j2 b (mutA j1 b hj1 h4) (mutA j2 b hj2 h5)]
                · rw [show hget _ i2 = _ from hd2] at h5; cases h5
              · rw [show hget _ i1 = _ from hd1] at h4; cases h4
            · rcases who i with ⟨j, hj, rfl⟩ | hd
              · obtain ⟨k, hk⟩ := hown j b (mutA j b hj hi)
                exact hs.out k b hk
              · rw [show hget _ i = _ from hd] at hi; cases hi
            · rcases who i with ⟨j, hj, rfl⟩ | hd
              · have hj1 : ∃ cs', hget h1' j = .var cs' false := by
                  rcases hR0 j hj with ⟨cs1, cs2, wr, h4, h5, _⟩ | ⟨h4, h5⟩
                  · rw [show hget h2 (mu j) = _ from h5] at hi; cases hi; exact ⟨cs1, h4⟩
                  · rw [show hget h2 (mu j) = _ from h4] at hi; exact ⟨cs, hi⟩
                obtain ⟨cs', hj1⟩ := hj1
                obtain ⟨b, hb1, hb2, hb3⟩ := hs1.ro j cs' hj1
                refine ⟨b, by rw [(hmu j (hlt1 j hj)).1]; exact hb1, hb2, fun i' hi' => ?_⟩
                rcases who i' with ⟨j', hj', rfl⟩ | hd'
                · exact hb3 j' (mutA j' b hj' hi')
                · rw [show hget _ i' = _ from hd'] at hi'; cases hi'
              · rw [show hget _ i = _ from hd] at hi; cases hi
            · rcases who i with ⟨j, hj, rfl⟩ | hd
              · exact .inr (hmu j (hlt1 j hj)).2
              · exact .inl hd
          · rcases hi with hi | ⟨j, hj, rfl⟩
            · exact Nat.lt_of_lt_of_le hi hN
            · exact ltAll_nth p.ids p.nx j hlt (by rw [hlen]; exact hj)
          · rcases hb with hb | ⟨i, hi⟩
            · exact .inl hb
            · rcases who i with ⟨j, hj, rfl⟩ | hd
              · obtain ⟨k, hk⟩ := hown j b (mutA j b hj hi); exact .inr ⟨k, hk⟩
              · rw [show hget _ i = _ from hd] at hi; cases hi
        · cases hput1
      · cases hput1
    · cases h
  · cases h
end
end Go.Tat

namespace Go.Tat
set_option linter.unusedVariables false

def exOf : Ex → Exit
  | .normal => .normal
  | .exit i => .exit i
  | .ret => .ret
/-- Which way out, with what data. -/
def outDs : (outs : List (Ex × CPat)) → outT outs → Option (Ex × CPat × List DV)
  | [], _ => none
  | [x], s => some (x.1, x.2, unpack x.2.pat.tys s)
  | x :: y :: r, s => Sum.elim (fun s => some (x.1, x.2, unpack x.2.pat.tys s)) (fun s => outDs (y :: r) s) s
theorem outCase_spec {Z : Type} {n : Nat} {g : Got} {st : St} {K : Ex → St → Option Z} {z : Z} : ∀ (outs : List (Ex × CPat)) (q : outT outs), outCase n g st outs q K = some z →
    ∃ e p ds vs h, (e, p) ∈ outs ∧ outDs outs q = some (e, p, ds) ∧ putPat (muOf n p.pat.objs g.b st.nx) p.pat ds = some (vs, h) ∧ K e ⟨putSlots p.nos vs, h ++ (kill (lost p.pat.objs g.b) ++ (freeze st.H g.fz ++ st.H)), st.nx + 16⟩ = some z
  | [], q, h => by cases h
  | [x], q, h => by
    simp only [outCase] at h
    split at h
    · rename_i vs hh hp; exact ⟨x.1, x.2, _, vs, hh, by simp, rfl, hp, h⟩
    · cases h
  | x :: y :: r, q, h => by
    cases q with
    | inl s =>
      simp only [outCase, Sum.elim_inl] at h
      split at h
      · rename_i vs hh hp; exact ⟨x.1, x.2, _, vs, hh, by simp, rfl, hp, h⟩
      · cases h
    | inr s =>
      simp only [outCase, Sum.elim_inr] at h
      obtain ⟨e, p, ds, vs, hh, h1, h2, h3, h4⟩ := outCase_spec (y :: r) s h
      exact ⟨e, p, ds, vs, hh, List.mem_cons_of_mem _ h1, by simpa only [outDs, Sum.elim_inr] using h2, h3, h4⟩

def tmpsAt (a : Act) (nos : List Nat) : List Value := nos.map fun s => a.tmps.getD s undef
/-- WHAT A LOOP PROMISES. -/
def LoopOK (P : Program) (e : LoopE) (c : Code) (sz : Nat) : Prop :=
  e.pat.pat.ok = true ∧ (∀ x ∈ e.outs, kindsOk e.pat.pat.objs x.2.pat.objs = true ∧ x.2.pat.objs.length ≤ 16) ∧
  ∀ s q, e.L s = some q → ∀ (w : World) (Mo : Nat → Prop) (a : Act) (ν : Mu), a.tmps.size = sz → PRep w Mo e.pat.pat (unpack e.pat.pat.tys s) (tmpsAt a e.pat.nos) ν →
    (Code.loop c).wp P (fun ex a' w' => ∃ e' p ds' ν', outDs e.outs q = some (e', p, ds') ∧ ex = exOf e' ∧ PRep w' Mo p.pat ds' (tmpsAt a' p.nos) ν' ∧ Grew w w' ∧
      (∀ b, b < w.heap.size → ¬ OwnB ν (PH e.pat.pat (unpack e.pat.pat.tys s)) b → w'.heap[b]? = w.heap[b]?) ∧ (∀ b, OwnB ν' (PH p.pat ds') b → OwnB ν (PH e.pat.pat (unpack e.pat.pat.tys s)) b ∨ w.heap.size ≤ b) ∧
      (∀ j, j < e.pat.pat.objs.length → (nthO p.pat.objs j).fixed = true → ν' j = ν j) ∧ a'.tmps.size = a.tmps.size ∧ a'.defers = a.defers) a w

/-- Do all operations' results have their places? -/
def dstsOk (n : Nat) : Code → Bool
  | .region _ ops _ => ops.toList.all fun o => match o.dst with | some d => Nat.blt d n | none => true
  | .seq a b => dstsOk n a && dstsOk n b
  | .cond _ a b => dstsOk n a && dstsOk n b
  | .block _ c => dstsOk n c
  | .loop c => dstsOk n c
  | .scope c => dstsOk n c
  | _ => true

section
variable {P : Program} (T : TE) (E : FuncId → List Entry) {Z : Type} (inl : Inl Z) (N sz : Nat)
/-- WHAT IS TO BE SHOWN OF A CODE's CUTS AND LOOPS. -/
def AnnOK (P : Program) : Ann Z → Code → (Ex → St → Option Z) → Prop
  | n, .seq a b, K => match n with
    | .seq j x y => AnnOK P x a (seqK N j (fun st' => exec N T E inl y b st' K) K) ∧ AnnOK P y b K ∧
        (match j with | none => True | some ⟨p, J⟩ => ∀ s, (match cutSt p s with | some st => exec N T E inl y b st K | none => none) = J s)
    | _ => AnnOK P .none a (seqK N none (fun st' => exec N T E inl .none b st' K) K) ∧ AnnOK P .none b K
  | n, .cond c a b, K => match n with
    | .cond m n => AnnOK P m a K ∧ AnnOK P n b K
    | _ => AnnOK P .none a K ∧ AnnOK P .none b K
  | n, .block id c, K => AnnOK P (match n with | .block m => m | _ => .none) c (blockK id K)
  | n, .scope c, K => AnnOK P (match n with | .block m => m | _ => .none) c K
  | .loop e, .loop c, K => LoopOK P e c sz
  | _, _, _ => True

/-- A drawn region (shown elsewhere). -/
def DrawOK (P : Program) (T : TE) (E : FuncId → List Entry) : Prop :=
  ∀ (id : Nat) (ops : Array Oper) {Z : Type} (K : Slots → Heap → Nat → Option Z) (z : Z) (σ : Slots) (H : Heap) (nx : Nat) (w0 : World) (B0 Mo : Nat → Prop) (w : World) (μ : Mu) (U : Nat → Prop) (a : Act) (Q : Exit → Act → World → Prop),
    (∀ o ∈ ops.toList, ∀ d, o.dst = some d → d < a.tmps.size) → HS w0 B0 Mo w μ U H → SlotsOK w (MM Mo μ H) μ U σ a → (∀ i, U i → i < nx) →
      execOps T E noInl ops.toList ops.toList 0 σ H nx [] (fun σ H nx ts => cond (drawOk ops ts) (K σ H nx) none) = some z →
      (∀ σ' H' nx' μ' U' a' w', K σ' H' nx' = some z → HS w0 B0 Mo w' μ' U' H' → SlotsOK w' (MM Mo μ' H') μ' U' σ' a' → (∀ i, U' i → i < nx') →
        Next w (MM Mo μ H) μ U w' (MM Mo μ' H') μ' U' → nx ≤ nx' → a'.tmps.size = a.tmps.size → a'.defers = a.defers → Q .normal a' w') →
      (Code.region id ops true).wp P Q a w
end

/-- Where code ends. -/
def EndsAt {Z : Type} (P : Program) (K : Ex → St → Option Z) (z : Z) (N : Nat) (w0 : World) (B0 Mo : Nat → Prop) (w : World) (M : Nat → Prop) (μ : Mu) (a : Act) : Exit → Act → World → Prop :=
  fun ex a' w' => ∃ e st' μ' U', ex = exOf e ∧ K e st' = some z ∧ HS w0 B0 Mo w' μ' U' st'.H ∧ SlotsOK w' (MM Mo μ' st'.H) μ' U' st'.σ a' ∧ (∀ i, U' i → i < st'.nx) ∧ (∀ i, i < N → μ' i = μ i ∧ U' i) ∧ Ext w M w' (MM Mo μ' st'.H) ∧
    a'.tmps.size = a.tmps.size ∧ a'.defers = a.defers

theorem exec_sound {P : Program} {T : TE} {E : FuncId → List Entry} {Z : Type} {inl : Inl Z} {N sz : Nat} (hT : TEok P T) (hE : ∀ g, ∀ e ∈ E g, EntryOK P g e) (hI : InlOK P inl) (hD : DrawOK P T E) {z : Z} {w0 : World} {B0 Mo : Nat → Prop} :
    ∀ (c : Code) (n : Ann Z) (st : St) (K : Ex → St → Option Z) (w : World) (μ : Mu) (U : Nat → Prop) (a : Act), AnnOK T E inl N sz P n c K → dstsOk sz c = true → a.tmps.size = sz →
      HS w0 B0 Mo w μ U st.H → SlotsOK w (MM Mo μ st.H) μ U st.σ a → (∀ i, U i → i < st.nx) → (∀ i, i < N → U i) → exec N T E inl n c st K = some z →
      c.wp P (EndsAt P K z N w0 B0 Mo w (MM Mo μ st.H) μ a) a w := by
  intro c
  have now : ∀ (st : St) (K : Ex → St → Option Z) (e : Ex) (w : World) (μ : Mu) (U : Nat → Prop) (a : Act), HS w0 B0 Mo w μ U st.H → SlotsOK w (MM Mo μ st.H) μ U st.σ a → (∀ i, U i → i < st.nx) → (∀ i, i < N → U i) → K e st = some z →
      EndsAt P K z N w0 B0 Mo w (MM Mo μ st.H) μ a (exOf e) a w := fun st K e w μ U a hs hσ hb hN hk => ⟨e, st, μ, U, rfl, hk, hs, hσ, hb, fun i hi => ⟨rfl, hN i hi⟩, Ext.refl _ _, rfl, rfl⟩
  induction c with
  | skip => intro n st K w μ U a hA hd hsz hs hσ hb hN h; exact wp_skip (now st K .normal w μ U a hs hσ hb hN (by cases n <;> exact h))
  | label l => intro n st K w μ U a hA hd hsz hs hσ hb hN h; exact wp_label (now st K .normal w μ U a hs hσ hb hN (by cases n <;> exact h))
  | exit id => intro n st K w μ U a hA hd hsz hs hσ hb hN h; exact wp_exit (now st K (.exit id) w μ U a hs hσ hb hN (by cases n <;> exact h))
  | ret => intro n st K w μ U a hA hd hsz hs hσ hb hN h; exact wp_ret (now st K .ret w μ U a hs hσ hb hN (by cases n <;> exact h))
  | region id ops draw =>
    intro n st K w μ U a hA hd hsz hs hσ hb hN h
    have hdst : ∀ o ∈ ops.toList, ∀ d, o.dst = some d → d < a.tmps.size := fun o ho d hdd => by
      simp only [dstsOk, List.all_eq_true] at hd
      have := hd o ho
      rw [hdd] at this
      rw [hsz]; exact Nat.blt_eq.mp this
    have h' : cond draw
      (execOps T E noInl ops.toList ops.toList 0 st.σ st.H st.nx [] fun σ H nx ts => cond (drawOk ops ts) (K .normal ⟨σ, H, nx⟩) none)
      (execOps T E inl ops.toList ops.toList 0 st.σ st.H st.nx [] fun σ H nx _ => K .normal ⟨σ, H, nx⟩) = some z := by cases n <;> exact h
    cases draw with
    | true =>
      exact hD id ops (fun σ H nx => K .normal ⟨σ, H, nx⟩) z st.σ st.H st.nx w0 B0 Mo w μ U a _ hdst hs hσ hb h'
        (fun σ' H' nx' μ' U' a' w' h1 h2 h3 h4 h5 h6 h7 h8 => ⟨.normal, ⟨σ', H', nx'⟩, μ', U', rfl, h1, h2, h3, h4, fun i hi => ⟨h5.mu i (hN i hi), h5.use i (hN i hi)⟩, h5.ext, h7, h8⟩)
    | false =>
      refine wp_region ?_
      have := execOps_sound (Q := EndsAt P K z N w0 B0 Mo w (MM Mo μ st.H) μ a) hT hE hI (ops := ops) ops.toList 0 st.σ st.H st.nx [] w μ U a (by simp) hdst hs hσ hb h'
        (fun σ' H' nx' ts' μ' U' a' w' h1 h2 h3 h4 h5 h6 h7 h8 => ⟨.normal, ⟨σ', H', nx'⟩, μ', U', rfl, h1, h2, h3, h4, fun i hi => ⟨h5.mu i (hN i hi), h5.use i (hN i hi)⟩, h5.ext, h7, h8⟩)
      simpa using this
  | seq x y ihx ihy =>
    intro n st K w μ U a hA hd hsz hs hσ hb hN h
    simp only [dstsOk, Bool.and_eq_true] at hd
    have main : ∀ (j : Option ((p : CPat) × (denT p.pat.tys → Option Z))) (m1 m2 : Ann Z), AnnOK T E inl N sz P m1 x (seqK N j (fun st' => exec N T E inl m2 y st' K) K) → AnnOK T E inl N sz P m2 y K →
        (match j with | none => True | some ⟨p, J⟩ => ∀ s, (match cutSt p s with | some st => exec N T E inl m2 y st K | none => none) = J s) →
        exec N T E inl m1 x st (seqK N j (fun st' => exec N T E inl m2 y st' K) K) = some z → (Code.seq x y).wp P (EndsAt P K z N w0 B0 Mo w (MM Mo μ st.H) μ a) a w := fun j m1 m2 h1 h2 h3 h4 => by
      refine wp_seq (wp_mono (ihx m1 st _ w μ U a h1 hd.1 hsz hs hσ hb hN h4) fun ex a' w' ⟨e, st', μ', U', he, hk, hs', hσ', hb', hN', hx', hsz', hdf'⟩ => ?_)
      subst he
      cases e with
      | exit i => exact ⟨.exit i, st', μ', U', rfl, hk, hs', hσ', hb', hN', hx', hsz', hdf'⟩
      | ret => exact ⟨.ret, st', μ', U', rfl, hk, hs', hσ', hb', hN', hx', hsz', hdf'⟩
      | normal =>
        show y.wp P _ a' w'
        have fin : ∀ (st2 : St) (μ2 : Mu) (U2 : Nat → Prop), HS w0 B0 Mo w' μ2 U2 st2.H → SlotsOK w' (MM Mo μ2 st2.H) μ2 U2 st2.σ a' → (∀ i, U2 i → i < st2.nx) → (∀ i, i < N → μ2 i = μ' i ∧ U2 i) → Ext w' (MM Mo μ' st'.H) w' (MM Mo μ2 st2.H) → exec N T E inl m2 y st2 K = some z →
            y.wp P (EndsAt P K z N w0 B0 Mo w (MM Mo μ st.H) μ a) a' w' := fun st2 μ2 U2 g1 g2 g3 g4 gx g5 =>
          wp_mono (ihy m2 st2 K w' μ2 U2 a' h2 hd.2 (by rw [hsz', hsz]) g1 g2 g3 (fun i hi => (g4 i hi).2) g5) fun ex a2 w2 ⟨e2, st3, μ3, U3, e1, e2', e3, e4, e5, e6, ex6, e7, e8⟩ =>
            ⟨e2, st3, μ3, U3, e1, e2', e3, e4, e5, fun i hi => ⟨by rw [(e6 i hi).1, (g4 i hi).1, (hN' i hi).1], (e6 i hi).2⟩, hx'.trans (gx.trans ex6), by rw [e7, hsz'], by rw [e8, hdf']⟩
        cases j with
        | none => exact fin st' μ' U' hs' hσ' hb' (fun i hi => ⟨rfl, (hN' i hi).2⟩) (Ext.refl _ _) hk
        | some pj =>
          obtain ⟨p, J⟩ := pj
          simp only [seqK] at hk
          split at hk
          · rename_i s g hcut
            cases hc : (fixOk p.pat.objs 0 p.ids g.b && (p.ok && (newIds N p.pat.objs p.ids && Nat.ble N p.nx))) with
            | false => rw [hc] at hk; cases hk
            | true =>
              rw [hc] at hk; simp only [cond_true] at hk
              simp only [Bool.and_eq_true] at hc
              obtain ⟨hc1, hc2, hc3, hc4⟩ := hc
              obtain ⟨st2, e1, μ2, U2, e2, e3, e4, e5, e6⟩ := cut_sound hs' hσ' hcut hc2 (fun k hk hf => by have := fixOk_spec _ 0 _ _ k hc1 hk hf; rwa [Nat.zero_add] at this) hc3 (Nat.ble_eq.mp hc4) (fun i hi => (hN' i hi).2)
              have h3' := h3 s
              rw [e1] at h3'
              exact fin st2 μ2 U2 e2 e3 e4 e5 e6 (h3'.trans hk)
          · cases hk
    cases n with
    | seq j m1 m2 => exact main j m1 m2 hA.1 hA.2.1 hA.2.2 h
    | _ => exact main none .none .none hA.1 hA.2 trivial h
  | cond o x y ihx ihy =>
    intro n st K w μ U a hA hd hsz hs hσ hb hN h
    simp only [dstsOk, Bool.and_eq_true] at hd
    have hv := evalA_sound hσ o
    simp only [exec] at h
    split at h
    · rename_i b hb'
      rw [hb', VR_bool] at hv
      have main : ∀ m1 m2 : Ann Z, AnnOK T E inl N sz P m1 x K → AnnOK T E inl N sz P m2 y K → cond b (exec N T E inl m1 x st K) (exec N T E inl m2 y st K) = some z → (Code.cond o x y).wp P (EndsAt P K z N w0 B0 Mo w (MM Mo μ st.H) μ a) a w := fun m1 m2 h1 h2 h3 => by
        refine wp_cond hv ?_
        cases b with
        | true => exact ihx m1 st K w μ U a h1 hd.1 hsz hs hσ hb hN h3
        | false => exact ihy m2 st K w μ U a h2 hd.2 hsz hs hσ hb hN h3
      cases n with
      | cond m1 m2 => exact main m1 m2 hA.1 hA.2 h
      | _ => exact main .none .none hA.1 hA.2 h
    · cases h
  | block id x ih =>
    intro n st K w μ U a hA hd hsz hs hσ hb hN h
    refine wp_block (wp_mono (ih _ st _ w μ U a hA hd hsz hs hσ hb hN h) fun ex a' w' ⟨e, st', μ', U', he, hk, rest⟩ => ?_)
    subst he
    cases e with
    | normal => exact ⟨.normal, st', μ', U', rfl, hk, rest⟩
    | ret => exact ⟨.ret, st', μ', U', rfl, hk, rest⟩
    | exit i =>
      simp only [blockK] at hk
      show Exit.inBlock id _ (.exit i) a' w'
      simp only [Exit.inBlock]
      cases hi : Nat.beq i id with
      | true =>
        rw [hi] at hk
        rw [if_pos (Nat.eq_of_beq_eq_true hi)]
        exact ⟨.normal, st', μ', U', rfl, hk, rest⟩
      | false =>
        rw [hi] at hk
        rw [if_neg (fun e => by rw [e] at hi; simp at hi)]
        exact ⟨.exit i, st', μ', U', rfl, hk, rest⟩
  | scope x ih =>
    intro n st K w μ U a hA hd hsz hs hσ hb hN h
    refine wp_scope_straight (wp_mono (ih _ st K w μ U a hA hd hsz hs hσ hb hN h) fun ex a' w' hh => ?_)
    obtain ⟨e, st', μ', U', he, rest⟩ := id hh
    subst he
    cases e <;> exact hh
  | loop x ih =>
    intro n st K w μ U a hA hd hsz hs hσ hb hN h
    cases n with
    | loop e =>
      simp only [exec] at h
      split at h
      · rename_i s g hcut
        cases hq : e.L s with
        | none => rw [hq] at h; cases h
        | some q =>
          rw [hq] at h; simp only [Option.bind_some] at h
          obtain ⟨hpre, houts, hloop⟩ := (show LoopOK P e x sz from hA)
          obtain ⟨e', p, ds', vs', h2, hmem, hout, hput, hK⟩ := outCase_spec _ _ h
          unfold cutGet at hcut
          split at hcut
          · rename_i g' hgt
            cases hc : (g'.ok && (nil? g'.br && e.pat.pat.ok)) with
            | false => rw [hc] at hcut; cases hcut
            | true =>
              rw [hc] at hcut; simp only [cond_true] at hcut
              split at hcut
              · rename_i s' hpk
                cases hcut
                simp only [Bool.and_eq_true] at hc
                obtain ⟨hok, hnb, _⟩ := hc
                obtain ⟨Moc, hrep, hjoin⟩ := join_core (nx := st.nx) (post := p.pat) hs (list_of_slots hσ e.pat.nos) hgt hok hpre (houts _ hmem).1 (houts _ hmem).2 (fun i hi _ hu => by have := hb i hu; omega)
                have hun := pack_unpack _ _ _ hpk
                have hl := hloop s q hq w Moc a (νOf μ g.b) hsz (by rw [hun]; exact hrep)
                refine wp_mono hl fun ex a' w' ⟨e2, p2, ds2, ν', ho2, he, hrep', hz, hk, hown, hfix, hsz', hdf'⟩ => ?_
                rw [hout] at ho2
                simp only [Option.some.injEq, Prod.mk.injEq] at ho2
                obtain ⟨rfl, rfl, rfl⟩ := ho2
                rw [hun] at hk hown
                obtain ⟨μ', U', g0, g1, g2, g3⟩ := hjoin w' _ ν' _ vs' h2 hrep' hz hk hown hfix hput (by rw [hnb]; rfl)
                rw [List.append_assoc, List.append_assoc] at g0 g1 g2
                exact ⟨e', _, μ', U', he, hK, g1, slots_of_list p.nos vs' g0, fun i hi => by
                  show i < st.nx + 16
                  rcases g3 i hi with h5 | h5
                  · have := hb i h5; omega
                  · exact h5.2, fun i hi => ⟨g2.mu i (hN i hi), g2.use i (hN i hi)⟩, g2.ext, hsz', hdf'⟩
              · cases hcut
          · cases hcut
      · cases h
    | _ => cases h
  | _ => intro n st K w μ U a hA hd hsz hs hσ hb hN h; cases n <;> cases h
end Go.Tat

namespace Go.Tat
set_option linter.unusedVariables false

def widthSK : List SK → Nat
  | [] => 0
  | .agg n :: r => widthSK r - n + 1
  | .fn _ n m :: r => widthSK r - (n + m) + 1
  | _ :: r => widthSK r + 1
theorem putSK_width {mu : Nat → Nat} : ∀ (ks : List SK) (ds : List DV) (a : List AV) (r : List DV), putSK mu ks ds = some (a, r) → a.length = widthSK ks
  | [], ds, a, r, h => by simp only [putSK, Option.some.injEq, Prod.mk.injEq] at h; rw [← h.1]; rfl
  | k :: ks, ds, a, r, h => by
    cases k with
    | data t =>
      cases ds with
      | nil => cases h
      | cons d ds =>
        simp only [putSK] at h
        split at h
        · rename_i vs r' hr; cases h; simp [widthSK, putSK_width ks ds vs _ hr]
        · cases h
    | bor t =>
      cases ds with
      | nil => cases h
      | cons d ds =>
        simp only [putSK] at h
        split at h
        · rename_i vs r' hr; cases h; simp [widthSK, putSK_width ks ds vs _ hr]
        · cases h
    | agg n =>
      simp only [putSK] at h
      split at h
      · rename_i vs r' hr; cases h; simp [widthSK, putSK_width ks ds vs _ hr]
      · cases h
    | fn f n m =>
      simp only [putSK] at h
      split at h
      · rename_i vs r' hr; cases h; simp [widthSK, putSK_width ks ds vs _ hr]
      · cases h
    | _ =>
      simp only [putSK] at h
      split at h
      · rename_i vs r' hr; cases h; simp [widthSK, putSK_width ks ds vs _ hr]
      · cases h

section
variable {P : Program} {T : TE} {E : FuncId → List Entry} {w0 : World} {B0 Mo : Nat → Prop} {w : World} {M : Nat → Prop} {μ : Mu} {U : Nat → Prop} {H : Heap} {nx : Nat} {a : Act}

/-- What is told at the end of what began in w0. -/
theorem end_rep {p : Pat} {avs : List AV} {vs : List Value} {b0 : Bnd} {g : Got} (hs : HS w0 B0 Mo w μ U H) (hv : VRs w (MM Mo μ H) μ U avs vs) (hgt : getPat H p avs b0 = some g) (hok : g.ok = true) (hp : p.ok = true) :
    PRep w Mo p g.ds vs (νOf μ g.b) ∧ (∀ j o, bget b0 j = some o → bget g.b j = some o) ∧ (∀ b, OwnB (νOf μ g.b) (PH p g.ds) b → B0 b ∨ w0.heap.size ≤ b) := by
  let ν := νOf μ g.b
  let Mo' : Nat → Prop := fun b => Mo b ∧ ¬ OwnB ν (PH p g.ds) b
  obtain ⟨hrep, hb, hsrc⟩ := getPat_rep (Mo' := Mo') hs hv hgt hok hp (fun b hb => ⟨.inl hb.1, Nat.lt_of_lt_of_le (hs.mo b hb.1) hs.grow.le⟩)
    (fun a1 h1 hp' b hb hm => hm.2 (by rw [PH_eq hp']; exact hb))
    (fun j hj tid e l hg b hb hm => (hs.out j b (by rw [hg]; exact hb)).1 hm.1)
  obtain ⟨a1, h1, hp1, hv1, hs1⟩ := id hrep
  have hsrc1 := hsrc a1 h1 hp1
  have hown : ∀ b, OwnB ν (PH p g.ds) b → ∃ k, mutB (hget H k) (μ k).v = some b := fun b ⟨j, hj⟩ => by
    rw [PH_eq hp1] at hj
    rcases hsrc1 j with hd | ⟨hlt, ⟨tid, e, l, ho, hbn⟩ | ⟨k, hbk, hm, _⟩⟩
    · rw [hd] at hj; cases hj
    · rw [ho, show ν j = nilHd from νOf_none hbn] at hj; cases hj
    · rw [show ν j = μ k from νOf_some hbk] at hj; exact ⟨k, hm b hj⟩
  have hMo : Mo' = Mo := funext fun b => propext ⟨fun h => h.1, fun h => ⟨h, fun ho => let ⟨k, hk⟩ := hown b ho; (hs.out k b hk).1 h⟩⟩
  rw [hMo] at hrep
  exact ⟨hrep, hb, fun b ho => let ⟨k, hk⟩ := hown b ho; (hs.out k b hk).2.2⟩

def resSem (tmps : Array Value) : ResultVar → Sem Value
  | .tmp t => pure (tmps.getD t undef)
  | .cell a t => do loadVar t (← asAddr (tmps.getD a undef))
theorem resA_sound (hT : TEok P T) (hs : HS w0 B0 Mo w μ U H) {σ : Slots} (hσ : SlotsOK w (MM Mo μ H) μ U σ a) : ∀ (rs : List ResultVar) (avs : List AV), resA T H σ rs = some avs →
    ∃ vs, (rs.mapM (resSem a.tmps)).run P w = .ok vs w ∧ VRs w (MM Mo μ H) μ U avs vs
  | [], avs, h => by simp only [resA, Option.some.injEq] at h; subst h; exact ⟨[], by simp, by simp [VRs]⟩
  | .tmp t :: r, avs, h => by
    simp only [resA] at h
    split at h
    · rename_i vs' hr
      cases h
      obtain ⟨vs, h1, h2⟩ := resA_sound hT hs hσ r vs' hr
      refine ⟨a.tmps.getD t undef :: vs, ?_, ?_⟩
      · rw [List.mapM_cons]
        simp only [resSem, Sem.run_bind, Sem.run_pure, Result.andThen_ok]
        rw [h1]; rfl
      · unfold VRs; exact ⟨_, _, rfl, hσ t, h2⟩
    · cases h
  | .cell b t :: r, avs, h => by
    simp only [resA] at h
    split at h
    · rename_i id off hl
      have hv := hσ b
      rw [hl] at hv; unfold VR at hv
      obtain ⟨hu, blk, hb, hv⟩ := hv
      split at h
      · rename_i cs wr hg
        have h2 := hs.obj id
        rw [hg] at h2
        obtain ⟨b', vs0, tid, h3, h4, h5, h6⟩ := h2
        rw [hb] at h3; cases h3
        have hcell : ∀ j, w.cell? ⟨blk, j, none⟩ = vs0[j]? := fun j => cell_of_row w blk j vs0 tid (0, 0) h4
        have fin : ∀ (x : AV) (vs' : List AV) (u : Value), resA T H σ r = some vs' → (loadVar t ⟨blk, off, none⟩).run P w = .ok u w → VR w (MM Mo μ H) μ U x u → avs = x :: vs' →
            ∃ vs, ((ResultVar.cell b t :: r).mapM (resSem a.tmps)).run P w = .ok vs w ∧ VRs w (MM Mo μ H) μ U avs vs := fun x vs' u hr hld hx he => by
          obtain ⟨vs, e1, e2⟩ := resA_sound hT hs hσ r vs' hr
          refine ⟨u :: vs, ?_, ?_⟩
          · rw [List.mapM_cons]
            simp only [resSem, Sem.run_bind, hv, asAddr, Sem.run_pure, Result.andThen_ok, hld]
            rw [e1]; rfl
          · rw [he]; unfold VRs; exact ⟨_, _, rfl, hx, e2⟩
        split at h
        · rename_i vs' hr hag
          cases hle : Nat.ble (off + T.sz t) cs.length with
          | false => rw [hle] at h; cases h
          | true =>
            rw [hle] at h; simp only [cond_true, Option.some.injEq] at h
            have hle' : off + T.sz t ≤ vs0.toList.length := by rw [← VRs_len _ _ h5]; exact Nat.ble_eq.mp hle
            obtain ⟨i, e1, e2⟩ := hT.size (TEok.aggOther hag)
            refine fin _ vs' _ hr (run_loadVar_agg hT (us := (vs0.toList.drop off).take (T.sz t)) hag e1 (by rw [e2]; simp at hle' ⊢; omega) fun j u hj => ?_) ?_ h.symm
            · rw [Addr.mk_add, hcell]
              rw [List.getElem?_take] at hj
              split at hj
              · rw [List.getElem?_drop] at hj; simpa using hj
              · cases hj
            · unfold VR
              refine ⟨_, rfl, ?_, fun u hu' => h6 u ?_⟩
              · simpa using VRs_take (T.sz t) (VRs_drop off h5)
              · exact List.mem_of_mem_drop (List.mem_of_mem_take (by simpa using hu'))
        · rename_i vs' hr hag
          cases hle : Nat.blt off cs.length with
          | false => rw [hle] at h; cases h
          | true =>
            rw [hle] at h; simp only [cond_true, Option.some.injEq] at h
            have hlt : off < vs0.toList.length := by rw [← VRs_len _ _ h5]; exact Nat.blt_eq.mp hle
            have hg : vs0[off]? = some vs0.toList[off] := by
              have := List.getElem?_eq_getElem hlt; simpa using this
            exact fin _ vs' vs0.toList[off] hr (run_loadVar_one hT hag (by rw [hcell]; exact hg)) (VRs_nth off h5 _ (List.getElem?_eq_getElem hlt)) h.symm
        · cases h
      · cases h
    · cases h

theorem run_results (hT : TEok P T) (hs : HS w0 B0 Mo w μ U H) {σ : Slots} (hσ : SlotsOK w (MM Mo μ H) μ U σ a) {fn : Func} {avs : List AV} (h : resA T H σ fn.results.toList = some avs) :
    ∃ vs, (results fn a.tmps).run P w = .ok (resV vs) w ∧ VRs w (MM Mo μ H) μ U avs vs := by
  obtain ⟨vs, h1, h2⟩ := resA_sound (P := P) hT hs hσ fn.results.toList avs h
  refine ⟨vs, ?_, h2⟩
  have hres : results fn a.tmps = (fn.results.mapM (resSem a.tmps) >>= fun vs => pure (if h : vs.size = 1 then vs[0] else .tuple vs)) := by
    unfold results
    congr 1
  rw [hres, Sem.run_bind, Array.mapM_eq_mapM_toList]
  simp only [Sem.run_map]
  rw [h1]
  simp only [Result.andThen_ok]
  match vs with
  | [] => simp [resV]
  | [v] => simp [resV]
  | v :: u :: r => simp [resV]

theorem fixBnd_spec : ∀ (os : List OK) (j0 : Nat) (ids : List Nat) (k : Nat), k < os.length → (nthO os k).fixed = true → bget (fixBnd os j0 ids) (j0 + k) = some (some (nth ids (j0 + k)))
  | o :: r, j0, ids, 0, _, hf => by
    simp only [nthO] at hf
    simp only [fixBnd, hf, cond_true]
    rw [bget_cons, if_pos (by omega)]; rfl
  | o :: r, j0, ids, k + 1, hk, hf => by
    have := fixBnd_spec r (j0 + 1) ids k (by simpa using hk) hf
    rw [show j0 + 1 + k = j0 + (k + 1) by omega] at this
    simp only [fixBnd]
    cases o.fixed with
    | true => simp only [cond_true]; rw [bget_cons, if_neg (by omega)]; exact this
    | false => simp only [cond_false]; exact this
theorem nthO_take : ∀ (os : List OK) (n k : Nat), k < n → nthO (os.take n) k = nthO os k
  | [], n, k, _ => by simp [nthO_nil]
  | o :: r, n + 1, 0, _ => rfl
  | o :: r, n + 1, k + 1, h => by simp only [List.take_succ_cons, nthO]; exact nthO_take r n k (by omega)
theorem nth_range (n k : Nat) (h : k < n) : nth (List.range n) k = k := by
  have := nth_eq (List.range n) k (by simpa using h)
  simp [h] at this
  exact this.symm

/-- AN ENTRY BY A BODY. -/
theorem entry_of_body (hT : TEok P T) (hE : ∀ g, ∀ e ∈ E g, EntryOK P g e) {inl : ∀ Z, Inl Z} (hI : ∀ Z, InlOK P (inl Z)) (hD : DrawOK P T E) {f : FuncId} {fn : Func} {c : Code} (e : Entry) (hok : e.ok = true)
    (hf : P.funcs[f]? = some fn) (hname : (fn.name == "runtime.NumGoroutine") = false) (hb : fn.body = some c) (hw : Nat.ble (widthSK e.pre.ks) fn.ntmps = true) (hd : dstsOk fn.ntmps c = true) (n : Ann (denT e.post.tys))
    (hA : AnnOK T E (inl _) e.pre.objs.length fn.ntmps P n c (endK T fn.results.toList e.post e.pre.objs.length)) (hF : ∀ s, bodyRun T E inl e.pre e.post fn n s = e.F s) : EntryOK P f e := by
  refine ⟨hok, ⟨fn, hf, hname, by rw [hb]; rfl⟩, fun s q hq w Mo args ν hrep => ?_⟩
  have hok' := hok
  simp only [Entry.ok, Bool.and_eq_true] at hok'
  obtain ⟨hpre, hpost, hkinds, _⟩ := hok'
  obtain ⟨hkl, _, _⟩ := kinds_pair _ _ hkinds
  have hrun := (hF s).trans hq
  obtain ⟨avs, h, hp, hv, hs⟩ := hrep
  unfold bodyRun at hrun
  rw [hp, hb] at hrun
  simp only at hrun
  have hlen : avs.length = widthSK e.pre.ks := by
    have hp' := hp
    unfold putPat at hp'
    split at hp'
    · rename_i vs r hsk
      split at hp'
      · cases hp'; exact putSK_width _ _ _ _ hsk
      · cases hp'
    · cases hp'
  have hal : args.length = avs.length := (VRs_len _ _ hv).symm
  have hle : args.length ≤ fn.ntmps := by rw [hal, hlen]; exact Nat.ble_eq.mp hw
  refine calls_of_wp hf hb ?_
  let a0 : Act := { tmps := args.toArray ++ Array.replicate (fn.ntmps - args.toArray.size) undef, defers := [] }
  have hsz : a0.tmps.size = fn.ntmps := by simp [a0]; omega
  have hget : ∀ i, i < args.length → a0.tmps.getD i undef = args.getD i undef := fun i hi => by
    simp [a0, Array.getD_eq_getD_getElem?, List.getD_eq_getElem?_getD, Array.getElem?_append, hi]
  have hargs : args = (List.range avs.length).map fun i => a0.tmps.getD i undef := by
    apply List.ext_getElem?
    intro i
    by_cases hi : i < args.length
    · rw [List.getElem?_map, List.getElem?_range (by omega), Option.map_some, hget i hi]
      simp [List.getD_eq_getElem?_getD, List.getElem?_eq_getElem hi]
    · rw [List.getElem?_eq_none (by omega), List.getElem?_eq_none (by simp; omega)]
  rw [hargs] at hv
  have hσ : SlotsOK w (MM Mo ν h) ν (fun j => j < e.pre.objs.length) (putSlots (List.range avs.length) avs) a0 := slots_of_list _ _ hv
  refine wp_mono (exec_sound hT hE (hI _) hD c n _ _ w ν _ a0 hA hd hsz hs hσ (fun i hi => hi) (fun i hi => hi) hrun) fun ex a' w' ⟨e', st', μ', U', he, hk, hs', hσ', hb', hN', _, hsz', hdf'⟩ => ?_
  subst he
  have fin : endK T fn.results.toList e.post e.pre.objs.length e' st' = some q → (∀ i, e' ≠ .exit i) → a'.defers = [] ∧ ∃ v, (results fn a'.tmps).run P w' = .ok v w' ∧ ∃ vs ν', Ending.returned v = .returned (resV vs) ∧ PRep w' Mo e.post (unpack e.post.tys q) vs ν' ∧ Grew w w' ∧
      (∀ b, b < w.heap.size → ¬ OwnB ν (PH e.pre (unpack e.pre.tys s)) b → w'.heap[b]? = w.heap[b]?) ∧ (∀ b, OwnB ν' (PH e.post (unpack e.post.tys q)) b → OwnB ν (PH e.pre (unpack e.pre.tys s)) b ∨ w.heap.size ≤ b) ∧
      (∀ j, j < e.pre.objs.length → (nthO e.post.objs j).fixed = true → ν' j = ν j) := fun hk hne => by
    refine ⟨by rw [hdf'], ?_⟩
    unfold endK at hk
    split at hk
    · exact (hne _ rfl).elim
    · split at hk
      · rename_i vs hres
        split at hk
        · rename_i g hgt
          cases hc : (g.ok && nil? g.br) with
          | false => rw [hc] at hk; cases hk
          | true =>
            rw [hc] at hk; simp only [cond_true] at hk
            simp only [Bool.and_eq_true] at hc
            obtain ⟨out, h1, h2⟩ := run_results (P := P) hT hs' hσ' hres
            obtain ⟨h3, h4, h5⟩ := end_rep hs' h2 hgt hc.1 hpost
            have hun := pack_unpack _ _ _ hk
            refine ⟨resV out, h1, out, νOf μ' g.b, rfl, by rw [hun]; exact h3, hs'.grow, fun b hlt hnb => hs'.keep b hlt (fun hb => hnb (by rw [PH_eq hp]; exact hb)), fun b hb => ?_, fun j hj hf => ?_⟩
            · rw [hun] at hb
              rw [PH_eq hp]
              exact h5 b hb
            · have h6 := fixBnd_spec (e.post.objs.take e.pre.objs.length) 0 (List.range e.pre.objs.length) j (by simp; omega) (by rw [nthO_take _ _ _ hj]; exact hf)
              rw [Nat.zero_add, nth_range _ _ hj] at h6
              rw [νOf_some (h4 _ _ h6)]
              exact (hN' j hj).1
        · cases hk
      · cases hk
  cases e' with
  | normal => exact fin hk (fun i hh => by cases hh)
  | ret => exact fin hk (fun i hh => by cases hh)
  | exit i => cases hk
end
end Go.Tat

namespace Go.Tat
set_option linter.unusedVariables false

def iterω {S O : Type} (step : S → Option (S ⊕ O)) : Nat → S → Option O
  | 0, _ => none
  | n + 1, s => match step s with
    | none => none
    | some (.inl s') => iterω step n s'
    | some (.inr o) => some o
open Classical in
/-- A loop's end: what its rounds come to, if they end. -/
noncomputable def loopω {S O : Type} (step : S → Option (S ⊕ O)) (s : S) : Option O :=
  if h : ∃ n o, iterω step n s = some o then some (Classical.choose (Classical.choose_spec h)) else none
theorem iterω_mono {S O : Type} {step : S → Option (S ⊕ O)} : ∀ (n m : Nat) (s : S) (o : O), n ≤ m → iterω step n s = some o → iterω step m s = some o
  | 0, m, s, o, _, h => by cases h
  | n + 1, m + 1, s, o, hm, h => by
    simp only [iterω] at h ⊢
    split at h
    · cases h
    · rename_i s' hs; exact iterω_mono n m s' o (by omega) h
    · rename_i o' hs; exact h
theorem loopω_of {S O : Type} {step : S → Option (S ⊕ O)} {n : Nat} {s : S} {o : O} (h : iterω step n s = some o) : loopω step s = some o := by
  have hex : ∃ n o, iterω step n s = some o := ⟨n, o, h⟩
  unfold loopω
  rw [dif_pos hex]
  have h1 := Classical.choose_spec (Classical.choose_spec hex)
  have h2 := iterω_mono _ (max (Classical.choose hex) n) s _ (Nat.le_max_left _ _) h1
  have h3 := iterω_mono _ (max (Classical.choose hex) n) s _ (Nat.le_max_right _ _) h
  rw [h2] at h3
  exact h3
theorem loopω_iter {S O : Type} {step : S → Option (S ⊕ O)} {s : S} {o : O} (h : loopω step s = some o) : ∃ n, iterω step n s = some o := by
  unfold loopω at h
  split at h
  · rename_i hex
    simp only [Option.some.injEq] at h
    subst h
    exact ⟨_, Classical.choose_spec (Classical.choose_spec hex)⟩
  · cases h
/-- A loop is a round, and the rest. -/
theorem loopω_eq {S O : Type} (step : S → Option (S ⊕ O)) (s : S) : loopω step s = match step s with
    | none => none
    | some (.inl s') => loopω step s'
    | some (.inr o) => some o := by
  cases hs : step s with
  | none =>
    simp only []
    cases hl : loopω step s with
    | none => rfl
    | some o =>
      obtain ⟨n, hn⟩ := loopω_iter hl
      cases n with
      | zero => cases hn
      | succ n => simp only [iterω, hs] at hn; cases hn
  | some r =>
    cases r with
    | inr o => exact loopω_of (n := 1) (by simp only [iterω, hs])
    | inl s' =>
      simp only []
      cases hl : loopω step s' with
      | some o =>
        obtain ⟨n, hn⟩ := loopω_iter hl
        exact loopω_of (n := n + 1) (by simp only [iterω, hs]; exact hn)
      | none =>
        cases hl2 : loopω step s with
        | none => rfl
        | some o =>
          obtain ⟨n, hn⟩ := loopω_iter hl2
          cases n with
          | zero => cases hn
          | succ n =>
            simp only [iterω, hs] at hn
            rw [loopω_of hn] at hl; cases hl

/-- A loop of at most 2^64 rounds: the kernel can run it. -/
def loopN {S O : Type} (step : S → Option (S ⊕ O)) (s : S) : Option O := iterω step 18446744073709551616 s
theorem loopN_of {S O : Type} {step : S → Option (S ⊕ O)} {n : Nat} {s : S} {o : O} (h : iterω step n s = some o) (hn : n ≤ 18446744073709551616) : loopN step s = some o := iterω_mono n _ s o hn h

section
variable {P : Program} {T : TE} {E : FuncId → List Entry} {w0 : World} {B0 Mo : Nat → Prop} {w : World} {M : Nat → Prop} {μ : Mu} {U : Nat → Prop} {H : Heap} {nx : Nat} {a : Act}

/-- The state that a cut's data stand for, from what stands behind them. -/
theorem prep_cut {p : CPat} {ds : List DV} {ν : Mu} (hrep : PRep w Mo p.pat ds (tmpsAt a p.nos) ν) (hp : p.ok = true) :
    ∃ a2 h2 μ', putPat (nth p.ids) p.pat ds = some (a2, h2) ∧ HS w (OwnB ν (PH p.pat ds)) Mo w μ' (fun i => i < p.nx) h2 ∧ SlotsOK w (MM Mo μ' h2) μ' (fun i => i < p.nx) (putSlots p.nos a2) a ∧
      (∀ j, j < p.pat.objs.length → μ' (nth p.ids j) = ν j) := by
  obtain ⟨a1, h1, hp1, hv1, hs1⟩ := hrep
  simp only [CPat.ok, Bool.and_eq_true] at hp
  obtain ⟨⟨hnd, hlt⟩, hlen⟩ := hp
  have hlen : p.ids.length = p.pat.objs.length := Nat.eq_of_beq_eq_true hlen
  rw [PH_eq hp1]
  let mu := nth p.ids
  let n := p.pat.objs.length
  have hinj : ∀ i j, i < n → j < n → mu i = mu j → i = j := fun i j hi hj he => nodup_nth p.ids i j hnd (by rw [hlen]; exact hi) (by rw [hlen]; exact hj) he
  open Classical in
  let μ' : Mu := fun i => if hh : ∃ j, j < n ∧ mu j = i then ν (Classical.choose hh) else nilHd
  let U' : Nat → Prop := fun i => i < p.nx
  have hmu : ∀ j, j < n → μ' (mu j) = ν j ∧ U' (mu j) := fun j hj => by
    have hex : ∃ j', j' < n ∧ mu j' = mu j := ⟨j, hj, rfl⟩
    refine ⟨?_, ltAll_nth p.ids p.nx j hlt (by rw [hlen]; exact hj)⟩
    show (if hh : ∃ j', j' < n ∧ mu j' = mu j then ν (Classical.choose hh) else nilHd) = ν j
    rw [dif_pos hex]
    have := Classical.choose_spec hex
    rw [hinj _ _ this.1 hj this.2]
  have hput1 := hp1
  unfold putPat at hput1
  split at hput1
  · rename_i a1' rest hsk
    split at hput1
    · rename_i h1' hob
      simp only [Option.some.injEq, Prod.mk.injEq] at hput1
      obtain ⟨rfl, rfl⟩ := hput1
      have hlt1 : ∀ j, hget h1' j ≠ .dead → j < n := fun j hj => (hs1.use j).resolve_left hj
      have ren : ∀ M2 : Nat → Prop, Ext w (MM Mo ν h1') w M2 → ∃ a2 h2, putPat mu p.pat ds = some (a2, h2) ∧ VRs w M2 μ' U' a2 (tmpsAt a p.nos) ∧
          (∀ i, (∀ j, hget h1' j ≠ .dead → mu j ≠ i) → hget h2 i = .dead) ∧
          (∀ j, hget h1' j ≠ .dead → ObjRen w (MM Mo ν h1') ν (fun j => j < n) w M2 μ' U' (hget h1' j) (hget h2 (mu j))) := fun M2 hx => by
        obtain ⟨a2, e1, e2⟩ := putSK_ren (μ' := μ') (U' := U') (mu := mu) (U := fun j => j < n) hx hmu p.pat.ks _ a1' rest hsk
        obtain ⟨h2, e3, e4, e5⟩ := putObjs_ren (μ' := μ') (U' := U') (mu := mu) (U := fun j => j < n) hx hmu p.pat.objs 0 rest h1' hob
        refine ⟨a2, h2, by simp only [putPat, e1, e3], ARs_VRs e2 hv1, fun i hi => ?_, fun j hj => ?_⟩
        · have := e4 i (fun j _ _ hj => hi j hj) []
          rw [List.append_nil] at this; rw [this]; rfl
        · obtain ⟨_, _, h7⟩ := e5 j hj
          have := h7 (fun j' _ hlt hj' hm => by have := hinj j' j (hlt1 j' hj') (hlt1 j hj) hm; omega) []
          rwa [List.append_nil] at this
      obtain ⟨a2, h2, hput2, hv0, hD0, hR0⟩ := ren _ (Ext.refl _ _)
      have who : ∀ i, (∃ j, hget h1' j ≠ .dead ∧ mu j = i) ∨ hget h2 i = .dead := fun i => by
        by_cases hh : ∃ j, hget h1' j ≠ .dead ∧ mu j = i
        · exact .inl hh
        · exact .inr (hD0 i fun j hj he => hh ⟨j, hj, he⟩)
      have mutA : ∀ j b, hget h1' j ≠ .dead → mutB (hget h2 (mu j)) (μ' (mu j)).v = some b → mutB (hget h1' j) (ν j).v = some b := fun j b hj hm => by
        rw [(hR0 j hj).mut, (hmu j (hlt1 j hj)).1] at hm; exact hm
      have hX : Ext w (MM Mo ν h1') w (MM Mo μ' h2) := Ext.sub w fun b hb => by
        rcases hb with hb | ⟨i, hi⟩
        · exact .inl hb
        · rcases who i with ⟨j, hj, rfl⟩ | hd
          · exact .inr ⟨j, mutA j b hj hi⟩
          · rw [hd] at hi; cases hi
      obtain ⟨a3, h3, hput3, hv3, _, hR3⟩ := ren _ hX
      rw [hput2] at hput3
      cases hput3
      refine ⟨a2, h2, μ', hput2, ?_, slots_of_list p.nos a2 hv3, fun j hj => (hmu j hj).1⟩
      refine ⟨fun i => ?_, fun i1 i2 b h4 h5 => ?_, fun i b hi => ?_, fun i cs hi => ?_, fun i => ?_, hs1.mo, hs1.grow, hs1.keep⟩
      · rcases who i with ⟨j, hj, rfl⟩ | hd
        · exact objOK_ren hX (hmu j (hlt1 j hj)).1 (hR3 j hj) (hs1.obj j)
        · rw [hd]; trivial
      · rcases who i1 with ⟨j1, hj1, rfl⟩ | hd1
        · rcases who i2 with ⟨j2, hj2, rfl⟩ | hd2
          · rw [hs1.inj j1 j2 b (mutA j1 b hj1 h4) (mutA j2 b hj2 h5)]
          · rw [hd2] at h5; cases h5
        · rw [hd1] at h4; cases h4
      · rcases who i with ⟨j, hj, rfl⟩ | hd
        · exact hs1.out j b (mutA j b hj hi)
        · rw [hd] at hi; cases hi
      · rcases who i with ⟨j, hj, rfl⟩ | hd
        · have hj1 : ∃ cs', hget h1' j = .var cs' false := by
            rcases hR0 j hj with ⟨cs1, cs2, wr, h4, h5, _⟩ | ⟨h4, h5⟩
            · rw [h5] at hi; cases hi; exact ⟨cs1, h4⟩
            · rw [h4] at hi; exact ⟨cs, hi⟩
          obtain ⟨cs', hj1⟩ := hj1
          obtain ⟨b, hb1, hb2, hb3⟩ := hs1.ro j cs' hj1
          refine ⟨b, by rw [(hmu j (hlt1 j hj)).1]; exact hb1, hb2, fun i' hi' => ?_⟩
          rcases who i' with ⟨j', hj', rfl⟩ | hd'
          · exact hb3 j' (mutA j' b hj' hi')
          · rw [hd'] at hi'; cases hi'
        · rw [hd] at hi; cases hi
      · rcases who i with ⟨j, hj, rfl⟩ | hd
        · exact .inr (hmu j (hlt1 j hj)).2
        · exact .inl hd
    · cases hput1
  · cases hput1

theorem cutGet_spec {p : CPat} {b0 : Bnd} {σ : Slots} {s : denT p.pat.tys} {g : Got} (h : cutGet p b0 σ H = some (s, g)) :
    getPat H p.pat (p.nos.map (look σ)) b0 = some g ∧ g.ok = true ∧ p.pat.ok = true ∧ unpack p.pat.tys s = g.ds := by
  unfold cutGet at h
  split at h
  · rename_i g' hgt
    cases hc : (g'.ok && (nil? g'.br && p.pat.ok)) with
    | false => rw [hc] at h; cases h
    | true =>
      rw [hc] at h; simp only [cond_true] at h
      split at h
      · rename_i s' hpk
        cases h
        simp only [Bool.and_eq_true] at hc
        exact ⟨hgt, hc.1, hc.2.2, pack_unpack _ _ _ hpk⟩
      · cases h
  · cases h
theorem outGet_spec {p : CPat} {e : Ex} {st : St} : ∀ (outs : List (Ex × CPat)) (q : outT outs), outGet p e st outs = some q →
    ∃ x s g, x ∈ outs ∧ e.beq x.1 = true ∧ cutGet x.2 (fixBnd (x.2.pat.objs.take p.ids.length) 0 p.ids) st.σ st.H = some (s, g) ∧ outDs outs q = some (x.1, x.2, unpack x.2.pat.tys s)
  | [], q, h => by cases h
  | [x], q, h => by
    simp only [outGet] at h
    cases hb : e.beq x.1 with
    | false => rw [hb] at h; cases h
    | true =>
      rw [hb] at h; simp only [cond_true] at h
      split at h
      · rename_i s g hc; cases h; exact ⟨x, _, g, by simp, hb, hc, rfl⟩
      · cases h
  | x :: y :: r, q, h => by
    simp only [outGet] at h
    cases hb : e.beq x.1 with
    | true =>
      rw [hb] at h; simp only [cond_true] at h
      split at h
      · rename_i s g hc; cases h; exact ⟨x, s, g, by simp, hb, hc, rfl⟩
      · cases h
    | false =>
      rw [hb] at h; simp only [cond_false] at h
      split at h
      · rename_i q' hq
        cases h
        obtain ⟨x', s, g, h1, h2, h3, h4⟩ := outGet_spec (y :: r) q' hq
        exact ⟨x', s, g, List.mem_cons_of_mem _ h1, h2, h3, by simpa only [outDs, Sum.elim_inr] using h4⟩
      · cases h
theorem Ex.eq_of_beq {a b : Ex} (h : a.beq b = true) : a = b := by
  cases a <;> cases b <;> simp only [Ex.beq] at h <;> first | rfl | cases h | (rw [Nat.eq_of_beq_eq_true h])

theorem pair_fixed {a b : OK} (h : pairOk a b = true) (hf : b.fixed = true) : a.fixed = true := by
  cases a with
  | row fa ta ea =>
    cases fa with
    | true => rfl
    | false => cases b with
      | row fb tb eb => cases fb with
        | true => cases h
        | false => cases hf
      | var wb nb kb => cases wb <;> cases h
      | gone => cases hf
      | _ => cases h
  | gone => cases b with
    | row fb tb eb => cases fb <;> cases h
    | var wb nb kb => cases wb <;> cases h
    | _ => cases h
  | _ => rfl
/-- A LOOP BY ITS ROUND. -/
theorem loop_of_round (hT : TEok P T) (hE : ∀ g, ∀ e ∈ E g, EntryOK P g e) {inl : ∀ Z, Inl Z} (hI : ∀ Z, InlOK P (inl Z)) (hD : DrawOK P T E) {c : Code} {sz : Nat} (p : CPat) (outs : List (Ex × CPat))
    (step : denT p.pat.tys → Option (denT p.pat.tys ⊕ outT outs)) (hp : p.ok = true) (hpp : p.pat.ok = true) (hk : ∀ x ∈ outs, kindsOk p.pat.objs x.2.pat.objs = true ∧ x.2.pat.objs.length ≤ 16) (hd : dstsOk sz c = true)
    (n : Ann (denT p.pat.tys ⊕ outT outs)) (hA : AnnOK T E (inl _) p.nx sz P n c (roundK p outs)) (hR : ∀ s, round T E inl p outs n c s = step s) : LoopOK P ⟨p, outs, loopω step⟩ c sz := by
  refine ⟨hpp, hk, fun s q hq w Mo a ν hsz hrep => ?_⟩
  obtain ⟨n0, hn0⟩ := loopω_iter hq
  let B : Nat → Prop := OwnB ν (PH p.pat (unpack p.pat.tys s))
  refine wp_loop_ghost (fun k a' w' => ∃ s' ν', iterω step k s' = some q ∧ PRep w' Mo p.pat (unpack p.pat.tys s') (tmpsAt a' p.nos) ν' ∧ Grew w w' ∧ (∀ b, b < w.heap.size → ¬ B b → w'.heap[b]? = w.heap[b]?) ∧
      (∀ b, OwnB ν' (PH p.pat (unpack p.pat.tys s')) b → B b ∨ w.heap.size ≤ b) ∧ (∀ j, j < p.pat.objs.length → (nthO p.pat.objs j).fixed = true → ν' j = ν j) ∧ a'.tmps.size = a.tmps.size ∧ a'.defers = a.defers) n0
    ⟨s, ν, hn0, hrep, Grew.refl _, fun _ _ _ => rfl, fun b hb => .inl hb, fun _ _ _ => rfl, rfl, rfl⟩ ?_
  intro k a' w' ⟨s', ν', hit, hrep', hz, hfr, hown, hfix, hsz', hdf'⟩
  cases k with
  | zero => cases hit
  | succ k =>
    have hnx : ∃ r, step s' = some r ∧ (match r with | .inl s2 => iterω step k s2 = some q | .inr q' => q' = q) := by
      simp only [iterω] at hit
      split at hit
      · cases hit
      · rename_i s2 hs; exact ⟨_, hs, hit⟩
      · rename_i q' hs; exact ⟨_, hs, Option.some.inj hit⟩
    obtain ⟨r, hr, hrr⟩ := hnx
    have hround := (hR s').trans hr
    obtain ⟨a2, h2, μ', hput, hs, hσ, hmu⟩ := prep_cut hrep' hp
    unfold round at hround
    simp only [cutSt, hput] at hround
    have hp' := hp
    simp only [CPat.ok, Bool.and_eq_true] at hp'
    have hlen : p.ids.length = p.pat.objs.length := Nat.eq_of_beq_eq_true hp'.2
    have hidlt : ∀ j, j < p.pat.objs.length → nth p.ids j < p.nx := fun j hj => ltAll_nth p.ids p.nx j hp'.1.2 (by rw [hlen]; exact hj)
    refine wp_mono (exec_sound hT hE (hI _) hD c n _ _ w' μ' _ a' hA hd (by rw [hsz', hsz]) hs hσ (fun i hi => hi) (fun i hi => hi) hround) fun ex a3 w3 ⟨e', st', μ3, U3, he, hk3, hs3, hσ3, _, hN3, _, hsz3, hdf3⟩ => ?_
    subst he
    -- what is told at the end of the round
    have told : ∀ (p2 : CPat) (s2 : denT p2.pat.tys) (g : Got), cutGet p2 (fixBnd (p2.pat.objs.take p.ids.length) 0 p.ids) st'.σ st'.H = some (s2, g) →
        ∃ ν3, PRep w3 Mo p2.pat (unpack p2.pat.tys s2) (tmpsAt a3 p2.nos) ν3 ∧ Grew w w3 ∧ (∀ b, b < w.heap.size → ¬ B b → w3.heap[b]? = w.heap[b]?) ∧
          (∀ b, OwnB ν3 (PH p2.pat (unpack p2.pat.tys s2)) b → B b ∨ w.heap.size ≤ b) ∧ (p.pat.objs.length ≤ p2.pat.objs.length → ∀ j, j < p.pat.objs.length → (nthO p2.pat.objs j).fixed = true → (nthO p.pat.objs j).fixed = true → ν3 j = ν j) := fun p2 s2 g hc => by
      obtain ⟨h1, h2', h3, h4⟩ := cutGet_spec hc
      obtain ⟨h5, h6, h7⟩ := end_rep hs3 (list_of_slots hσ3 p2.nos) h1 h2' h3
      refine ⟨νOf μ3 g.b, by rw [h4]; exact h5, hz.trans hs3.grow, fun b hlt hnb => ?_, fun b hb => ?_, fun hle j hj hf hf0 => ?_⟩
      · rw [hs3.keep b (Nat.lt_of_lt_of_le hlt hz.le) fun hb => ?_]
        · exact hfr b hlt hnb
        · rcases hown b hb with h | h
          · exact hnb h
          · omega
      · rw [h4] at hb
        rcases h7 b hb with h | h
        · exact hown b h
        · exact .inr (Nat.le_trans hz.le h)
      · have h8 := fixBnd_spec (p2.pat.objs.take p.ids.length) 0 p.ids j (by simp; omega) (by rw [nthO_take _ _ _ (by omega)]; exact hf)
        rw [Nat.zero_add] at h8
        rw [νOf_some (h6 _ _ h8), (hN3 _ (hidlt j hj)).1, hmu j hj]
        exact hfix j hj hf0
    have exit : ∀ (q' : outT outs), outGet p e' st' outs = some q' → r = .inr q' → ∃ e2 p2 ds2 ν2, outDs outs q = some (e2, p2, ds2) ∧ exOf e' = exOf e2 ∧ PRep w3 Mo p2.pat ds2 (tmpsAt a3 p2.nos) ν2 ∧ Grew w w3 ∧
          (∀ b, b < w.heap.size → ¬ OwnB ν (PH p.pat (unpack p.pat.tys s)) b → w3.heap[b]? = w.heap[b]?) ∧ (∀ b, OwnB ν2 (PH p2.pat ds2) b → OwnB ν (PH p.pat (unpack p.pat.tys s)) b ∨ w.heap.size ≤ b) ∧
          (∀ j, j < p.pat.objs.length → (nthO p2.pat.objs j).fixed = true → ν2 j = ν j) ∧ a3.tmps.size = a.tmps.size ∧ a3.defers = a.defers := fun q' hg hre => by
      subst hre
      have hqq : q' = q := hrr
      subst hqq
      obtain ⟨x, s2, g, hx, hb, hc, hout⟩ := outGet_spec outs q' hg
      obtain ⟨ν3, t1, t2, t3, t4, t5⟩ := told x.2 s2 g hc
      have hee := Ex.eq_of_beq hb
      have hkx := kinds_pair _ _ (hk x hx).1
      exact ⟨x.1, x.2, _, ν3, hout, by rw [hee], t1, t2, t3, t4, fun j hj hf => t5 hkx.1 j hj hf (pair_fixed (hkx.2.1 j hj) hf), by rw [hsz3, hsz'], by rw [hdf3, hdf']⟩
    cases e' with
    | normal =>
      simp only [roundK] at hk3
      split at hk3
      · rename_i s2 g hc
        cases hk3
        have hc' : cutGet p (fixBnd (p.pat.objs.take p.ids.length) 0 p.ids) st'.σ st'.H = some (s2, g) := by
          rw [hlen, List.take_length]; exact hc
        obtain ⟨ν3, t1, t2, t3, t4, t5⟩ := told p s2 g hc'
        exact ⟨k, Nat.lt_succ_self _, s2, ν3, hrr, t1, t2, t3, t4, fun j hj hf => t5 (Nat.le_refl _) j hj hf hf, by rw [hsz3, hsz'], by rw [hdf3, hdf']⟩
      · cases hk3
    | exit i =>
      simp only [roundK] at hk3
      split at hk3
      · rename_i q' hg; exact exit q' hg (Option.some.inj hk3).symm
      · cases hk3
    | ret =>
      simp only [roundK] at hk3
      split at hk3
      · rename_i q' hg; exact exit q' hg (Option.some.inj hk3).symm
      · cases hk3
end
end Go.Tat

namespace Go.Tat
set_option linter.unusedVariables false
section
variable {P : Program} {T : TE} {E : FuncId → List Entry}

theorem annOK_none {Z : Type} {inl : Inl Z} {N sz : Nat} : ∀ (c : Code) (K : Ex → St → Option Z), AnnOK T E inl N sz P .none c K := by
  intro c
  induction c with
  | seq a b iha ihb => intro K; exact ⟨iha _, ihb _⟩
  | cond o a b iha ihb => intro K; exact ⟨iha _, ihb _⟩
  | block id c ih => intro K; exact ih _
  | scope c ih => intro K; exact ih _
  | _ => intro K; trivial

/-- What is asked of the functions that are walked into. -/
def FbOK (P : Program) (fb : FuncId → Option Func) : Prop :=
  ∀ g f, fb g = some f → P.funcs[g]? = some f ∧ (f.name == "runtime.NumGoroutine") = false ∧ ∀ c, f.body = some c → dstsOk f.ntmps c = true

theorem inlD_ok (hT : TEok P T) (hE : ∀ g, ∀ e ∈ E g, EntryOK P g e) (hD : DrawOK P T E) {fb : FuncId → Option Func} (hfb : FbOK P fb) : ∀ (n : Nat) (Z : Type), InlOK P (inlD T E fb n Z)
  | 0, Z => fun g vs H nx K z h => by cases h
  | n + 1, Z => fun g vs H nx K z h => by
    simp only [inlD] at h
    cases hg : fb g with
    | none => rw [hg] at h; cases h
    | some f =>
    rw [hg] at h
    simp only at h
    cases hb : f.body with
    | none => rw [hb] at h; cases h
    | some c =>
    rw [hb] at h
    simp only at h
    cases hle : Nat.ble vs.length f.ntmps with
    | false => rw [hle] at h; cases h
    | true =>
    rw [hle] at h
    simp only [cond_true] at h
    obtain ⟨h1, h2, h3⟩ := hfb g f hg
    have hle := Nat.ble_eq.mp hle
    refine ⟨⟨f, h1, h2, by rw [hb]; rfl⟩, fun w0 B0 Mo w μ U args hs hv hb' => ?_⟩
    have hal : args.length = vs.length := (VRs_len _ _ hv).symm
    refine calls_of_wp h1 hb ?_
    let a0 : Act := { tmps := args.toArray ++ Array.replicate (f.ntmps - args.toArray.size) undef, defers := [] }
    have hsz : a0.tmps.size = f.ntmps := by simp [a0]; omega
    have hget : ∀ i, i < args.length → a0.tmps.getD i undef = args.getD i undef := fun i hi => by
      simp [a0, Array.getD_eq_getD_getElem?, List.getD_eq_getElem?_getD, Array.getElem?_append, hi]
    have hargs : args = (List.range vs.length).map fun i => a0.tmps.getD i undef := by
      apply List.ext_getElem?
      intro i
      by_cases hi : i < args.length
      · rw [List.getElem?_map, List.getElem?_range (by omega), Option.map_some, hget i hi]
        simp [List.getD_eq_getElem?_getD, List.getElem?_eq_getElem hi]
      · rw [List.getElem?_eq_none (by omega), List.getElem?_eq_none (by simp; omega)]
    rw [hargs] at hv
    have hσ : SlotsOK w (MM Mo μ H) μ U (putSlots (List.range vs.length) vs) a0 := slots_of_list _ _ hv
    refine wp_mono (exec_sound (N := nx) hT hE (inlD_ok hT hE hD hfb n Z) hD c .none ⟨_, H, nx⟩ _ w μ (fun i => i < nx) a0 (annOK_none c _) (h3 c hb) hsz ({ hs with obj := fun i => objOK_mono ⟨Ext.refl _ _, fun _ _ => rfl, hb'⟩ rfl (fun _ _ => rfl) (fun _ _ _ _ => rfl) (hs.obj i), use := fun i => (hs.use i).imp id (hb' i) }) (fun s => VR_mono ⟨Ext.refl _ _, fun _ _ => rfl, hb'⟩ _ _ (hσ s)) (fun i hi => hi) (fun i hi => hi) h) fun ex a' w' ⟨e', st', μ', U', he, hk, hs', hσ', hb2, hN', hx', hsz', hdf'⟩ => ?_
    subst he
    have fin : (match resA T st'.H st'.σ f.results.toList with | some out => cond (Nat.ble nx st'.nx) (K ⟨tupOf out, st'.H, st'.H.map (·.1), st'.nx⟩) none | none => none) = some z →
        a'.defers = [] ∧ ∃ v, (results f a'.tmps).run P w' = .ok v w' ∧ ∃ v' r, Ending.returned v = .returned v' ∧ K r = some z ∧ GoodH w0 B0 Mo w μ U H nx r.v r.ups r.nx v' w' := fun hk => by
      refine ⟨by rw [hdf'], ?_⟩
      split at hk
      · rename_i out hres
        cases hle2 : Nat.ble nx st'.nx with
        | false => rw [hle2] at hk; cases hk
        | true =>
          rw [hle2] at hk; simp only [cond_true] at hk
          have hle2 := Nat.ble_eq.mp hle2
          obtain ⟨vs', h4, h5⟩ := run_results (P := P) hT hs' hσ' hres
          refine ⟨resV vs', h4, resV vs', _, rfl, hk, μ', U', tupOf_VR h5, hs', ⟨hx', fun i hi => (hN' i (hb' i hi)).1, fun i hi => (hN' i (hb' i hi)).2⟩, fun i hi => ?_, hle2⟩
          have := hb2 i hi
          rcases Nat.lt_or_ge i nx with h6 | h6
          · exact .inr (.inr h6)
          · exact .inr (.inl ⟨h6, this⟩)
      · cases hk
    cases e' with
    | normal => exact fin hk
    | ret => exact fin hk
    | exit i => cases hk
end
end Go.Tat

namespace Go.Tat
set_option linter.unusedVariables false
section
variable {T : TE} {E : FuncId → List Entry} {H H' : Heap}
/-- Two heaps agree on some objects. -/
def Agree (H H' : Heap) (ids : List Nat) : Prop := ∀ i ∈ ids, hget H' i = hget H i
theorem Agree.sub {a b : List Nat} (h : Agree H H' a) (hs : ∀ i ∈ b, i ∈ a) : Agree H H' b := fun i hi => h i (hs i hi)

theorem cellTo_local {t : Ty} {v : AV} {x : t.den} {ids : List Nat} (h : cellTo H t v = some (x, ids)) (ha : Agree H H' ids) : cellTo H' t v = some (x, ids) := by
  cases v with
  | own i =>
    cases t <;> simp only [cellTo] at h ⊢ <;> try (cases h; done)
    split at h
    · rename_i tid e' l live hg
      split at h
      · rename_i y hy
        cases h
        rw [ha i (by simp), hg]
        simp only [hy]
      · cases h
    · cases h
  | _ => cases t <;> simpa only [cellTo] using h
theorem joinTy_local : ∀ (t : Ty) {cs : List AV} {x : t.den} {ids : List Nat}, joinTy H t cs = some (x, ids) → Agree H H' ids → joinTy H' t cs = some (x, ids)
  | .prod a b, cs, x, ids, h, ha => by
    simp only [joinTy] at h ⊢
    split at h
    · rename_i y i z j h1 h2
      cases h
      rw [joinTy_local a h1 (ha.sub fun k hk => by simp [hk]), joinTy_local b h2 (ha.sub fun k hk => by simp [hk])]
    · cases h
  | .box a, cs, x, ids, h, ha => joinTy_local (t := a) h ha
  | .arr _ _, cs, x, ids, h, ha => by simp [joinTy] at h
  | .int k, cs, x, ids, h, ha => by
    simp only [joinTy] at h ⊢
    split at h
    · exact cellTo_local h ha
    · cases h
  | .bool, cs, x, ids, h, ha => by
    simp only [joinTy] at h ⊢
    split at h
    · exact cellTo_local h ha
    · cases h
  | .str, cs, x, ids, h, ha => by
    simp only [joinTy] at h ⊢
    split at h
    · exact cellTo_local h ha
    · cases h
  | .slice e, cs, x, ids, h, ha => by
    simp only [joinTy] at h ⊢
    split at h
    · exact cellTo_local h ha
    · cases h
theorem toD_local {t : Ty} {v : AV} {x : t.den} {ids : List Nat} (h : toD H t v = some (x, ids)) (ha : Agree H H' ids) : toD H' t v = some (x, ids) := by
  unfold toD at h ⊢
  split at h
  · cases ht : t.agg with
    | false => rw [ht] at h; cases h
    | true => rw [ht] at h; simp only [cond_true] at h ⊢; exact joinTy_local t h ha
  · exact cellTo_local h ha
theorem elemsOf_local {e : Ty} {v : AV} {l : List e.den} {ids : List Nat} (h : elemsOf H e v = some (l, ids)) (ha : Agree H H' ids) : elemsOf H' e v = some (l, ids) := by
  unfold elemsOf at h ⊢
  split at h
  · exact h
  · rename_i id
    split at h
    · rename_i tid e' l' live hg
      split at h
      · rename_i y hy
        cases h
        simp only [ha id (by simp), hg, hy]
      · cases h
    · cases h
  · exact h
  · cases h
theorem rowOf_local {e : TypeId} {u : Ty} {v : AV} {l : List u.den} {ids : List Nat} (h : rowOf H e u v = some (l, ids)) (ha : Agree H H' ids) : rowOf H' e u v = some (l, ids) := by
  unfold rowOf at h ⊢
  split at h
  · exact h
  · rename_i id
    split at h
    · rename_i tid e' l' hg
      cases hb : Nat.beq tid e with
      | false => rw [hb] at h; cases h
      | true =>
        rw [hb] at h; simp only [cond_true] at h
        split at h
        · rename_i y hy
          cases h
          simp only [ha id (by simp), hg, hb, cond_true, hy]
        · cases h
    · cases h
  · cases h
theorem litD_local {e : Ty} : ∀ (ps : List (Nat × AV)) (i : Nat) {l : List e.den} {ids : List Nat}, litD H e i ps = some (l, ids) → Agree H H' ids → litD H' e i ps = some (l, ids)
  | [], i, l, ids, h, ha => h
  | (j, v) :: r, i, l, ids, h, ha => by
    simp only [litD] at h ⊢
    cases hb : Nat.beq i j with
    | false => rw [hb] at h; cases h
    | true =>
      rw [hb] at h; simp only [cond_true] at h ⊢
      split at h
      · rename_i x a xs b h1 h2
        cases h
        rw [toD_local h1 (ha.sub fun k hk => by simp [hk]), litD_local r (i + 1) h2 (ha.sub fun k hk => by simp [hk])]
      · cases h
theorem freeze_local : ∀ (ids : List Nat), Agree H H' ids → freeze H' ids = freeze H ids
  | [], _ => rfl
  | i :: r, ha => by
    simp only [freeze]
    rw [ha i (by simp), freeze_local r (ha.sub fun k hk => by simp [hk])]
end
end Go.Tat

namespace Go.Tat
set_option linter.unusedVariables false
section
variable {T : TE} {E : FuncId → List Entry} {H H' : Heap}

theorem getSK_local : ∀ (ks : List SK) (avs : List AV) (b : Bnd) (g : Got), getSK H ks avs b = some g → Agree H H' g.rd → getSK H' ks avs b = some g ∧ (∀ i ∈ g.fz, i ∈ g.rd)
  | [], [], b, g, h, ha => by simp only [getSK, Option.some.injEq] at h; subst h; exact ⟨by simp only [getSK], fun i hi => by cases hi⟩
  | [], _ :: _, b, g, h, ha => by cases h
  | k :: ks, [], b, g, h, ha => by cases k <;> cases h
  | .data t :: ks, a :: avs, b, g, h, ha => by
    simp only [getSK] at h ⊢
    split at h
    · rename_i x i hd
      split at h
      · rename_i g' hg
        cases h
        obtain ⟨h1, h2⟩ := getSK_local ks avs b g' hg (ha.sub fun k hk => by simp [hk])
        rw [toD_local hd (ha.sub fun k hk => by simp [hk])]
        simp only [h1, true_and]
        intro j hj
        simp only [List.mem_append] at hj ⊢
        exact hj.imp id (h2 j)
      · cases h
    · cases h
  | .bor t :: ks, a :: avs, b, g, h, ha => by
    simp only [getSK] at h ⊢
    split at h
    · rename_i x i hd
      split at h
      · rename_i g' hg
        cases h
        obtain ⟨h1, h2⟩ := getSK_local ks avs b g' hg (ha.sub fun k hk => by simp [hk])
        rw [toD_local hd (ha.sub fun k hk => by simp [hk])]
        simp only [h1, true_and]
        intro j hj
        simp only [List.mem_append]
        exact .inr (h2 j hj)
      · cases h
    · cases h
  | .own j :: ks, a :: avs, b, g, h, ha => by
    cases a <;> simp only [getSK] at h ⊢ <;> (try cases h; done)
    all_goals
      split at h
      · exact getSK_local ks avs _ g h ha
      · cases h
  | .ptr j off :: ks, a :: avs, b, g, h, ha => by
    cases a <;> simp only [getSK] at h ⊢ <;> (try cases h; done)
    rename_i i off'
    cases hb : Nat.beq off off' with
    | false => rw [hb] at h; cases h
    | true =>
      rw [hb] at h; simp only [cond_true] at h ⊢
      split at h
      · exact getSK_local ks avs _ g h ha
      · cases h
  | .aptr j :: ks, a :: avs, b, g, h, ha => by
    cases a <;> simp only [getSK] at h ⊢ <;> (try cases h; done)
    split at h
    · exact getSK_local ks avs _ g h ha
    · cases h
  | .map j :: ks, a :: avs, b, g, h, ha => by
    cases a <;> simp only [getSK] at h ⊢ <;> (try cases h; done)
    split at h
    · exact getSK_local ks avs _ g h ha
    · cases h
  | .iter j :: ks, a :: avs, b, g, h, ha => by
    cases a <;> simp only [getSK] at h ⊢ <;> (try cases h; done)
    split at h
    · exact getSK_local ks avs _ g h ha
    · cases h
  | .agg n :: ks, a :: avs, b, g, h, ha => by
    cases a <;> simp only [getSK] at h ⊢ <;> (try cases h; done)
    rename_i cs
    cases hb : Nat.beq cs.length n with
    | false => rw [hb] at h; cases h
    | true => rw [hb] at h; simp only [cond_true] at h ⊢; exact getSK_local ks _ b g h ha
  | .fn f n m :: ks, a :: avs, b, g, h, ha => by
    cases a <;> simp only [getSK] at h ⊢ <;> (try cases h; done)
    rename_i f' fi ca
    cases hb : (Nat.beq f f' && Nat.beq fi.length n && Nat.beq ca.length m) with
    | false => rw [hb] at h; cases h
    | true => rw [hb] at h; simp only [cond_true] at h ⊢; exact getSK_local ks _ b g h ha
theorem getObjs_local : ∀ (objs : List OK) (j : Nat) (b : Bnd) (g : Got), getObjs H j objs b = some g → Agree H H' g.rd → getObjs H' j objs b = some g ∧ (∀ i ∈ g.fz, i ∈ g.rd)
  | [], j, b, g, h, ha => by simp only [getObjs, Option.some.injEq] at h; subst h; exact ⟨by simp only [getObjs], fun i hi => by cases hi⟩
  | .row fix tid e :: r, j, b, g, h, ha => by
    simp only [getObjs] at h ⊢
    split at h
    · cases fix with
      | true => cases h
      | false =>
        simp only [cond_false] at h ⊢
        split at h
        · rename_i g' hg
          cases h
          obtain ⟨h1, h2⟩ := getObjs_local r (j + 1) b g' hg ha
          simp only [h1]; exact ⟨trivial, h2⟩
        · cases h
    · rename_i i hb
      split at h
      · rename_i tid' e' l hg0
        cases hc : Nat.beq tid tid' with
        | false => rw [hc] at h; cases h
        | true =>
          rw [hc] at h; simp only [cond_true] at h
          split at h
          · rename_i y hy
            split at h
            · rename_i g' hg
              cases h
              obtain ⟨h1, h2⟩ := getObjs_local r (j + 1) b g' hg (ha.sub fun k hk => by simp [hk])
              simp only [ha i (by simp), hg0, hc, cond_true, hy, h1, true_and]
              exact fun k hk => List.mem_cons_of_mem _ (h2 k hk)
            · cases h
          · cases h
      · cases h
    · cases h
  | .arr n e :: r, j, b, g, h, ha => by
    simp only [getObjs] at h ⊢
    split at h
    · rename_i i hb
      split at h
      · rename_i n' e' l hg0
        cases hc : Nat.beq n n' with
        | false => rw [hc] at h; cases h
        | true =>
          rw [hc] at h; simp only [cond_true] at h
          split at h
          · rename_i y hy
            split at h
            · rename_i g' hg
              cases h
              obtain ⟨h1, h2⟩ := getObjs_local r (j + 1) b g' hg (ha.sub fun k hk => by simp [hk])
              simp only [ha i (by simp), hg0, hc, cond_true, hy, h1, true_and]
              exact fun k hk => List.mem_cons_of_mem _ (h2 k hk)
            · cases h
          · cases h
      · cases h
    · cases h
  | .var w n ks :: r, j, b, g, h, ha => by
    simp only [getObjs] at h ⊢
    split at h
    · rename_i i hb
      split at h
      · rename_i cs w' hg0
        cases hc : (Nat.beq cs.length n && (w' || !w)) with
        | false => rw [hc] at h; cases h
        | true =>
          rw [hc] at h; simp only [cond_true] at h
          split at h
          · rename_i g0 hsk
            split at h
            · rename_i g' hg
              cases h
              obtain ⟨h1, h2⟩ := getObjs_local r (j + 1) g0.b g' hg (ha.sub fun k hk => by simp [hk])
              obtain ⟨h3, h4⟩ := getSK_local (H' := H') ks cs b g0 hsk (ha.sub fun k hk => by simp [hk])
              simp only [ha i (by simp), hg0, hc, cond_true, h3, h1, true_and]
              intro k hk
              simp only [List.cons_append, List.mem_cons, List.mem_append] at hk ⊢
              rcases hk with hk | hk
              · exact .inr (.inl (h4 k hk))
              · exact .inr (.inr (h2 k hk))
            · cases h
          · cases h
      · cases h
    · cases h
  | .map k v :: r, j, b, g, h, ha => by
    simp only [getObjs] at h ⊢
    split at h
    · rename_i i hb
      split at h
      · rename_i k' v' m hg0
        split at h
        · rename_i y hy
          split at h
          · rename_i g' hg
            cases h
            obtain ⟨h1, h2⟩ := getObjs_local r (j + 1) b g' hg (ha.sub fun k hk => by simp [hk])
            simp only [ha i (by simp), hg0, hy, h1, true_and]
            exact fun k hk => List.mem_cons_of_mem _ (h2 k hk)
          · cases h
        · cases h
      · cases h
    · cases h
  | .iter :: r, j, b, g, h, ha => by
    simp only [getObjs] at h ⊢
    split at h
    · rename_i i hb
      split at h
      · rename_i s pos hg0
        split at h
        · rename_i g' hg
          cases h
          obtain ⟨h1, h2⟩ := getObjs_local r (j + 1) b g' hg (ha.sub fun k hk => by simp [hk])
          simp only [ha i (by simp), hg0, h1, true_and]
          exact fun k hk => List.mem_cons_of_mem _ (h2 k hk)
        · cases h
      · cases h
    · cases h
  | .gone :: r, j, b, g, h, ha => by simp only [getObjs] at h ⊢; exact getObjs_local r (j + 1) b g h ha
  | .keep :: r, j, b, g, h, ha => by simp only [getObjs] at h ⊢; exact getObjs_local r (j + 1) b g h ha
theorem getPat_local {p : Pat} {avs : List AV} {b : Bnd} {g : Got} (h : getPat H p avs b = some g) (ha : Agree H H' g.rd) : getPat H' p avs b = some g ∧ (∀ i ∈ g.fz, i ∈ g.rd) := by
  unfold getPat at h ⊢
  split at h
  · rename_i g0 h0
    split at h
    · rename_i g1 h1
      cases h
      obtain ⟨e1, e2⟩ := getSK_local (H' := H') p.ks avs b g0 h0 (ha.sub fun k hk => by simp [hk])
      obtain ⟨e3, e4⟩ := getObjs_local (H' := H') p.objs 0 g0.b g1 h1 (ha.sub fun k hk => by simp [hk])
      simp only [e1, e3, true_and]
      intro k hk
      simp only [List.mem_append] at hk ⊢
      exact hk.imp (e2 k) (e4 k)
    · cases h
  · cases h
theorem callE_local {nx : Nat} {avs : List AV} {r : R} : ∀ (es : List Entry), (callE H nx avs es).run some = some r → Agree H H' r.rd → (callE H' nx avs es).run some = some r
  | [], h, ha => h
  | E :: es, h, ha => by
    simp only [callE] at h ⊢
    cases hm : skMatch E.pre.ks avs with
    | false => rw [hm] at h; simp only [cond_false] at h ⊢; exact callE_local es h ha
    | true =>
      rw [hm] at h; simp only [cond_true] at h ⊢
      split at h
      · rename_i g hg
        cases hok : g.ok with
        | false => rw [hok] at h; cases h
        | true =>
          rw [hok] at h; simp only [cond_true] at h
          split at h
          · rename_i s hs
            simp only [DT.run] at h
            cases hq : E.F s with
            | none => rw [hq] at h; cases h
            | some q =>
              rw [hq] at h; simp only [Option.bind_some] at h
              split at h
              · rename_i out h2 hp
                cases hb : (nil? g.br || (flatAVs out && nilH h2)) with
                | false => rw [hb] at h; cases h
                | true =>
                  rw [hb] at h; simp only [cond_true, DT.run, Option.some.injEq] at h; subst h
                  obtain ⟨e1, e2⟩ := getPat_local (H' := H') hg ha
                  simp only [e1, hok, cond_true, hs, DT.run, hq, Option.bind_some, hp, hb]
                  rw [freeze_local g.fz (ha.sub e2)]
              · cases h
          · cases h
      · cases h
end
end Go.Tat

namespace Go.Tat
set_option linter.unusedVariables false
section
variable {T : TE} {E : FuncId → List Entry} {H H' : Heap} {ρ : Operand → AV} {nx : Nat} {o : Oper} {r : R}

theorem binEq_local {b : BinOp} {t : TypeId} {x y : AV} (h : (binEq T H b t x y nx).run some = some r) (ha : Agree H H' r.rd) : (binEq T H' b t x y nx).run some = some r := by
  unfold binEq at h ⊢
  split at h
  · rename_i u hu
    cases hq : (u.eqOk && u.eqNo) with
    | false => rw [hq] at h; cases h
    | true =>
      rw [hq] at h; simp only [cond_true] at h ⊢
      split at h
      · rename_i va i vb j hx hy
        have hsub : r.rd = i ++ j := by cases b <;> simp only [DT.run, Option.some.injEq] at h <;> first | (subst h; rfl) | cases h
        rw [hsub] at ha
        rw [toD_local hx (ha.sub fun k hk => by simp [hk]), toD_local hy (ha.sub fun k hk => by simp [hk])]
        exact h
      · cases h
  · cases h
theorem mapUpC_local {t : TypeId} {m k v : AV} (h : (mapUpC T H nx t m k v).run some = some r) (ha : Agree H H' r.rd) : (mapUpC T H' nx t m k v).run some = some r := by
  unfold mapUpC at h ⊢
  split at h
  · rename_i id kt vt hud
    split at h
    · rename_i ka vb es hg
      split at h
      · rename_i x i y fz hx hy
        cases hk : keyIs (T.ud kt) ka with
        | false => rw [hk] at h; cases h
        | true =>
          rw [hk] at h; simp only [cond_true, DT.run, Option.some.injEq] at h; subst h
          rw [ha id (by simp), hg]
          simp only [toD_local hx (ha.sub fun k hk => by simp [hk]), toD_local hy (ha.sub fun k hk => by simp [hk]), hk, cond_true, DT.run]
          rw [freeze_local fz (ha.sub fun k hk => by simp [hk])]
      · cases h
    · cases h
  · cases h
theorem lenC_local {ts : List TypeId} {xs : List AV} (h : (lenC T H nx ts xs).run some = some r) (ha : Agree H H' r.rd) : (lenC T H' nx ts xs).run some = some r := by
  match ts, xs, h with
  | [t], [x], h =>
    simp only [lenC] at h ⊢
    split at h
    · exact h
    · exact h
    · exact h
    · rename_i e id hud
      split at h
      · rename_i tid e' l live hg
        simp only [DT.run, Option.some.injEq] at h; subst h
        rw [ha id (by simp), hg]; rfl
      · cases h
    · cases h
  | [], _, h => cases h
  | _ :: _ :: _, _, h => cases h
  | [_], [], h => cases h
  | [_], _ :: _ :: _, h => cases h
theorem appC_local {ts : List TypeId} {xs : List AV} (h : (appC T H nx ts xs).run some = some r) (ha : Agree H H' r.rd) : (appC T H' nx ts xs).run some = some r := by
  match ts, xs, h with
  | [t, t'], [s, x], h =>
    simp only [appC] at h ⊢
    cases hb : Nat.beq t t' with
    | false => rw [hb] at h; cases h
    | true =>
      rw [hb] at h; simp only [cond_true] at h ⊢
      split at h
      · split at h
        · split at h
          · rename_i l i m j hl hm
            cases hap : apartN i j with
            | false => rw [hap] at h; cases h
            | true =>
              rw [hap] at h; simp only [cond_true] at h
              obtain ⟨hg, h'⟩ := guard_some h
              have hrd : r.rd = i ++ j := by simp only [DT.run, Option.some.injEq] at h'; subst h'; rfl
              rw [hrd] at ha
              rw [rowOf_local hl (ha.sub fun k hk => by simp [hk]), elemsOf_local hm (ha.sub fun k hk => by simp [hk])]
              simp only [hap, cond_true]
              exact h
          · cases h
        · cases h
      · cases h
  | [], _, h => cases h
  | [_], _, h => cases h
  | _ :: _ :: _ :: _, _, h => cases h
  | [_, _], [], h => cases h
  | [_, _], [_], h => cases h
  | [_, _], _ :: _ :: _ :: _, h => cases h
theorem opG_local (h : (opG T E ρ H nx o).run some = some r) (ha : Agree H H' r.rd) : (opG T E ρ H' nx o).run some = some r := by
  cases ho : o.op with
  | load t x =>
    simp only [opG, ho] at h ⊢
    split at h
    · rename_i id off hx
      split at h
      · rename_i cs wr hg
        have hrd : r.rd = [id] := by
          split at h
          · cases hb : Nat.ble (off + T.sz t) cs.length <;> rw [hb] at h <;> simp only [cond_true, cond_false, DT.run, Option.some.injEq] at h
            · cases h
            · subst h; rfl
          · cases hb : Nat.blt off cs.length <;> rw [hb] at h <;> simp only [cond_true, cond_false, DT.run, Option.some.injEq] at h
            · cases h
            · subst h; rfl
          · cases h
        rw [hrd] at ha
        rw [ha id (by simp), hg]; exact h
      · cases h
    · exact h
    · rename_i id k e u p hx
      cases hb : tyIs T t u with
      | false => rw [hb] at h; cases h
      | true =>
        rw [hb] at h
        simp only [Bool.not_true, cond_false] at h ⊢
        have hrd : r.rd = [id] := by
          split at h
          · split at h
            · simp only [DT.run, Option.some.injEq] at h; subst h; rfl
            · cases h
          · split at h
            · simp only [DT.run, Option.some.injEq] at h; subst h; rfl
            · cases h
          · cases h
        rw [hrd] at ha
        rw [ha id (by simp)]; exact h
    · cases h
  | store t x y =>
    simp only [opG, ho] at h ⊢
    split at h
    · rename_i id off hx
      split at h
      · rename_i cs new hg hc
        cases hb : (Nat.beq new.length (T.sz t) && (Nat.ble (off + T.sz t) cs.length && (aggT T t).isSome)) with
        | false => rw [hb] at h; cases h
        | true =>
          rw [hb] at h
          simp only [cond_true, DT.run, Option.some.injEq] at h; subst h
          rw [ha id (by simp), hg, hc]
          simp only [hb, cond_true, DT.run]
      · cases h
    · rename_i id k e u p hx
      cases hb : tyIs T t u with
      | false => rw [hb] at h; cases h
      | true =>
        rw [hb] at h
        simp only [Bool.not_true, cond_false] at h ⊢
        split at h
        · rename_i v fz hd
          split at h
          · rename_i tid e' l hg
            split at h
            · rename_i z hz
              cases hm : memN fz id with
              | true => rw [hm] at h; cases h
              | false =>
                rw [hm] at h
                simp only [cond_false, DT.run, Option.some.injEq] at h; subst h
                rw [toD_local hd (ha.sub fun k hk => by simp [hk])]
                simp only [ha id (by simp), hg, hz, hm, cond_false, DT.run]
                rw [freeze_local fz (ha.sub fun k hk => by simp [hk])]
            · cases h
          · rename_i n e' l hg
            split at h
            · rename_i z hz
              cases hm : memN fz id with
              | true => rw [hm] at h; cases h
              | false =>
                rw [hm] at h
                simp only [cond_false, DT.run, Option.some.injEq] at h; subst h
                rw [toD_local hd (ha.sub fun k hk => by simp [hk])]
                simp only [ha id (by simp), hg, hz, hm, cond_false, DT.run]
                rw [freeze_local fz (ha.sub fun k hk => by simp [hk])]
            · cases h
          · cases h
        · cases h
    · cases h
  | buildSlice t n ps =>
    simp only [opG, ho] at h ⊢
    split at h
    · rename_i e hud
      cases hb : (Nat.beq n ps.toList.length && Nat.ble (n * T.sz e) 4096) with
      | false => rw [hb] at h; cases h
      | true =>
        rw [hb] at h; simp only [cond_true] at h ⊢
        split at h
        · split at h
          · rename_i l ids hl
            simp only [DT.run, Option.some.injEq] at h; subst h
            rw [litD_local _ _ hl ha]
            simp only [DT.run]
            rw [freeze_local ids ha]
          · cases h
        · cases h
    · cases h
  | insert t m k v => simp only [opG, ho] at h ⊢; exact mapUpC_local h ha
  | mapUpdate t m k v => simp only [opG, ho] at h ⊢; exact mapUpC_local h ha
  | binOp b t x y t' =>
    simp only [opG, ho] at h ⊢
    split at h
    · exact h
    · exact h
    · exact binEq_local h ha
  | convert s t x =>
    simp only [opG, ho] at h ⊢
    split at h
    · exact h
    · split at h
      · exact h
      · split at h
        · split at h
          · rename_i l ids hl
            simp only [DT.run, Option.some.injEq] at h; subst h
            rw [elemsOf_local hl ha]; rfl
          · cases h
        · cases h
      · cases h
    · cases h
  | lookup t m k ok =>
    simp only [opG, ho] at h ⊢
    split at h
    · rename_i id kt vt hm hud
      split at h
      · rename_i ka vb es hg
        split at h
        · rename_i x i hx
          have hrd : r.rd = id :: i := by
            cases hb : (keyIs (T.ud kt) ka && tyIs T vt vb) with
            | false => rw [hb] at h; cases h
            | true =>
              rw [hb] at h
              cases ok <;> (simp only [cond_true, DT.run, Option.some.injEq] at h; subst h; rfl)
          rw [hrd] at ha
          rw [ha id (by simp), hg]
          simp only [toD_local hx (ha.sub fun k hk => by simp [hk])]
          exact h
        · cases h
      · cases h
    · cases h
  | slice t x lo hi mx =>
    simp only [opG, ho] at h ⊢
    split at h
    · split at h
      · exact h
      · exact h
      · rename_i id e' hx hud
        split at h
        · rename_i tid e l live hg
          have hrd : r.rd = [id] := by
            cases hb : tyIs T e' e with
            | false => rw [hb] at h; cases h
            | true =>
              rw [hb] at h; simp only [cond_true] at h
              obtain ⟨_, h'⟩ := guard_some h
              simp only [DT.run, Option.some.injEq] at h'; subst h'; rfl
          rw [hrd] at ha
          rw [ha id (by simp), hg, freeze_local [id] ha]
          exact h
        · cases h
      · cases h
    · cases h
  | indexAddr t x i =>
    simp only [opG, ho] at h ⊢
    split at h
    · cases h
    · split at h
      · exact h
      · rename_i id e' hx hud
        split at h
        · rename_i tid e l live hg
          have hrd : r.rd = [id] := by
            cases hb : tyIs T e' e with
            | false => rw [hb] at h; cases h
            | true =>
              rw [hb] at h; simp only [cond_true] at h
              obtain ⟨_, h'⟩ := guard_some h
              simp only [DT.run, Option.some.injEq] at h'; subst h'; rfl
          rw [hrd] at ha
          rw [ha id (by simp), hg]; exact h
        · cases h
      · rename_i id n e' hx hud
        split at h
        · rename_i m e l hg
          have hrd : r.rd = [id] := by
            cases hb : (tyIs T e' e && Nat.beq n m) with
            | false => rw [hb] at h; cases h
            | true =>
              rw [hb] at h; simp only [cond_true] at h
              obtain ⟨_, h'⟩ := guard_some h
              simp only [DT.run, Option.some.injEq] at h'; subst h'; rfl
          rw [hrd] at ha
          rw [ha id (by simp), hg]; exact h
        · cases h
      · cases h
  | next it b =>
    cases b with
    | false => simp only [opG, ho] at h; cases h
    | true =>
      simp only [opG, ho] at h ⊢
      split at h
      · rename_i id hx
        split at h
        · rename_i s pos hg
          have hrd : r.rd = [id] := by
            cases hp : decide (pos < s.size) <;> (rw [hp] at h; simp only [DT.run, cond_true, cond_false, Option.some.injEq] at h; subst h; rfl)
          rw [hrd] at ha
          rw [ha id (by simp), hg]; exact h
        · cases h
      · cases h
  | call c =>
    cases hc : c.callee with
    | value f =>
      simp only [opG, ho, hc] at h ⊢
      split at h
      · exact callE_local _ h ha
      · cases h
    | invoke x m => simp only [opG, ho, hc] at h; cases h
    | builtin b =>
      simp only [opG, ho, hc] at h ⊢
      cases b with
      | len => exact lenC_local h ha
      | append => exact appC_local h ha
      | _ => exact h
  | _ => simp only [opG, ho] at h ⊢ <;> exact h
end
end Go.Tat
