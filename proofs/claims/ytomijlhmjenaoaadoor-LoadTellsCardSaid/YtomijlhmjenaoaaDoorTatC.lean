/- What is used to prove: drawn regions, the types' table, a law's contract, words; no condition. -/
import Derived.Test.YtomijlhmjenaoaaDoorTatB
import Derived.Laws.StructEq
import Derived.ProofKit
import Derived.OpenShut
set_option linter.unnecessarySimpa false
set_option linter.unusedSimpArgs false
namespace Go.Tat
set_option linter.unusedVariables false
section
variable {T : TE} {E : FuncId → List Entry} {H H' : Heap} {ρ ρ' : Operand → AV} {nx : Nat} {o : Oper} {r : R}

theorem opG_congr (h : ∀ x ∈ o.op.operands, ρ x = ρ' x) : opG T E ρ H nx o = opG T E ρ' H nx o := by
  have pairs : ∀ ps : Array (Nat × Operand), (∀ x ∈ ps.toList.map (·.2), ρ x = ρ' x) → (ps.toList.map fun p => (p.1, ρ p.2)) = (ps.toList.map fun p => (p.1, ρ' p.2)) := fun ps hp =>
    List.map_congr_left fun p hm => by rw [hp p.2 (List.mem_map.2 ⟨p, hm, rfl⟩)]
  have lists : ∀ xs : Array Operand, (∀ x ∈ xs, ρ x = ρ' x) → xs.toList.map ρ = xs.toList.map ρ' := fun xs hp =>
    List.map_congr_left fun x hm => hp x (by simpa using hm)
  cases ho : o.op <;> rw [ho] at h <;> simp only [Op.operands] at h <;> simp only [opG, ho]
  case build t ps => rw [pairs ps fun x hx => h x (by simpa using hx)]
  case buildSlice t n ps => rw [pairs ps fun x hx => h x (by simpa using hx)]
  case makeFunc f a b => rw [lists a fun x hx => h x (by simp [hx]), lists b fun x hx => h x (by simp [hx])]
  case call c =>
    cases hc : c.callee with
    | value f =>
      simp only [Call.operands, hc] at h
      simp only []
      rw [lists c.args fun x hx => h x (by simp [hx]), h f (by simp)]
    | invoke x m => rfl
    | builtin b =>
      simp only [Call.operands, hc] at h
      simp only []
      rw [lists c.args fun x hx => h x (by simp [hx])]
  case makeMap t x =>
    cases x with
    | none => cases T.ud t <;> rfl
    | some y =>
      have e : ρ y = ρ' y := h y (by simp)
      cases T.ud t <;> simp only [e]
  case slice t x lo hi mx =>
    have e1 : lo.map ρ = lo.map ρ' := by
      cases lo with
      | none => rfl
      | some y => rw [Option.map_some, Option.map_some, h y (by simp)]
    have e2 : hi.map ρ = hi.map ρ' := by
      cases hi with
      | none => rfl
      | some y => rw [Option.map_some, Option.map_some, h y (by simp)]
    rw [e1, e2, show ρ x = ρ' x from h x (by simp)]
  case next it b =>
    cases b with
    | false => rfl
    | true => simp only [h it (by simp)]
  all_goals (first | rfl | (simp_all; done))

theorem nthLL_append : ∀ (a b : List (List Nat)) (i : Nat), i < a.length → nthLL (a ++ b) i = nthLL a i
  | x :: r, b, 0, _ => rfl
  | x :: r, b, i + 1, h => by simpa [nthLL] using nthLL_append r b i (by simpa using h)
theorem nthLL_last : ∀ (a : List (List Nat)) (x : List Nat), nthLL (a ++ [x]) a.length = x
  | [], x => rfl
  | y :: r, x => by simpa [nthLL] using nthLL_last r x
theorem befs_keep : ∀ (ops : List Oper) (acc : List (List Nat)) (i : Nat), i < acc.length → nthLL (befs ops acc) i = nthLL acc i
  | [], acc, i, h => rfl
  | o :: r, acc, i, h => by
    simp only [befs]
    rw [befs_keep r _ i (by simp; omega), nthLL_append _ _ _ h]
theorem ltAll_mem {n : Nat} : ∀ (l : List Nat) (j : Nat), ltAll n l = true → j ∈ l → j < n := by
  intro l
  induction l with
  | nil => intro j _ h; cases h
  | cons x r ih =>
    intro j h hj
    simp only [ltAll, Bool.and_eq_true] at h
    cases hj with
    | head => exact Nat.blt_eq.mp h.1
    | tail _ hj => exact ih j h.2 hj
theorem befs_at (ops : List Oper) : ∀ (acc : List (List Nat)) (k : Nat) (o : Oper), ops[k]? = some o → edgesOk ops acc.length = true →
    nthLL (befs ops acc) (acc.length + k) = (preds o).flatMap fun j => j :: nthLL (befs ops acc) j := by
  induction ops with
  | nil => intro acc k o h; simp at h
  | cons o r ih =>
    intro acc k o' h he
    simp only [edgesOk, Bool.and_eq_true] at he
    simp only [befs]
    generalize hx : ((preds o).flatMap fun j => j :: nthLL acc j) = x
    cases k with
    | zero =>
      simp at h; subst h
      rw [Nat.add_zero, befs_keep r _ _ (by simp), nthLL_last]
      have hcg : ∀ j ∈ preds o, (j :: nthLL acc j) = (j :: nthLL (befs r (acc ++ [x])) j) := fun j hj => by
        have hlt := ltAll_mem _ j he.1 hj
        rw [befs_keep r _ j (by simp; omega), nthLL_append _ _ _ hlt]
      have h2 : (preds o).flatMap (fun j => j :: nthLL acc j) = (preds o).flatMap fun j => j :: nthLL (befs r (acc ++ [x])) j := by
        rw [List.flatMap_def, List.flatMap_def, List.map_congr_left hcg]
      rw [← h2, hx]
    | succ k =>
      have := ih (acc ++ [x]) k o' (by simpa using h) (by simpa using he.2)
      simp only [List.length_append, List.length_cons, List.length_nil] at this
      rw [show acc.length + (k + 1) = acc.length + (0 + 1) + k by omega]
      exact this
end
end Go.Tat

namespace Go.Tat
set_option linter.unusedVariables false

/-- What an operation did, in the order of the text. -/
structure Rec where
  run : Bool
  v : AV
  ups : Heap
  rd : List Nat
  nx : Nat
  nx' : Nat
/-- The slots behind those operations that are in S, in the order of the text. -/
def foldS (S : Nat → Bool) : List Oper → List Rec → Nat → Slots → Slots
  | o :: os, r :: rs, i, σ => foldS S os rs (i + 1) (cond (S i) (putDst o r.v σ) σ)
  | _, _, _, σ => σ
def foldH (S : Nat → Bool) : List Rec → Nat → Heap → Heap
  | r :: rs, i, H => foldH S rs (i + 1) (cond (S i) (r.ups ++ H) H)
  | [], _, H => H

theorem look_putDst (o : Oper) (v : AV) (σ : Slots) (t : Nat) : look (putDst o v σ) t = if o.dst = some t then v else look σ t := by
  unfold putDst
  cases hd : o.dst with
  | none => simp
  | some d => simp only [look_cons, Option.some.injEq]
theorem foldS_agree {S S' : Nat → Bool} {t : Nat} : ∀ (os : List Oper) (rs : List Rec) (i : Nat) (σ σ' : Slots), look σ t = look σ' t → (∀ k o, os[k]? = some o → S (i + k) ≠ S' (i + k) → o.dst ≠ some t) → look (foldS S os rs i σ) t = look (foldS S' os rs i σ') t
  | [], _, i, σ, σ', h, _ => by simpa only [foldS] using h
  | o :: os, [], i, σ, σ', h, _ => by simpa only [foldS] using h
  | o :: os, r :: rs, i, σ, σ', h, hd => by
    simp only [foldS]
    refine foldS_agree os rs (i + 1) _ _ ?_ fun k o' ho hne => hd (k + 1) o' (by simpa using ho) (by rw [show i + (k + 1) = i + 1 + k by omega]; exact hne)
    have h0 := hd 0 o rfl
    rw [Nat.add_zero] at h0
    cases h1 : S i <;> cases h2 : S' i <;> simp only [cond_true, cond_false, look_putDst]
    · exact h
    · rw [if_neg (h0 (by rw [h1, h2]; decide))]; exact h
    · rw [if_neg (h0 (by rw [h1, h2]; decide))]; exact h
    · rw [h]
theorem hget_append (A B : Heap) (x : Nat) : hget (A ++ B) x = if x ∈ A.map (·.1) then hget A x else hget B x := by
  induction A with
  | nil => simp
  | cons p r ih =>
    obtain ⟨k, o⟩ := p
    rw [List.cons_append, hget_cons, hget_cons, ih]
    by_cases h : k = x
    · simp [h]
    · have hx : ¬ x = k := fun e => h e.symm
      simp only [h, if_false, List.map_cons, List.mem_cons, hx, false_or]
theorem foldH_agree {S S' : Nat → Bool} {x : Nat} : ∀ (rs : List Rec) (i : Nat) (H H' : Heap), hget H x = hget H' x → (∀ k r, rs[k]? = some r → S (i + k) ≠ S' (i + k) → x ∉ r.ups.map (·.1)) → hget (foldH S rs i H) x = hget (foldH S' rs i H') x
  | [], i, H, H', h, _ => by simpa only [foldH] using h
  | r :: rs, i, H, H', h, hd => by
    simp only [foldH]
    refine foldH_agree rs (i + 1) _ _ ?_ fun k o' ho hne => hd (k + 1) o' (by simpa using ho) (by rw [show i + (k + 1) = i + 1 + k by omega]; exact hne)
    have h0 := hd 0 r rfl
    rw [Nat.add_zero] at h0
    cases h1 : S i <;> cases h2 : S' i <;> simp only [cond_true, cond_false, hget_append]
    · exact h
    · rw [if_neg (h0 (by rw [h1, h2]; decide))]; exact h
    · rw [if_neg (h0 (by rw [h1, h2]; decide))]; exact h
    · rw [h]
theorem foldS_none : ∀ (os : List Oper) (rs : List Rec) (i : Nat) (σ : Slots), foldS (fun _ => false) os rs i σ = σ := by
  intro os
  induction os with
  | nil => intro rs i σ; simp only [foldS]
  | cons o os ih => intro rs i σ; cases rs <;> simp only [foldS, cond_false]; exact ih _ _ _
theorem foldH_none : ∀ (rs : List Rec) (i : Nat) (H : Heap), foldH (fun _ => false) rs i H = H := by
  intro rs
  induction rs with
  | nil => intro i H; simp only [foldH]
  | cons r rs ih => intro i H; simp only [foldH, cond_false]; exact ih _ _
/-- The last one that wrote a slot. -/
theorem foldS_last {S : Nat → Bool} {t : Nat} (os : List Oper) : ∀ (rs : List Rec) (i n : Nat) (σ : Slots) (o : Oper) (r : Rec), os[n]? = some o → rs[n]? = some r → S (i + n) = true → (∀ k o', n < k → os[k]? = some o' → S (i + k) = true → o'.dst ≠ some t) → o.dst = some t →
    look (foldS S os rs i σ) t = r.v := by
  induction os with
  | nil => intro rs i n σ o r h; simp at h
  | cons o0 os ih =>
    intro rs i n σ o r ho hr hS hl hd
    cases rs with
    | nil => simp at hr
    | cons r0 rs =>
      simp only [foldS]
      cases n with
      | zero =>
        simp at ho hr; subst ho; subst hr
        rw [Nat.add_zero] at hS
        rw [hS, cond_true]
        rw [foldS_agree (S' := fun _ => false) os rs (i + 1) _ (putDst o0 r0.v σ) rfl (fun k o' ho' hne => hl (k + 1) o' (by omega) (by simpa using ho') (by
          rw [show i + (k + 1) = i + 1 + k by omega]
          cases hs : S (i + 1 + k) with
          | true => rfl
          | false => exact (hne hs).elim)), foldS_none, look_putDst, if_pos hd]
      | succ n =>
        exact ih rs (i + 1) n _ o r (by simpa using ho) (by simpa using hr) (by rw [show i + 1 + n = i + (n + 1) by omega]; exact hS)
          (fun k o' hk ho' hs => hl (k + 1) o' (by omega) (by simpa using ho') (by rw [show i + (k + 1) = i + 1 + k by omega]; exact hs)) hd
theorem foldH_last {S : Nat → Bool} {x : Nat} : ∀ (rs : List Rec) (i n : Nat) (H : Heap) (r : Rec), rs[n]? = some r → S (i + n) = true → (∀ k r', n < k → rs[k]? = some r' → S (i + k) = true → x ∉ r'.ups.map (·.1)) → x ∈ r.ups.map (·.1) →
    hget (foldH S rs i H) x = hget r.ups x := by
  intro rs
  induction rs with
  | nil => intro i n H r h; simp at h
  | cons r0 rs ih =>
    intro i n H r hr hS hl hx
    simp only [foldH]
    cases n with
    | zero =>
      simp at hr; subst hr
      rw [Nat.add_zero] at hS
      rw [hS, cond_true]
      rw [foldH_agree (S' := fun _ => false) rs (i + 1) _ (r0.ups ++ H) rfl (fun k r' hr' hne => hl (k + 1) r' (by omega) (by simpa using hr') (by
        rw [show i + (k + 1) = i + 1 + k by omega]
        cases hs : S (i + 1 + k) with
        | true => rfl
        | false => exact (hne hs).elim)), foldH_none, hget_append, if_pos hx]
    | succ n =>
      exact ih (i + 1) n _ r (by simpa using hr) (by rw [show i + 1 + n = i + (n + 1) by omega]; exact hS)
        (fun k r' hk hr' hs => hl (k + 1) r' (by omega) (by simpa using hr') (by rw [show i + (k + 1) = i + 1 + k by omega]; exact hs)) hx
end Go.Tat

namespace Go.Tat
set_option linter.unusedVariables false
section
variable {T : TE} {E : FuncId → List Entry}

/-- An operation's record fits a state. -/
def RecOK (T : TE) (E : FuncId → List Entry) (all : List Oper) (o : Oper) (r : Rec) (σ : Slots) (H : Heap) : Prop :=
  (r.run = true ∧ (wantOf all σ o).eff = some true ∧ (opG T E (evalA σ) H r.nx o).run some = some ⟨r.v, r.ups, r.rd, r.nx'⟩) ∨
  (r.run = false ∧ (wantOf all σ o).eff = some false ∧ r.v = .raw undef ∧ r.ups = [] ∧ r.rd = [] ∧ r.nx' = r.nx)
def pre (n : Nat) : Nat → Bool := fun j => Nat.blt j n
/-- The touches of some records, newest first. -/
def touches : List Rec → Nat → List Touch → List Touch
  | [], _, ts => ts
  | r :: rs, i, ts => touches rs (i + 1) (cond r.run (⟨i, r.rd, r.ups.map (·.1)⟩ :: ts) ts)
/-- Records one behind another. -/
def Tr (T : TE) (E : FuncId → List Entry) (all : List Oper) : List Oper → List Rec → Slots → Heap → Nat → Nat → Prop
  | o :: os, r :: rs, σ, H, nx, nx' => r.nx = nx ∧ RecOK T E all o r σ H ∧ Tr T E all os rs (putDst o r.v σ) (r.ups ++ H) r.nx' nx'
  | [], [], _, _, nx, nx' => nx' = nx
  | _, _, _, _, _, _ => False

def lastσ : List Oper → List Rec → Slots → Slots
  | o :: os, r :: rs, σ => lastσ os rs (putDst o r.v σ)
  | _, _, σ => σ
def lastH : List Rec → Heap → Heap
  | r :: rs, H => lastH rs (r.ups ++ H)
  | [], H => H
theorem look_putDst_congr {o : Oper} {v : AV} {σ σ' : Slots} (h : ∀ t, look σ' t = look σ t) (t : Nat) : look (putDst o v σ') t = look (putDst o v σ) t := by
  rw [look_putDst, look_putDst]; split
  · rfl
  · exact h t
theorem RecOK_slots {all : List Oper} {o : Oper} {r : Rec} {σ σ' : Slots} {H : Heap} (h : ∀ t, look σ' t = look σ t) (hr : RecOK T E all o r σ' H) : RecOK T E all o r σ H := by
  have h1 : wantOf all σ' o = wantOf all σ o := by
    unfold wantOf
    cases o.guard with
    | none => rfl
    | some gw => simp only [h]
  have h2 : evalA σ' = evalA σ := funext fun x => by cases x <;> first | rfl | exact h _
  unfold RecOK at hr ⊢
  rw [← h1, ← h2]; exact hr
theorem Tr_congr {all : List Oper} : ∀ (os : List Oper) (rs : List Rec) (σ σ' : Slots) (H : Heap) (nx nx' : Nat), (∀ t, look σ' t = look σ t) → Tr T E all os rs σ' H nx nx' → Tr T E all os rs σ H nx nx'
  | [], [], σ, σ', H, nx, nx', h, ht => ht
  | [], r :: rs, σ, σ', H, nx, nx', h, ht => ht.elim
  | o :: os, [], σ, σ', H, nx, nx', h, ht => ht.elim
  | o :: os, r :: rs, σ, σ', H, nx, nx', h, ht => ⟨ht.1, RecOK_slots h ht.2.1, Tr_congr os rs _ _ _ _ _ (look_putDst_congr h) ht.2.2⟩
theorem lastσ_congr : ∀ (os : List Oper) (rs : List Rec) (σ σ' : Slots), (∀ t, look σ' t = look σ t) → ∀ t, look (lastσ os rs σ') t = look (lastσ os rs σ) t
  | [], rs, σ, σ', h => by cases rs <;> simpa only [lastσ] using h
  | o :: os, [], σ, σ', h => by simpa only [lastσ] using h
  | o :: os, r :: rs, σ, σ', h => by simp only [lastσ]; exact lastσ_congr os rs _ _ (look_putDst_congr h)
theorem trace_of {Z : Type} {all : List Oper} {K : Slots → Heap → Nat → List Touch → Option Z} {z : Z} : ∀ (rest : List Oper) (i : Nat) (σ : Slots) (H : Heap) (nx : Nat) (ts : List Touch), execOps T E noInl all rest i σ H nx ts K = some z →
    ∃ rs nx' σe, rs.length = rest.length ∧ Tr T E all rest rs σ H nx nx' ∧ (∀ t, look σe t = look (lastσ rest rs σ) t) ∧ K σe (lastH rs H) nx' (touches rs i ts) = some z
  | [], i, σ, H, nx, ts, h => ⟨[], nx, σ, rfl, rfl, fun t => rfl, by simpa only [execOps, lastH, touches] using h⟩
  | o :: rest, i, σ, H, nx, ts, h => by
    simp only [execOps] at h
    have run : ∀ σ' : Slots, (∀ t, look σ' t = look σ t) → opX T E noInl (evalA σ') H nx o (fun v H' rd wr nx' => execOps T E noInl all rest (i + 1) (putDst o v σ') H' nx' (⟨i, rd, wr⟩ :: ts) K) = some z → (wantOf all σ o).eff = some true →
        ∃ rs nx' σe, rs.length = (o :: rest).length ∧ Tr T E all (o :: rest) rs σ H nx nx' ∧ (∀ t, look σe t = look (lastσ (o :: rest) rs σ) t) ∧ K σe (lastH rs H) nx' (touches rs i ts) = some z := fun σ' hl h hw => by
      unfold opX at h
      split at h
      · cases h
      · rw [DT.run_bind] at h
        cases hr : (opG T E (evalA σ') H nx o).run some with
        | none => rw [hr] at h; cases h
        | some r =>
          rw [hr] at h
          obtain ⟨rs, nx', σe, h1, h2, h3, h4⟩ := trace_of rest (i + 1) _ _ _ _ h
          have h2e : evalA σ' = evalA σ := funext fun x => by cases x <;> first | rfl | exact hl _
          rw [h2e] at hr
          exact ⟨⟨true, r.v, r.ups, r.rd, nx, r.nx⟩ :: rs, nx', σe, by simp [h1], ⟨rfl, .inl ⟨rfl, hw, hr⟩, Tr_congr _ _ _ _ _ _ _ (look_putDst_congr hl) h2⟩, fun t => (h3 t).trans (lastσ_congr _ _ _ _ (look_putDst_congr hl) t), h4⟩
    have skip : ∀ σ' : Slots, (∀ t, look σ' t = look σ t) → execOps T E noInl all rest (i + 1) (putDst o (.raw undef) σ') H nx ts K = some z → (wantOf all σ o).eff = some false →
        ∃ rs nx' σe, rs.length = (o :: rest).length ∧ Tr T E all (o :: rest) rs σ H nx nx' ∧ (∀ t, look σe t = look (lastσ (o :: rest) rs σ) t) ∧ K σe (lastH rs H) nx' (touches rs i ts) = some z := fun σ' hl h hw => by
      obtain ⟨rs, nx', σe, h1, h2, h3, h4⟩ := trace_of rest (i + 1) _ _ _ _ h
      exact ⟨⟨false, .raw undef, [], [], nx, nx⟩ :: rs, nx', σe, by simp [h1], ⟨rfl, .inr ⟨rfl, hw, rfl, rfl, rfl, rfl⟩, Tr_congr _ _ _ _ _ _ _ (look_putDst_congr hl) h2⟩, fun t => (h3 t).trans (lastσ_congr _ _ _ _ (look_putDst_congr hl) t), h4⟩
    cases hwo : wantOf all σ o with
    | yes => rw [hwo] at h; exact run σ (fun _ => rfl) h (by rw [hwo]; rfl)
    | no => rw [hwo] at h; exact skip σ (fun _ => rfl) h (by rw [hwo]; rfl)
    | lost => rw [hwo] at h; cases h
    | hangs d b w =>
      have hl := look_known (wantOf_hangs hwo)
      rw [hwo] at h
      cases b <;> cases w <;> simp only [cond_true, cond_false] at h
      · exact run _ hl h (by rw [hwo]; rfl)
      · exact skip _ hl h (by rw [hwo]; rfl)
      · exact skip _ hl h (by rw [hwo]; rfl)
      · exact run _ hl h (by rw [hwo]; rfl)
end
end Go.Tat

namespace Go.Tat
set_option linter.unusedVariables false
section
variable {T : TE} {E : FuncId → List Entry}

theorem foldS_off {S : Nat → Bool} : ∀ (os : List Oper) (rs : List Rec) (i : Nat) (σ : Slots), (∀ j, i ≤ j → S j = false) → foldS S os rs i σ = σ := by
  intro os
  induction os with
  | nil => intro rs i σ _; simp only [foldS]
  | cons o os ih =>
    intro rs i σ h
    cases rs with
    | nil => simp only [foldS]
    | cons r rs => simp only [foldS]; rw [h i (Nat.le_refl _), cond_false]; exact ih _ _ _ fun j hj => h j (by omega)
theorem foldH_off {S : Nat → Bool} : ∀ (rs : List Rec) (i : Nat) (H : Heap), (∀ j, i ≤ j → S j = false) → foldH S rs i H = H := by
  intro rs
  induction rs with
  | nil => intro i H _; simp only [foldH]
  | cons r rs ih => intro i H h; simp only [foldH]; rw [h i (Nat.le_refl _), cond_false]; exact ih _ _ fun j hj => h j (by omega)
theorem pre_lt {n j : Nat} (h : j < n) : pre n j = true := Nat.blt_eq.mpr h
theorem pre_ge {n j : Nat} (h : n ≤ j) : pre n j = false := by
  cases hh : pre n j with
  | false => rfl
  | true => have := Nat.blt_eq.mp hh; omega
theorem Tr_at {all : List Oper} : ∀ (os : List Oper) (rs : List Rec) (i : Nat) (σ : Slots) (H : Heap) (nx nx' : Nat), Tr T E all os rs σ H nx nx' → ∀ (k : Nat) (o : Oper) (r : Rec), os[k]? = some o → rs[k]? = some r →
    RecOK T E all o r (foldS (pre (i + k)) os rs i σ) (foldH (pre (i + k)) rs i H)
  | [], rs, i, σ, H, nx, nx', h, k, o, r, ho, hr => by simp at ho
  | o0 :: os, [], i, σ, H, nx, nx', h, k, o, r, ho, hr => by simp at hr
  | o0 :: os, r0 :: rs, i, σ, H, nx, nx', h, 0, o, r, ho, hr => by
    simp at ho hr; subst ho; subst hr
    rw [foldS_off _ _ _ _ fun j hj => pre_ge (by omega), foldH_off _ _ _ fun j hj => pre_ge (by omega)]
    exact h.2.1
  | o0 :: os, r0 :: rs, i, σ, H, nx, nx', h, k + 1, o, r, ho, hr => by
    simp only [foldS, foldH]
    rw [pre_lt (show i < i + (k + 1) by omega), cond_true, cond_true]
    have := Tr_at os rs (i + 1) _ _ _ _ h.2.2 k o r (by simpa using ho) (by simpa using hr)
    rw [show i + 1 + k = i + (k + 1) by omega] at this
    exact this
theorem lastσ_fold : ∀ (os : List Oper) (rs : List Rec) (i n : Nat) (σ : Slots), i + os.length ≤ n → foldS (pre n) os rs i σ = lastσ os rs σ
  | [], rs, i, n, σ, h => by simp only [foldS, lastσ]
  | o :: os, [], i, n, σ, h => by simp only [foldS, lastσ]
  | o :: os, r :: rs, i, n, σ, h => by
    simp only [foldS, lastσ]
    simp at h
    rw [pre_lt (show i < n by omega), cond_true]
    exact lastσ_fold os rs (i + 1) n _ (by omega)
theorem lastH_fold : ∀ (rs : List Rec) (i n : Nat) (H : Heap), i + rs.length ≤ n → foldH (pre n) rs i H = lastH rs H
  | [], i, n, H, h => by simp only [foldH, lastH]
  | r :: rs, i, n, H, h => by
    simp only [foldH, lastH]
    simp at h
    rw [pre_lt (show i < n by omega), cond_true]
    exact lastH_fold rs (i + 1) n _ (by omega)
end
end Go.Tat

namespace Go.Tat
set_option linter.unusedVariables false
section
variable {T : TE} {E : FuncId → List Entry} {H : Heap} {ρ : Operand → AV} {nx : Nat} {o : Oper} {r : R}

/-- All results' next numbers are no less. -/
def DT.up (nx : Nat) : DT → Prop
  | .ret r => nx ≤ r.nx
  | .br _ x y => x.up nx ∧ y.up nx
  | .ask _ k => ∀ q, (k q).up nx
  | .fail => True
theorem DT.up_run : ∀ (d : DT), d.up nx → d.run some = some r → nx ≤ r.nx
  | .ret r', h, hr => by simp only [DT.run, Option.some.injEq] at hr; subst hr; exact h
  | .br b x y, h, hr => by
    cases b
    · exact DT.up_run y h.2 hr
    · exact DT.up_run x h.1 hr
  | .ask none k, h, hr => by cases hr
  | .ask (some q) k, h, hr => DT.up_run (k q) (h q) hr
  | .fail, h, hr => by cases hr
theorem up_cond {b : Bool} {x y : DT} (h1 : x.up nx) (h2 : y.up nx) : (cond b x y).up nx := by cases b <;> assumption
theorem up_val (v : AV) : (DT.val nx v).up nx := Nat.le_refl _
theorem up_guard {b : Bool} {x : DT} (h : x.up nx) : (DT.guard b x).up nx := ⟨h, trivial⟩
theorem callE_up {vs : List AV} : ∀ es : List Entry, (callE H nx vs es).up nx
  | [] => trivial
  | e :: es => by
    simp only [callE]
    refine up_cond ?_ (callE_up es)
    split
    · refine up_cond ?_ trivial
      split
      · intro q
        dsimp only
        split
        · exact up_cond (Nat.le_add_right _ _) trivial
        · trivial
      · trivial
    · trivial
theorem shiftInt_up {op : BinOp} {k : IntKind} {x y : Int} : (shiftInt op k x y nx).up nx := by
  cases op <;> first | exact trivial | exact ⟨trivial, Nat.le_refl _⟩
theorem binInt_up {op : BinOp} {k : IntKind} {x y : Int} : (binInt op k x y nx).up nx := by
  cases op <;> first | exact trivial | exact Nat.le_refl _ | exact ⟨trivial, Nat.le_refl _⟩
theorem binStr_up {op : BinOp} {x y : ByteArray} : (binStr op x y nx).up nx := by
  cases op <;> first | exact trivial | exact Nat.le_refl _ | exact ⟨Nat.le_refl _, trivial⟩
theorem opG_up : (opG T E ρ H nx o).up nx := by
  unfold opG builtinC lenC minC appC mapUpC binEq
  repeat' split
  all_goals first
    | exact up_val _
    | exact trivial
    | exact callE_up _
    | exact Nat.le_refl _
    | exact Nat.le_succ _
    | exact up_guard (up_val _)
    | exact up_guard (Nat.le_refl _)
    | exact up_guard (Nat.le_succ _)
    | exact up_cond (up_val _) trivial
    | exact up_cond (Nat.le_refl _) trivial
    | exact up_cond (Nat.le_succ _) trivial
    | exact up_cond trivial (Nat.le_refl _)
    | exact up_cond (up_guard (up_val _)) trivial
    | exact up_cond (up_guard (Nat.le_refl _)) trivial
    | exact ⟨up_val _, up_val _⟩
    | exact ⟨Nat.le_refl _, Nat.le_refl _⟩
    | (repeat' (first | exact trivial | exact up_val _ | exact Nat.le_refl _ | exact Nat.le_succ _ | exact shiftInt_up | exact binInt_up | exact binStr_up | apply up_cond | apply up_guard | split))
end
end Go.Tat

namespace Go.Tat
set_option linter.unusedVariables false
section
variable {w0 : World} {B0 Mo : Nat → Prop} {w : World} {μ : Mu} {U : Nat → Prop} {H H' : Heap} {a : Act} {σ σ' : Slots}
theorem MM_congr (h : ∀ x, hget H' x = hget H x) : MM Mo μ H' = MM Mo μ H := by
  unfold MM; funext b; simp only [h]
theorem HS_congr (h : ∀ x, hget H' x = hget H x) (hs : HS w0 B0 Mo w μ U H) : HS w0 B0 Mo w μ U H' := by
  refine ⟨fun i => ?_, fun i j b h1 h2 => ?_, fun i b h1 => ?_, fun i cs h1 => ?_, fun i => ?_, hs.mo, hs.grow, hs.keep⟩
  · rw [MM_congr h, h]; exact hs.obj i
  · rw [h] at h1 h2; exact hs.inj i j b h1 h2
  · rw [h] at h1; exact hs.out i b h1
  · rw [h] at h1
    obtain ⟨b, e1, e2, e3⟩ := hs.ro i cs h1
    exact ⟨b, e1, e2, fun j => by rw [h]; exact e3 j⟩
  · rw [h]; exact hs.use i
end
end Go.Tat

namespace Go.Tat
set_option linter.unusedVariables false
section
variable {T : TE} {E : FuncId → List Entry} {H H' : Heap} {σ σ' : Slots} {o : Oper} {r : Rec} {ops : Array Oper}

theorem wantOf_congr (h : ∀ d, d ∈ o.looksAt ops → look σ' d = look σ d) : wantOf ops.toList σ' o = wantOf ops.toList σ o := by
  unfold wantOf
  cases hg : o.guard with
  | none => rfl
  | some gw =>
    obtain ⟨j, want⟩ := gw
    simp only []
    have hj : (ops.toList[j]?).bind (·.dst) = (ops[j]?).bind (·.dst) := by simp
    rw [hj]
    cases hd : (ops[j]?).bind (·.dst) with
    | none => rfl
    | some d =>
      simp only []
      rw [h d (by unfold Oper.looksAt; rw [hg]; simp [hd])]
theorem evalA_congr (h : ∀ d, d ∈ o.looksAt ops → look σ' d = look σ d) : ∀ x ∈ o.op.operands, evalA σ' x = evalA σ x := fun x hx => by
  cases x with
  | tmp t => exact h t (List.mem_append_left _ (List.mem_filterMap.2 ⟨.tmp t, by simpa using hx, rfl⟩))
  | _ => rfl
theorem RecOK_congr (h : RecOK T E ops.toList o r σ H) (hs : ∀ d, d ∈ o.looksAt ops → look σ' d = look σ d) (ha : Agree H H' r.rd) : RecOK T E ops.toList o r σ' H' := by
  unfold RecOK at h ⊢
  rw [wantOf_congr hs]
  rcases h with ⟨h1, h2, h3⟩ | h
  · refine .inl ⟨h1, h2, ?_⟩
    rw [opG_congr (evalA_congr hs)]
    exact opG_local h3 ha
  · exact .inr h
end
end Go.Tat

namespace Go.Tat
set_option linter.unusedVariables false
section
variable {ops : List Oper} {S : Nat → Bool}
def Closed (ops : List Oper) (S : Nat → Bool) : Prop := ∀ (i : Nat) (o : Oper), ops[i]? = some o → S i = true → ∀ j ∈ preds o, S j = true
theorem edges_lt : ∀ (ops : List Oper) (i : Nat), edgesOk ops i = true → ∀ (k : Nat) (o : Oper), ops[k]? = some o → ∀ j ∈ preds o, j < i + k := by
  intro ops
  induction ops with
  | nil => intro i _ k o h; simp at h
  | cons o0 r ih =>
    intro i he k o h j hj
    simp only [edgesOk, Bool.and_eq_true] at he
    cases k with
    | zero => simp at h; subst h; exact ltAll_mem _ j he.1 hj
    | succ k => have := ih (i + 1) he.2 k o (by simpa using h) j hj; omega
theorem closed_bef (hc : Closed ops S) (he : edgesOk ops 0 = true) : ∀ (n i j : Nat), i < n → i < ops.length → S i = true → j ∈ nthLL (befs ops []) i → S j = true
  | 0, i, j, hn, _, _, _ => by omega
  | n + 1, i, j, hn, hi, hS, hj => by
    have ho : ops[i]? = some ops[i] := List.getElem?_eq_getElem hi
    have hb := befs_at ops [] i _ ho he
    simp only [List.length_nil, Nat.zero_add] at hb
    rw [hb, List.mem_flatMap] at hj
    obtain ⟨j0, h1, h2⟩ := hj
    have hS0 := hc i _ ho hS j0 h1
    have hlt := edges_lt ops 0 he i _ ho j0 h1
    cases h2 with
    | head => exact hS0
    | tail _ h2 => exact closed_bef hc he n j0 j (by omega) (by omega) hS0 h2
end
end Go.Tat

namespace Go.Tat
set_option linter.unusedVariables false
def tch (i : Nat) (r : Rec) : Touch := ⟨i, r.rd, r.ups.map (·.1)⟩
theorem touchAll_spec {bs : List (List Nat)} (rs : List Rec) : ∀ (i : Nat) (ts : List Touch), touchAll bs (touches rs i ts) = true →
    touchAll bs ts = true ∧ (∀ k r, rs[k]? = some r → r.run = true → ∀ t ∈ ts, touchOk bs t (tch (i + k) r) = true) ∧
      (∀ k l r r', k < l → rs[k]? = some r → rs[l]? = some r' → r.run = true → r'.run = true → touchOk bs (tch (i + k) r) (tch (i + l) r') = true) := by
  induction rs with
  | nil => intro i ts h; exact ⟨h, fun k r h => by simp at h, fun k l r r' _ h => by simp at h⟩
  | cons r0 rs ih =>
    intro i ts h
    simp only [touches] at h
    obtain ⟨h1, h2, h3⟩ := ih (i + 1) _ h
    cases hr : r0.run with
    | false =>
      rw [hr, cond_false] at h1 h2
      refine ⟨h1, fun k r hk hrun t ht => ?_, fun k l r r' hkl hk hl hrun hrun' => ?_⟩
      · cases k with
        | zero => simp at hk; subst hk; rw [hr] at hrun; cases hrun
        | succ k => have := h2 k r (by simpa using hk) hrun t ht; rw [show i + 1 + k = i + (k + 1) by omega] at this; exact this
      · cases k with
        | zero => simp at hk; subst hk; rw [hr] at hrun; cases hrun
        | succ k =>
          cases l with
          | zero => omega
          | succ l => have := h3 k l r r' (by omega) (by simpa using hk) (by simpa using hl) hrun hrun'; rw [show i + 1 + k = i + (k + 1) by omega, show i + 1 + l = i + (l + 1) by omega] at this; exact this
    | true =>
      rw [hr, cond_true] at h1 h2
      simp only [touchAll, Bool.and_eq_true, List.all_eq_true] at h1
      refine ⟨h1.2, fun k r hk hrun t ht => ?_, fun k l r r' hkl hk hl hrun hrun' => ?_⟩
      · cases k with
        | zero => simp at hk; subst hk; exact h1.1 t ht
        | succ k => have := h2 k r (by simpa using hk) hrun t (by simp [ht]); rw [show i + 1 + k = i + (k + 1) by omega] at this; exact this
      · cases l with
        | zero => omega
        | succ l =>
          cases k with
          | zero => simp at hk; subst hk; have := h2 l r' (by simpa using hl) hrun' (tch i r0) (by simp [tch]); rw [show i + 1 + l = i + (l + 1) by omega] at this; exact this
          | succ k => have := h3 k l r r' (by omega) (by simpa using hk) (by simpa using hl) hrun hrun'; rw [show i + 1 + k = i + (k + 1) by omega, show i + 1 + l = i + (l + 1) by omega] at this; exact this
end Go.Tat

namespace Go.Tat
set_option linter.unusedVariables false
section
variable {T : TE} {E : FuncId → List Entry}

theorem RecOK_up {all : List Oper} {o : Oper} {r : Rec} {σ : Slots} {H : Heap} (h : RecOK T E all o r σ H) : r.nx ≤ r.nx' := by
  rcases h with ⟨_, _, h⟩ | ⟨_, _, _, _, _, h⟩
  · exact DT.up_run _ opG_up h
  · omega
theorem Tr_nx {all : List Oper} : ∀ (os : List Oper) (rs : List Rec) (σ : Slots) (H : Heap) (nx nx' : Nat), Tr T E all os rs σ H nx nx' →
    nx ≤ nx' ∧ (∀ (k : Nat) (r : Rec), rs[k]? = some r → nx ≤ r.nx ∧ r.nx ≤ r.nx' ∧ r.nx' ≤ nx') ∧ (∀ (k l : Nat) (r r' : Rec), k < l → rs[k]? = some r → rs[l]? = some r' → r.nx' ≤ r'.nx)
  | [], [], σ, H, nx, nx', h => ⟨by rw [show nx' = nx from h]; exact Nat.le_refl _, fun k r h => by simp at h, fun k l r r' _ h => by simp at h⟩
  | [], r :: rs, σ, H, nx, nx', h => h.elim
  | o :: os, [], σ, H, nx, nx', h => h.elim
  | o :: os, r :: rs, σ, H, nx, nx', h => by
    obtain ⟨h1, h2, h3⟩ := h
    obtain ⟨g1, g2, g3⟩ := Tr_nx os rs _ _ _ _ h3
    have hu := RecOK_up h2
    refine ⟨by omega, fun k r' hk => ?_, fun k l r1 r2 hkl hk hl => ?_⟩
    · cases k with
      | zero => simp at hk; subst hk; omega
      | succ k => have := g2 k r' (by simpa using hk); omega
    · cases l with
      | zero => omega
      | succ l =>
        cases k with
        | zero => simp at hk; subst hk; have := g2 l r2 (by simpa using hl); omega
        | succ k => exact g3 k l r1 r2 (by omega) (by simpa using hk) (by simpa using hl)
theorem Tr_len {all : List Oper} : ∀ (os : List Oper) (rs : List Rec) (σ : Slots) (H : Heap) (nx nx' : Nat), Tr T E all os rs σ H nx nx' → rs.length = os.length
  | [], [], σ, H, nx, nx', h => rfl
  | [], r :: rs, σ, H, nx, nx', h => h.elim
  | o :: os, [], σ, H, nx, nx', h => h.elim
  | o :: os, r :: rs, σ, H, nx, nx', h => by simp [Tr_len os rs _ _ _ _ h.2.2]
theorem tmpsOk_spec {ops : Array Oper} {bs : List (List Nat)} : ∀ (rest : List Oper) (i : Nat), tmpsOk ops bs rest i = true →
    ∀ k o, rest[k]? = some o → ∀ j, j < i + k → j ∈ nthLL bs (i + k) ∨ ∀ x, ops[j]? = some x → x.apart ops o = true
  | [], i, h, k, o, ho, j, hj => by simp at ho
  | o0 :: r, i, h, k, o, ho, j, hj => by
    simp only [tmpsOk, Bool.and_eq_true, List.all_eq_true, Bool.or_eq_true] at h
    cases k with
    | zero =>
      simp at ho; subst ho
      rcases h.1 j (by simpa using hj) with h1 | h1
      · exact .inl (memN_iff.1 h1)
      · refine .inr fun x hx => ?_
        rw [hx] at h1; exact h1
    | succ k =>
      have := tmpsOk_spec r (i + 1) h.2 k o (by simpa using ho) j (by omega)
      rw [show i + 1 + k = i + (k + 1) by omega] at this
      exact this
/-- The two records don't touch what the other one writes. -/
theorem touchOk_spec {bs : List (List Nat)} {i j : Nat} {r r' : Rec} (h : touchOk bs (tch i r) (tch j r') = true) :
    i ∈ nthLL bs j ∨ ((∀ x ∈ r.ups.map (·.1), x ∉ r'.rd) ∧ (∀ x ∈ r.ups.map (·.1), x ∉ r'.ups.map (·.1)) ∧ (∀ x ∈ r'.ups.map (·.1), x ∉ r.rd)) := by
  simp only [touchOk, tch, Bool.or_eq_true, Bool.and_eq_true] at h
  rcases h with h | ⟨h1, h2, h3⟩
  · exact .inl (memN_iff.1 h)
  · exact .inr ⟨apartN_spec h1, apartN_spec h2, apartN_spec h3⟩
theorem HS_drew {w0 : World} {B0 Mo : Nat → Prop} {w w' : World} {μ : Mu} {U : Nat → Prop} {H : Heap} (hw : w'.heap = w.heap) (hg : Grew w w') (hs : HS w0 B0 Mo w μ U H) : HS w0 B0 Mo w' μ U H := by
  have hx : Ext w (MM Mo μ H) w' (MM Mo μ H) := fun a v h1 h2 => ⟨by rw [World.cell?_of_block (show w'.heap[a.block]? = w.heap[a.block]? by rw [hw])]; exact h1, h2⟩
  exact { hs with
    obj := fun i => objOK_mono ⟨hx, fun _ _ => rfl, fun _ h => h⟩ rfl (fun _ _ => by rw [hw]) (fun _ _ _ _ => by rw [hw]) (hs.obj i)
    out := fun i b h => by rw [hw]; exact hs.out i b h
    ro := fun i cs h => by rw [hw]; exact hs.ro i cs h
    grow := hs.grow.trans hg
    keep := by rw [hw]; exact hs.keep }
theorem Next_drew {w w' : World} {M : Nat → Prop} {μ : Mu} {U : Nat → Prop} (hw : w'.heap = w.heap) : Next w M μ U w' M μ U :=
  ⟨fun a v h1 h2 => ⟨by rw [World.cell?_of_block (show w'.heap[a.block]? = w.heap[a.block]? by rw [hw])]; exact h1, h2⟩, fun _ _ => rfl, fun _ h => h⟩
end
end Go.Tat

namespace Go.Tat
set_option linter.unusedVariables false

def falses : List Bool → Nat
  | [] => 0
  | b :: r => cond b (falses r) (falses r + 1)
theorem falses_set : ∀ (l : List Bool) (i : Nat), l[i]? = some false → falses (l.set i true) + 1 = falses l
  | [], i, h => by simp at h
  | b :: r, 0, h => by simp at h; subst h; simp [falses]
  | b :: r, i + 1, h => by
    have := falses_set r i (by simpa using h)
    cases b <;> simp [falses] <;> omega
theorem falses_zero : ∀ (l : List Bool), falses l = 0 → ∀ (i : Nat) (b : Bool), l[i]? = some b → b = true
  | [], _, i, b, h => by simp at h
  | true :: r, h0, 0, b, h => by simpa using h.symm
  | true :: r, h0, i + 1, b, h => falses_zero r (by simpa [falses] using h0) i b (by simpa using h)
  | false :: r, h0, i, b, h => by simp [falses] at h0
theorem falses_len : ∀ n, falses (List.replicate n false) = n
  | 0 => rfl
  | n + 1 => by rw [List.replicate_succ]; simp [falses, falses_len n]

/-- What has been carried out. -/
def inS (l : Array Bool) : Nat → Bool := fun i => l.getD i false
theorem inS_set {l : Array Bool} {i : Nat} (h : i < l.size) (j : Nat) : inS (l.setIfInBounds i true) j = (inS l j || Nat.beq i j) := by
  unfold inS
  rw [Array.getD_eq_getD_getElem?, Array.getD_eq_getD_getElem?, Array.getElem?_setIfInBounds]
  by_cases hij : i = j
  · subst hij; simp [h]
  · have : Nat.beq i j = false := by
      cases hb : Nat.beq i j with
      | false => rfl
      | true => exact (hij (Nat.eq_of_beq_eq_true hb)).elim
    simp [hij, this]

theorem ready_spec {ops : Array Oper} {l : Array Bool} (hl : l.size = ops.size) {i : Nat} (h : i ∈ Region.ready .any ops l) :
    i < ops.size ∧ inS l i = false ∧ ∃ o, ops[i]? = some o ∧ ∀ j ∈ preds o, inS l j = true := by
  unfold Region.ready at h
  rw [List.mem_filter] at h
  obtain ⟨h1, h2⟩ := h
  have hi : i < ops.size := by simpa using h1
  have hi' : i < l.size := by omega
  simp only [Bool.and_eq_true] at h2
  refine ⟨hi, ?_, ops[i], by simp [hi], fun j hj => ?_⟩
  · have := h2.1
    unfold inS
    simp [Array.getD, hi'] at this ⊢
    exact this
  · have h3 := h2.2
    rw [Array.getElem?_eq_getElem hi, Option.map_some, Option.getD_some, Array.all_eq_true_iff_forall_mem] at h3
    simp only [preds, List.mem_map, List.mem_filter] at hj
    obtain ⟨e, ⟨he1, he2⟩, rfl⟩ := hj
    have := h3 e (by simpa using he1)
    rw [he2] at this
    simpa [inS] using this
theorem ready_nil {ops : Array Oper} {l : Array Bool} (hl : l.size = ops.size) (he : edgesOk ops.toList 0 = true) (h : Region.ready .any ops l = []) : ∀ i, i < ops.size → inS l i = true := by
  intro i
  induction i using Nat.strongRecOn with
  | ind i ih =>
    intro hi
    cases hs : inS l i with
    | true => rfl
    | false =>
      have hi' : i < l.size := by omega
      have : i ∈ Region.ready .any ops l := by
        unfold Region.ready
        rw [List.mem_filter]
        refine ⟨by simpa using hi, ?_⟩
        simp only [Bool.and_eq_true]
        refine ⟨?_, ?_⟩
        · unfold inS at hs
          simp [Array.getD, hi'] at hs ⊢
          exact hs
        · rw [Array.getElem?_eq_getElem hi, Option.map_some, Option.getD_some, Array.all_eq_true_iff_forall_mem]
          intro e hm
          cases hb : Region.binds .any e with
          | false => rfl
          | true =>
            have hp : e.on ∈ preds ops[i] := by
              simp only [preds, List.mem_map, List.mem_filter]
              exact ⟨e, ⟨by simpa using hm, hb⟩, rfl⟩
            have hlt := edges_lt ops.toList 0 he i ops[i] (by simp [hi]) e.on hp
            have := ih e.on (by omega) (by omega)
            simpa [inS] using this
      rw [h] at this; cases this

section
variable {P : Program} {T : TE} {E : FuncId → List Entry}

/-- What was drawn comes to what the text says. -/
theorem draw_ok (hT : TEok P T) (hE : ∀ g, ∀ e ∈ E g, EntryOK P g e) (hm : P.follows .mixedOrders = true) : DrawOK P T E := by
  intro id ops Z K z σ H nx w0 B0 Mo w μ U a Q hdst hs hσ hb h hQ
  obtain ⟨rs, nx', σe, hlen, htr, hσe, hk⟩ := trace_of ops.toList 0 σ H nx [] h
  cases hd : drawOk ops (touches rs 0 []) with
  | false => rw [hd] at hk; cases hk
  | true =>
  rw [hd, cond_true] at hk
  simp only [drawOk, Bool.and_eq_true] at hd
  obtain ⟨he, htm, hns, hta⟩ := hd
  have htch := (touchAll_spec rs 0 [] hta).2.2
  obtain ⟨hnx0, hnx1, hnx2⟩ := Tr_nx _ _ _ _ _ _ htr
  have hrl : rs.length = ops.size := by rw [hlen]; simp
  have hat : ∀ (k : Nat) (o : Oper) (r : Rec), ops.toList[k]? = some o → rs[k]? = some r → RecOK T E ops.toList o r (foldS (pre k) ops.toList rs 0 σ) (foldH (pre k) rs 0 H) := fun k o r ho hr => by
    have := Tr_at ops.toList rs 0 σ H nx nx' htr k o r ho hr
    rwa [Nat.zero_add] at this
  have hups : ∀ (k : Nat) (r : Rec), rs[k]? = some r → r.run = false → r.ups = [] ∧ r.rd = [] ∧ r.v = .raw undef := fun k r hr hrun => by
    have hkl : k < ops.toList.length := by
      have := (List.getElem?_eq_some_iff.1 hr).1
      simp; omega
    rcases hat k ops.toList[k] r (List.getElem?_eq_getElem hkl) hr with ⟨h1, _⟩ | ⟨_, _, h3, h4, h5, _⟩
    · rw [h1] at hrun; cases hrun
    · exact ⟨h4, h5, h3⟩
  have apart : ∀ (i j : Nat) (o o' : Oper), i < j → ops.toList[i]? = some o → ops.toList[j]? = some o' → i ∉ nthLL (befs ops.toList []) j → o.apart ops o' = true := fun i j o o' hij ho ho' hn => by
    rcases tmpsOk_spec ops.toList 0 htm j o' ho' i (by omega) with h1 | h1
    · rw [Nat.zero_add] at h1; exact (hn h1).elim
    · exact h1 o (by simpa using ho)
  have touch : ∀ (i j : Nat) (r r' : Rec), i < j → rs[i]? = some r → rs[j]? = some r' → i ∉ nthLL (befs ops.toList []) j → (∀ x ∈ r.ups.map (·.1), x ∉ r'.rd) ∧ (∀ x ∈ r.ups.map (·.1), x ∉ r'.ups.map (·.1)) ∧ (∀ x ∈ r'.ups.map (·.1), x ∉ r.rd) := fun i j r r' hij hr hr' hn => by
    cases h1 : r.run with
    | false =>
      obtain ⟨g1, g2, _⟩ := hups i r hr h1
      rw [g1, g2]
      exact ⟨fun x hx => by simp at hx, fun x hx => by simp at hx, fun x _ => by simp⟩
    | true =>
      cases h2 : r'.run with
      | false =>
        obtain ⟨g1, g2, _⟩ := hups j r' hr' h2
        rw [g1, g2]
        exact ⟨fun x _ => by simp, fun x _ => by simp, fun x hx => by simp at hx⟩
      | true =>
        have := touchOk_spec (htch i j r r' hij hr hr' h1 h2)
        rw [Nat.zero_add, Nat.zero_add] at this
        exact this.resolve_left hn
  -- behind all
  have fin : ∀ (S : Nat → Bool) (a' : Act) (w' : World) (μ' : Mu) (U' : Nat → Prop), (∀ i, i < ops.size → S i = true) → HS w0 B0 Mo w' μ' U' (foldH S rs 0 H) → SlotsOK w' (MM Mo μ' (foldH S rs 0 H)) μ' U' (foldS S ops.toList rs 0 σ) a' →
      Next w (MM Mo μ H) μ U w' (MM Mo μ' (foldH S rs 0 H)) μ' U' → (∀ i, U' i → U i ∨ ∃ (k : Nat) (r : Rec), S k = true ∧ rs[k]? = some r ∧ r.nx ≤ i ∧ i < r.nx') → a'.tmps.size = a.tmps.size → a'.defers = a.defers → Q .normal a' w' := fun S a' w' μ' U' hS hs' hσ' hn hu hsz hdf => by
    have hlt : ∀ k, k < ops.size → pre ops.size (0 + k) ≠ S (0 + k) → False := fun k hk hne => by
      rw [Nat.zero_add, pre_lt hk, hS k hk] at hne; exact hne rfl
    have e1 : ∀ x, hget (lastH rs H) x = hget (foldH S rs 0 H) x := fun x => by
      rw [← lastH_fold rs 0 ops.size H (by omega)]
      exact foldH_agree rs 0 H H rfl fun k r hr hne => (hlt k (by have := (List.getElem?_eq_some_iff.1 hr).1; omega) hne).elim
    have e2 : ∀ t, look σe t = look (foldS S ops.toList rs 0 σ) t := fun t => by
      rw [hσe]
      rw [← lastσ_fold ops.toList rs 0 ops.size σ (by simp)]
      exact foldS_agree ops.toList rs 0 σ σ rfl fun k o ho hne => (hlt k (by have := (List.getElem?_eq_some_iff.1 ho).1; simpa using this) hne).elim
    have hmm := MM_congr (Mo := Mo) (μ := μ') e1
    refine hQ _ _ nx' μ' U' a' w' hk (HS_congr e1 hs') ?_ (fun i hi => ?_) ?_ hnx0 hsz hdf
    · rw [hmm]; exact SlotsOK_congr e2 hσ'
    · rcases hu i hi with h1 | ⟨k, r, _, hr, _, h2⟩
      · have := hb i h1; omega
      · have := (hnx1 k r hr).2.2; omega
    · rw [hmm]; exact hn
  refine wp_region_any hm ?_
  have main : ∀ (fuel : Nat) (l : Array Bool) (a' : Act) (w' : World) (μ' : Mu) (U' : Nat → Prop), l.size = ops.size → falses l.toList ≤ fuel → Closed ops.toList (inS l) → HS w0 B0 Mo w' μ' U' (foldH (inS l) rs 0 H) → SlotsOK w' (MM Mo μ' (foldH (inS l) rs 0 H)) μ' U' (foldS (inS l) ops.toList rs 0 σ) a' →
      Next w (MM Mo μ H) μ U w' (MM Mo μ' (foldH (inS l) rs 0 H)) μ' U' → (∀ i, U' i → U i ∨ ∃ (k : Nat) (r : Rec), inS l k = true ∧ rs[k]? = some r ∧ r.nx ≤ i ∧ i < r.nx') → a'.tmps.size = a.tmps.size → a'.defers = a.defers → wpAny P .any ops Q fuel l a' w' := by
    intro fuel
    induction fuel with
    | zero =>
      intro l a' w' μ' U' hl hf hc hs' hσ' hn hu hsz hdf
      have hall : ∀ i, i < ops.size → inS l i = true := fun i hi => by
        have hi' : i < l.toList.length := by simp; omega
        have := falses_zero l.toList (by omega) i _ (List.getElem?_eq_getElem hi')
        unfold inS
        simp at this
        simp [Array.getD, show i < l.size by omega, this]
      refine ⟨?_, fin _ a' w' μ' U' hall hs' hσ' hn hu hsz hdf⟩
      cases hr : Region.ready .any ops l with
      | nil => rfl
      | cons x xs =>
        obtain ⟨h1, h2, _⟩ := ready_spec hl (show x ∈ Region.ready .any ops l by rw [hr]; simp)
        rw [hall x h1] at h2; cases h2
    | succ fuel ih =>
      intro l a' w' μ' U' hl hf hc hs' hσ' hn hu hsz hdf
      refine ⟨fun hr => fin _ a' w' μ' U' (ready_nil hl he hr) hs' hσ' hn hu hsz hdf, fun i hi => ?_⟩
      obtain ⟨hi1, hi2, o, ho, hp⟩ := ready_spec hl hi
      have hol : ops.toList[i]? = some o := by simpa using ho
      obtain ⟨r, hr⟩ : ∃ r, rs[i]? = some r := ⟨rs[i]'(by omega), List.getElem?_eq_getElem _⟩
      have hil : i < l.size := by omega
      have hbef : ∀ k, k ∈ nthLL (befs ops.toList []) i → inS l k = true := fun k hk => by
        have hb := befs_at ops.toList [] i o hol he
        simp only [List.length_nil, Nat.zero_add] at hb
        rw [hb, List.mem_flatMap] at hk
        obtain ⟨j0, h1, h2⟩ := hk
        have h0 := hp j0 h1
        have hlt := edges_lt ops.toList 0 he i o hol j0 h1
        cases h2 with
        | head => exact h0
        | tail _ h2 => exact closed_bef hc he _ j0 k (Nat.lt_succ_self _) (by simp; omega) h0 h2
      have haft : ∀ k, k < ops.size → inS l k = true → i ∉ nthLL (befs ops.toList []) k := fun k hk hS hm => by
        have := closed_bef hc he _ k i (Nat.lt_succ_self _) (by simpa using hk) hS hm
        rw [hi2] at this; cases this
      -- who differs
      have diff : ∀ k, pre i (0 + k) ≠ inS l (0 + k) → (k < i ∧ inS l k = false) ∨ (i < k ∧ inS l k = true) := fun k hne => by
        rw [Nat.zero_add] at hne
        rcases Nat.lt_trichotomy k i with h1 | h1 | h1
        · rw [pre_lt h1] at hne
          exact .inl ⟨h1, by cases h2 : inS l k with | false => rfl | true => rw [h2] at hne; exact (hne rfl).elim⟩
        · subst h1; rw [pre_ge (Nat.le_refl _), hi2] at hne; exact (hne rfl).elim
        · rw [pre_ge (by omega)] at hne
          exact .inr ⟨h1, by cases h2 : inS l k with | true => rfl | false => rw [h2] at hne; exact (hne rfl).elim⟩
      have hrec : RecOK T E ops.toList o r (foldS (inS l) ops.toList rs 0 σ) (foldH (inS l) rs 0 H) := by
        refine RecOK_congr (hat i o r hol hr) (fun d hd => ?_) fun x hx => ?_
        · refine (foldS_agree ops.toList rs 0 σ σ rfl fun k o' ho' hne => ?_).symm
          rcases diff k hne with ⟨h1, h2⟩ | ⟨h1, h2⟩
          · have hap := Oper.apart_spec (apart k i o' o h1 ho' hol fun hm => by rw [hbef k hm] at h2; cases h2)
            exact fun hdd => hap.1 d hdd hd
          · have hk : k < ops.size := by have := (List.getElem?_eq_some_iff.1 ho').1; simpa using this
            have hap := Oper.apart_spec (apart i k o o' h1 hol ho' (haft k hk h2))
            exact fun hdd => hap.2.2 d hdd hd
        · refine (foldH_agree rs 0 H H rfl fun k r' hr' hne => ?_).symm
          rcases diff k hne with ⟨h1, h2⟩ | ⟨h1, h2⟩
          · exact fun hxx => (touch k i r' r h1 hr' hr fun hm => by rw [hbef k hm] at h2; cases h2).1 x hxx hx
          · have hk : k < ops.size := by have := (List.getElem?_eq_some_iff.1 hr').1; omega
            exact fun hxx => (touch i k r r' h1 hr hr' (haft k hk h2)).2.2 x hxx hx
      -- the state with i
      have hS' : ∀ j, inS (l.setIfInBounds i true) j = (inS l j || Nat.beq i j) := inS_set hil
      have hSi : inS (l.setIfInBounds i true) i = true := by rw [hS', hi2]; simp
      have hSne : ∀ j, j ≠ i → inS (l.setIfInBounds i true) j = inS l j := fun j hj => by
        rw [hS']
        cases hb : Nat.beq i j with
        | false => simp
        | true => exact (hj (Nat.eq_of_beq_eq_true hb).symm).elim
      have eH : ∀ x, hget (foldH (inS (l.setIfInBounds i true)) rs 0 H) x = hget (r.ups ++ foldH (inS l) rs 0 H) x := fun x => by
        rw [hget_append]
        by_cases hx : x ∈ r.ups.map (·.1)
        · rw [if_pos hx]
          refine foldH_last rs 0 i H r hr (by rw [Nat.zero_add]; exact hSi) (fun k r' hk hr' hS => ?_) hx
          rw [Nat.zero_add, hSne k (by omega)] at hS
          exact (touch i k r r' hk hr hr' (haft k (by have := (List.getElem?_eq_some_iff.1 hr').1; omega) hS)).2.1 x hx
        · rw [if_neg hx]
          refine foldH_agree rs 0 H H rfl fun k r' hr' hne => ?_
          by_cases hki : k = i
          · subst hki; rw [hr] at hr'; cases hr'; exact hx
          · rw [Nat.zero_add, hSne k hki] at hne; exact (hne rfl).elim
      have eσ : ∀ t, look (foldS (inS (l.setIfInBounds i true)) ops.toList rs 0 σ) t = look (putDst o r.v (foldS (inS l) ops.toList rs 0 σ)) t := fun t => by
        rw [look_putDst]
        by_cases hx : o.dst = some t
        · rw [if_pos hx]
          refine foldS_last ops.toList rs 0 i σ o r hol hr (by rw [Nat.zero_add]; exact hSi) (fun k o' hk ho' hS => ?_) hx
          rw [Nat.zero_add, hSne k (by omega)] at hS
          have hap := Oper.apart_spec (apart i k o o' hk hol ho' (haft k (by have := (List.getElem?_eq_some_iff.1 ho').1; simpa using this) hS))
          exact hap.2.1 t hx
        · rw [if_neg hx]
          refine foldS_agree ops.toList rs 0 σ σ rfl fun k o' ho' hne => ?_
          by_cases hki : k = i
          · subst hki; rw [hol] at ho'; cases ho'; exact hx
          · rw [Nat.zero_add, hSne k hki] at hne; exact (hne rfl).elim
      have hcl : Closed ops.toList (inS (l.setIfInBounds i true)) := fun k o' ho' hS j hj => by
        by_cases hki : k = i
        · subst hki; rw [hol] at ho'; cases ho'
          rw [hS', hp j hj]; rfl
        · rw [hSne k hki] at hS
          rw [hS', hc k o' ho' hS j hj]; rfl
      have hfl : falses (l.setIfInBounds i true).toList ≤ fuel := by
        rw [Array.toList_setIfInBounds]
        have : l.toList[i]? = some false := by
          unfold inS at hi2
          simp [Array.getD, hil] at hi2
          simp [hil, hi2]
        have := falses_set l.toList i this
        omega
      have hdsto : ∀ d, o.dst = some d → d < a'.tmps.size := fun d hd => by rw [hsz]; exact hdst o (List.mem_of_getElem? hol) d hd
      have go : ∀ (w2 : World) (μ2 : Mu) (U2 : Nat → Prop) (v : Value), VR w2 (MM Mo μ2 (r.ups ++ foldH (inS l) rs 0 H)) μ2 U2 r.v v → HS w0 B0 Mo w2 μ2 U2 (r.ups ++ foldH (inS l) rs 0 H) → Next w' (MM Mo μ' (foldH (inS l) rs 0 H)) μ' U' w2 (MM Mo μ2 (r.ups ++ foldH (inS l) rs 0 H)) μ2 U2 →
          (∀ j, U2 j → U' j ∨ (r.nx ≤ j ∧ j < r.nx')) → wpAny P .any ops Q fuel (l.setIfInBounds i true) (a'.put o.dst v) w2 := fun w2 μ2 U2 v h1 h2 h3 h4 => by
        have hmm := MM_congr (Mo := Mo) (μ := μ2) eH
        refine ih _ _ w2 μ2 U2 (by simpa using hl) hfl hcl (HS_congr eH h2) ?_ ?_ (fun j hj => ?_) (by rw [put_size]; exact hsz) (by rw [put_defers]; exact hdf)
        · rw [hmm]; exact SlotsOK_congr eσ (hσ'.put h3 hdsto h1)
        · rw [hmm]; exact hn.trans h3
        · rcases h4 j hj with h5 | h5
          · rcases hu j h5 with h6 | ⟨k, r', h6, h7, h8⟩
            · exact .inl h6
            · exact .inr ⟨k, r', by rw [hS', h6]; rfl, h7, h8⟩
          · exact .inr ⟨i, r, hSi, hr, h5⟩
      have hw := wantOf_spec (o := o) (ops := ops) hσ'
      unfold wpOp
      simp only [ho]
      rcases hrec with ⟨g1, g2, g3⟩ | ⟨g1, g2, g3, g4, g5, g6⟩
      · have hwt : Region.wanted o (yielded ops a'.tmps) = true := by rw [g2] at hw; exact hw
        rw [if_pos hwt]
        have hop := opAny hT hE hs' (fun x => evalA_sound hσ' x) g3 fun j hj1 hj2 hj3 => by
          have hj2 : j < r.nx' := hj2
          rcases hu j hj3 with h5 | ⟨k, r', h6, h7, h8, h9⟩
          · have := hb j h5; have := (hnx1 i r hr).1; omega
          · rcases Nat.lt_trichotomy k i with h10 | h10 | h10
            · have := hnx2 k i r' r h10 h7 hr; omega
            · subst h10; rw [hi2] at h6; cases h6
            · have := hnx2 i k r r' h10 hr h7; omega
        refine .inl (wp_mono2 (fun a2 w2 hh => ?_) (fun _ _ _ hh => hh.elim) hop)
        obtain ⟨v, ha, μ2, U2, q1, q2, q3, q4, q5⟩ := hh
        subst ha; exact go w2 μ2 U2 v q1 q2 q3 q4
      · have hwt : Region.wanted o (yielded ops a'.tmps) = false := by rw [g2] at hw; exact hw
        rw [if_neg (by rw [hwt]; decide)]
        refine go w' μ' U' undef (by rw [g3]; unfold VR; rfl) ?_ ?_ fun j hj => .inl hj
        · rw [g4]; exact hs'
        · rw [g4]; exact Next.refl
  have h0 : ∀ j, inS (Array.replicate ops.size false) j = (fun _ => false) j := fun j => by
    unfold inS; rw [Array.getD_eq_getD_getElem?, Array.getElem?_replicate]; split <;> rfl
  have h0' : inS (Array.replicate ops.size false) = fun _ => false := funext h0
  refine main ops.size _ a { w with drawn := w.drawn + 1 } μ U (by simp) (by simp [falses_len]) (fun k o' ho' hS => by rw [h0] at hS; cases hS) ?_ ?_ ?_ (fun j hj => .inl hj) rfl rfl
  · rw [h0', foldH_none]; exact HS_drew (w := w) (w' := { w with drawn := w.drawn + 1 }) rfl ⟨Nat.le_refl _, rfl, rfl, rfl, Nat.le_succ _⟩ hs
  · rw [h0', foldH_none, foldS_none]; exact fun t => VR_mono (Next_drew (w := w) (w' := { w with drawn := w.drawn + 1 }) rfl) _ _ (hσ t)
  · rw [h0', foldH_none]; exact Next_drew (w := w) (w' := { w with drawn := w.drawn + 1 }) rfl
end
end Go.Tat

namespace Go.Tat
set_option linter.unusedVariables false

structure TRow where
  ud : UD
  ty : Option Ty
  zc : Option (List AV)
  sz : Nat
  bytes : Nat
def TRow.no : TRow := ⟨.other, none, none, 0, 0⟩
inductive Tb where
  | nil
  | leaf (k : Nat) (r : TRow)
  | node (k : Nat) (l r : Tb)
def Tb.get : Tb → Nat → TRow
  | .nil, _ => TRow.no
  | .leaf k r, i => cond (Nat.beq k i) r TRow.no
  | .node k l r, i => cond (Nat.blt i k) (l.get i) (r.get i)
@[reducible] def Tb.te (t : Tb) : TE := ⟨fun i => (t.get i).ud, fun i => (t.get i).ty, fun i => (t.get i).zc, fun i => (t.get i).sz, fun i => (t.get i).bytes⟩

/-! ### Zero values -/
def iterZ (f : List Value → Option (List Value)) : Nat → List Value → Option (List Value)
  | 0, l => some l
  | n + 1, l => match f l with
    | some r => iterZ f n r
    | none => none
def isZ : Int → Bool
  | .ofNat n => Nat.beq n 0
  | .negSucc _ => false
/-- Takes a type's zero cells off the front. -/
def zCells : Ty → List Value → Option (List Value)
  | .int k, l => match l with
    | .int k' n :: r => cond (Nat.beq (ikN k) (ikN k') && isZ n) (some r) none
    | _ => none
  | .bool, l => match l with
    | .bool false :: r => some r
    | _ => none
  | .str, l => match l with
    | .string ⟨⟨[]⟩⟩ :: r => some r
    | _ => none
  | .slice _, l => match l with
    | .slice none 0 0 :: r => some r
    | _ => none
  | .arr n e, l => iterZ (zCells e) n l
  | .prod a b, l => match zCells a l with
    | some r => zCells b r
    | none => none
  | .box a, l => zCells a l
theorem iterZ_spec {w : World} {M : Nat → Prop} {e : Ty} {f : List Value → Option (List Value)} (hf : ∀ l r, f l = some r → ∃ vs, l = vs ++ r ∧ CR w M e e.zero vs) :
    ∀ (n : Nat) (l r : List Value), iterZ f n l = some r → ∃ vs, l = vs ++ r ∧ CRL (CR w M e) (List.replicate n e.zero) vs
  | 0, l, r, h => by simp only [iterZ, Option.some.injEq] at h; exact ⟨[], by simp [h], CRL.nil⟩
  | n + 1, l, r, h => by
    simp only [iterZ] at h
    split at h
    · rename_i r1 h1
      obtain ⟨v1, e1, c1⟩ := hf _ _ h1
      obtain ⟨v2, e2, c2⟩ := iterZ_spec hf n r1 r h
      exact ⟨v1 ++ v2, by rw [e1, e2, List.append_assoc], by rw [List.replicate_succ]; exact CRL.cons c1 c2⟩
    · cases h
theorem zCells_spec {w : World} {M : Nat → Prop} : ∀ (t : Ty) (l r : List Value), zCells t l = some r → ∃ vs, l = vs ++ r ∧ CR w M t t.zero vs
  | .int k, l, r, h => by
    simp only [zCells] at h
    split at h
    · rename_i k' n r'
      cases hc : (Nat.beq (ikN k) (ikN k') && isZ n) with
      | false => rw [hc] at h; cases h
      | true =>
        rw [hc] at h; cases h
        simp only [Bool.and_eq_true] at hc
        have := ikN_inj hc.1
        subst this
        have hn : n = 0 := by
          cases n with
          | ofNat m => have := Nat.eq_of_beq_eq_true hc.2; subst this; rfl
          | negSucc m => cases hc.2
        subst hn
        exact ⟨_, (List.singleton_append).symm, rfl⟩
    · cases h
  | .bool, l, r, h => by
    simp only [zCells] at h
    split at h
    · cases h; exact ⟨_, (List.singleton_append).symm, rfl⟩
    · cases h
  | .str, l, r, h => by
    simp only [zCells] at h
    split at h
    · cases h; exact ⟨_, (List.singleton_append).symm, rfl⟩
    · cases h
  | .slice e, l, r, h => by
    simp only [zCells] at h
    split at h
    · cases h; exact ⟨_, (List.singleton_append).symm, none, 0, rfl, by simp [Ty.zero], rfl⟩
    · cases h
  | .arr n e, l, r, h => by
    obtain ⟨vs, e1, e2⟩ := iterZ_spec (fun l r h => zCells_spec e l r h) n l r h
    exact ⟨vs, e1, by simp [Ty.zero], e2⟩
  | .prod a b, l, r, h => by
    simp only [zCells] at h
    split at h
    · rename_i r1 h1
      obtain ⟨v1, e1, c1⟩ := zCells_spec a _ _ h1
      obtain ⟨v2, e2, c2⟩ := zCells_spec b _ _ h
      exact ⟨v1 ++ v2, by rw [e1, e2, List.append_assoc], v1, v2, rfl, c1, c2⟩
    · cases h
  | .box a, l, r, h => zCells_spec a l r h
def isNilV : Option (List Value) → Bool
  | some [] => true
  | _ => false
/-- Is it the type's zero value? -/
def zChk (u : Ty) (z : Value) : Bool :=
  match u.agg, z with
  | true, .agg cs => isNilV (zCells u cs.toList)
  | false, v => isNilV (zCells u [v])
  | _, _ => false
theorem isNilV_spec {o : Option (List Value)} (h : isNilV o = true) : o = some [] := by
  unfold isNilV at h; split at h
  · rfl
  · cases h
theorem zChk_spec {u : Ty} {z : Value} (h : zChk u z = true) (w : World) (M : Nat → Prop) (μ : Mu) (U : Nat → Prop) : VR w M μ U (.d u u.zero) z := by
  unfold zChk at h
  rw [VR_d]
  cases hu : u.agg with
  | true =>
    rw [hu] at h
    cases z with
    | agg cs =>
      obtain ⟨vs, e1, e2⟩ := zCells_spec (w := w) (M := M) u _ _ (isNilV_spec h)
      rw [List.append_nil] at e1
      exact ⟨cs, rfl, by rw [e1]; exact e2⟩
    | _ => cases h
  | false =>
    rw [hu] at h
    have h : isNilV (zCells u [z]) = true := by cases z <;> exact h
    obtain ⟨vs, e1, e2⟩ := zCells_spec (w := w) (M := M) u _ _ (isNilV_spec h)
    rw [List.append_nil] at e1
    simp only; rw [e1]; exact e2

/-! ### '==' -/
def fOk (P : Program) (f : Field) (off : Nat) (u : Ty) : Bool :=
  f.name != "_" && (Nat.beq f.offset off && (match P.info? f.type with | some i => Nat.beq i.size u.sz | none => false))
def eqC (P : Program) : Nat → TypeId ⊕ (List Field × Nat) → Ty → Bool
  | 0, _, _ => false
  | n + 1, .inl t, u => match u with
    | .int _ => (match P.underlying t with | some (.int _) => true | _ => false)
    | .bool => (match P.underlying t with | some .bool => true | _ => false)
    | .str => (match P.underlying t with | some .string => true | _ => false)
    | .box a => (match P.underlying t with | some (.struct fs) => !(P.stoodInHeld t) && eqC P n (.inr (fs.toList, 0)) a | _ => false)
    | _ => false
  | n + 1, .inr (fs, off), u => match fs with
    | [] => false
    | [f] => fOk P f off u && eqC P n (.inl f.type) u
    | f :: g :: r => match u with
      | .prod x y => fOk P f off x && (eqC P n (.inl f.type) x && eqC P n (.inr (g :: r, off + x.sz)) y)
      | _ => false
section
variable {P : Program}
theorem eqC_agg {n : Nat} {t : TypeId} {u : Ty} (h : eqC P n (.inl t) u = true) (w : World) : (isAgg t).run P w = .ok u.agg w := by
  cases n with
  | zero => cases h
  | succ n =>
    have key : ∀ d, P.underlying t = some d → (match d with | .struct _ | .array _ _ => true | _ => false) = u.agg → (isAgg t).run P w = .ok u.agg w := fun d hd hb => by
      unfold Go.isAgg
      rw [Sem.run_bind, run_underlying hd]
      simp only [Result.andThen_ok]
      rw [← hb]
      cases d <;> simp_all
    cases u <;> simp only [eqC] at h <;> try (cases h; done)
    all_goals (split at h <;> first | (rename_i hd; exact key _ hd rfl) | cases h)
theorem part_run {n : Nat} {f : Field} {off : Nat} {u : Ty} (hf : fOk P f off u = true) (h : eqC P n (.inl f.type) u = true) {w : World} {M : Nat → Prop} {μ : Mu} {U : Nat → Prop} {a : u.den} {xs : Array Value} {v1 v2 : List Value}
    (hx : xs.toList.drop off = v1 ++ v2) (hc : CR w M u a v1) : ∃ v, (part f.type xs f.offset).run P w = .ok v w ∧ VR w M μ U (.d u a) v := by
  simp only [fOk, Bool.and_eq_true] at hf
  obtain ⟨_, ho, hi⟩ := hf
  have ho := Nat.eq_of_beq_eq_true ho
  have hl := CR_len w M u a v1 hc
  unfold part
  rw [ho]
  simp only [Sem.run_bind, eqC_agg h, Result.andThen_ok]
  cases hu : u.agg with
  | true =>
    split at hi
    · rename_i i hinf
      have hi := Nat.eq_of_beq_eq_true hi
      refine ⟨.agg (xs.extract off (off + i.size)), by simp [run_sizeOf hinf], ?_⟩
      rw [VR_d, hu]
      refine ⟨_, rfl, ?_⟩
      have : (xs.extract off (off + i.size)).toList = v1 := by
        rw [Array.toList_extract, List.extract_eq_take_drop]
        rw [hx, show off + i.size - off = v1.length by omega]
        simp
      rw [this]; exact hc
    · cases hi
  | false =>
    have hsz : u.sz = 1 := by cases u <;> first | rfl | cases hu
    rw [hsz] at hl
    obtain ⟨v, rfl⟩ := List.length_eq_one_iff.1 hl
    have hv : xs[off]? = some v := by
      have h1 := congrArg (fun l => l[0]?) hx
      simp only [List.getElem?_drop, Nat.add_zero] at h1
      simpa using h1
    refine ⟨v, by simp [hv], ?_⟩
    rw [VR_d, hu]; exact hc
theorem eqC_sound : ∀ (n : Nat), (∀ (t : TypeId) (u : Ty), eqC P n (.inl t) u = true → ∀ d, n ≤ d → ∀ (w : World) (M : Nat → Prop) (μ : Mu) (U : Nat → Prop) (a b : u.den) (va vb : Value), VR w M μ U (.d u a) va → VR w M μ U (.d u b) vb →
      (Op.equalIn d t va vb).run P w = .ok (u.eqB a b) w) ∧
    (∀ (fs : List Field) (off : Nat) (u : Ty), eqC P n (.inr (fs, off)) u = true → ∀ d, n ≤ d → ∀ (w : World) (M : Nat → Prop) (a b : u.den) (xs ys : Array Value), CR w M u a (xs.toList.drop off) → CR w M u b (ys.toList.drop off) →
      (Op.eqFields d xs ys fs).run P w = .ok (u.eqB a b) w)
  | 0 => ⟨fun t u h => (by cases h), fun fs off u h => (by cases h)⟩
  | n + 1 => by
    obtain ⟨ih1, ih2⟩ := eqC_sound n
    have step : ∀ (f : Field) (fs : List Field) (off : Nat) (u : Ty), fOk P f off u = true → eqC P n (.inl f.type) u = true → ∀ d, n ≤ d → ∀ (w : World) (M : Nat → Prop) (a b : u.den) (xs ys : Array Value) (v1 v2 x1 x2 : List Value),
        xs.toList.drop off = v1 ++ v2 → ys.toList.drop off = x1 ++ x2 → CR w M u a v1 → CR w M u b x1 →
        (Op.eqFields d xs ys (f :: fs)).run P w = if u.eqB a b = true then (Op.eqFields d xs ys fs).run P w else .ok false w := fun f fs off u hf he d hd w M a b xs ys v1 v2 x1 x2 hx hy ha hb => by
      have hne : f.name ≠ "_" := by
        simp only [fOk, Bool.and_eq_true] at hf
        intro e; rw [e] at hf; simp at hf
      obtain ⟨v, r1, q1⟩ := part_run (μ := fun _ => nilHd) (U := fun _ => True) hf he hx ha
      obtain ⟨v', r2, q2⟩ := part_run (μ := fun _ => nilHd) (U := fun _ => True) hf he hy hb
      have r3 := ih1 f.type u he d hd w M _ _ a b v v' q1 q2
      simp only [Op.eqFields, hne, ne_eq, not_false_iff, if_true, Sem.run_bind, r1, r2, r3, Result.andThen_ok]
      cases u.eqB a b <;> simp
    refine ⟨fun t u h d hd w M μ U a b va vb h1 h2 => ?_, fun fs off u h d hd w M a b xs ys h1 h2 => ?_⟩
    · obtain ⟨d, rfl⟩ : ∃ d', d = d' + 1 := ⟨d - 1, by omega⟩
      cases u with
      | int k =>
        rw [VR_int] at h1 h2; subst h1; subst h2
        simp only [eqC] at h
        split at h
        · rename_i k' hu; exact run_equalIn_int w d t k k' a b hu
        · cases h
      | bool =>
        rw [VR_bool] at h1 h2; subst h1; subst h2
        simp only [eqC] at h
        split at h
        · rename_i hu; exact run_equalIn_bool w d t a b hu
        · cases h
      | str =>
        rw [VR_str] at h1 h2; subst h1; subst h2
        simp only [eqC] at h
        split at h
        · rename_i hu
          rw [run_equalIn_string w d t a b hu, ← beq_toListBytes]; rfl
        · cases h
      | box u =>
        rw [VR_d1 rfl] at h1 h2
        obtain ⟨xs, rfl, h1⟩ := h1
        obtain ⟨ys, rfl, h2⟩ := h2
        simp only [eqC] at h
        split at h
        · rename_i fs hu
          simp only [Bool.and_eq_true, Bool.not_eq_true'] at h
          have hfo : P.fieldsOf t = fs := by unfold Program.fieldsOf; rw [hu]
          rw [run_equalIn_struct w d t xs ys (by rw [hfo]; exact hu) h.1, hfo]
          exact ih2 fs.toList 0 u h.2 d (by omega) w M a b xs ys h1 h2
        · cases h
      | slice e => simp only [eqC] at h; cases h
      | arr m e => simp only [eqC] at h; cases h
      | prod x y => simp only [eqC] at h; cases h
    · simp only [eqC] at h
      split at h
      · cases h
      · rename_i f
        simp only [Bool.and_eq_true] at h
        rw [step f [] off u h.1 h.2 d (by omega) w M a b xs ys _ [] _ [] (List.append_nil _).symm (List.append_nil _).symm h1 h2]
        cases hq : u.eqB a b <;> simp [Op.eqFields]
      · rename_i f g r
        split at h
        · rename_i x y
          simp only [Bool.and_eq_true] at h
          obtain ⟨v1, v2, e1, c1, c2⟩ := h1
          obtain ⟨y1, y2, e2, c3, c4⟩ := h2
          rw [step f (g :: r) off x h.1 h.2.1 d (by omega) w M a.1 b.1 xs ys v1 v2 y1 y2 e1 e2 c1 c3]
          have hd1 : xs.toList.drop (off + x.sz) = v2 := by
            rw [← List.drop_drop, e1, ← CR_len w M x a.1 v1 c1]; simp
          have hd2 : ys.toList.drop (off + x.sz) = y2 := by
            rw [← List.drop_drop, e2, ← CR_len w M x b.1 y1 c3]; simp
          rw [ih2 (g :: r) (off + x.sz) y h.2.2 d (by omega) w M a.2 b.2 xs ys (by rw [hd1]; exact c2) (by rw [hd2]; exact c4)]
          show _ = Result.ok (x.eqB a.1 b.1 && y.eqB a.2 b.2) w
          cases x.eqB a.1 b.1 <;> simp
        · cases h
/-- What is asked for '=='. -/
def eqChk (P : Program) (t : TypeId) (u : Ty) : Bool := cond u.eqOk (eqC P 60 (.inl t) u && (!u.agg || !(P.eqGuardType P.depth t))) true
theorem eqChk_spec {t : TypeId} {u : Ty} (h : eqChk P t u = true) (hu : u.eqOk = true) (op : BinOp) (x y : Operand) (a b : u.den) (va vb : Value) (w : World) (M : Nat → Prop) (μ : Mu) (U : Nat → Prop) (h1 : VR w M μ U (.d u a) va) (h2 : VR w M μ U (.d u b) vb) :
    (eqGuard op t x y va vb).run P w = .ok () w ∧ (Op.equal t va vb).run P w = .ok (u.eqB a b) w := by
  unfold eqChk at h
  rw [hu, cond_true, Bool.and_eq_true] at h
  refine ⟨?_, (eqC_sound 60).1 t u h.1 10000 (by omega) w M μ U a b va vb h1 h2⟩
  cases u with
  | int k => rw [VR_int] at h1 h2; subst h1; subst h2; cases op <;> simp [eqGuard]
  | bool => rw [VR_bool] at h1 h2; subst h1; subst h2; cases op <;> simp [eqGuard]
  | str => rw [VR_str] at h1 h2; subst h1; subst h2; cases op <;> simp [eqGuard]
  | box u =>
    rw [VR_d1 rfl] at h1 h2
    obtain ⟨xs, rfl, h1⟩ := h1
    obtain ⟨ys, rfl, h2⟩ := h2
    refine run_eqGuard_agg w op t x y xs ys ?_
    have := h.2
    simpa [Ty.agg] using this
  | slice e => cases hu
  | arr m e => cases hu
  | prod x y => have := h.1; simp only [eqC] at this; cases this
end
end Go.Tat

namespace Go.Tat
set_option linter.unusedVariables false

def boolEq (a b : Bool) : Bool := cond a b (!b)
theorem boolEq_spec {a b : Bool} (h : boolEq a b = true) : a = b := by cases a <;> cases b <;> simp_all [boolEq]
def rowFits (T : TE) (f : TypeId) (u : Ty) : Bool := Nat.beq (T.sz f) u.sz && (match aggT T f with | some b => boolEq b u.agg | none => false)
def fieldsChk (T : TE) : List TypeId → Ty → Bool
  | [], _ => true
  | [f], u => rowFits T f u
  | f :: g :: r, u => match u with
    | .prod x y => rowFits T f x && fieldsChk T (g :: r) y
    | _ => true
theorem rowFits_spec {T : TE} {f : TypeId} {u : Ty} (h : rowFits T f u = true) : T.sz f = u.sz ∧ aggT T f = some u.agg := by
  simp only [rowFits, Bool.and_eq_true] at h
  refine ⟨Nat.eq_of_beq_eq_true h.1, ?_⟩
  have h2 := h.2
  split at h2
  · rename_i b hb; rw [hb, boolEq_spec h2]
  · cases h2
theorem fieldsChk_spec {T : TE} : ∀ (fs : List TypeId) (a : Ty) (o : Nat), fieldsChk T fs a = true → ∀ f v q, fieldIn fs.length f a = some ⟨v, q⟩ → ∃ ft, nthF (offsOf T fs o) f = some (o + q.off, v.sz, ft) ∧ aggT T ft = some v.agg
  | [], a, o, h, f, v, q, hf => by simp [fieldIn] at hf
  | [f0], a, o, h, f, v, q, hf => by
    have hs := rowFits_spec (show rowFits T f0 a = true from h)
    simp only [List.length_cons, List.length_nil, Nat.zero_add, fieldIn] at hf
    cases hb : Nat.beq f 0 with
    | false => rw [hb] at hf; cases hf
    | true =>
      rw [hb] at hf; cases hf
      have := Nat.eq_of_beq_eq_true hb
      subst this
      exact ⟨f0, by simp [offsOf, nthF, Path.off, hs.1], hs.2⟩
  | f0 :: g :: r, a, o, h, f, v, q, hf => by
    cases a with
    | prod x y =>
      simp only [fieldsChk, Bool.and_eq_true] at h
      have hs := rowFits_spec h.1
      cases f with
      | zero =>
        simp only [List.length_cons, fieldIn] at hf
        cases hf
        exact ⟨f0, by simp [offsOf, nthF, Path.off, hs.1], hs.2⟩
      | succ f =>
        simp only [List.length_cons, fieldIn] at hf
        split at hf
        · rename_i u p hp
          cases hf
          obtain ⟨ft, e1, e2⟩ := fieldsChk_spec (g :: r) y (o + T.sz f0) h.2 f _ _ hp
          refine ⟨ft, ?_, e2⟩
          simp only [offsOf, nthF, Path.off] at e1 ⊢
          rw [e1, hs.1, Nat.add_assoc]
        · cases hf
    | _ => simp [fieldIn] at hf

def fldChk (P : Program) (T : TE) : List Field → List TypeId → Nat → Bool
  | [], [], _ => true
  | f :: fs, t :: ts, o => Nat.beq f.offset o && (Nat.beq f.type t && ((match P.info? f.type with | some i => Nat.beq i.size (T.sz f.type) | none => false) && fldChk P T fs ts (o + T.sz t)))
  | _, _, _ => false
theorem fldChk_spec {P : Program} {T : TE} : ∀ (fs : List Field) (ts : List TypeId) (o : Nat), fldChk P T fs ts o = true →
    fs.map (fun f => (f.offset, T.sz f.type, f.type)) = offsOf T ts o ∧ ∀ f ∈ fs, ∃ i, P.info? f.type = some i ∧ i.size = T.sz f.type
  | [], [], o, h => ⟨rfl, fun f h => by cases h⟩
  | [], _ :: _, o, h => by cases h
  | _ :: _, [], o, h => by cases h
  | f :: fs, t :: ts, o, h => by
    simp only [fldChk, Bool.and_eq_true] at h
    obtain ⟨h1, h2, h3, h4⟩ := h
    have h1 := Nat.eq_of_beq_eq_true h1
    have h2 := Nat.eq_of_beq_eq_true h2
    obtain ⟨e1, e2⟩ := fldChk_spec fs ts _ h4
    refine ⟨by simp only [List.map_cons, offsOf, e1]; rw [h1, h2], fun f' hf' => ?_⟩
    cases hf' with
    | head =>
      split at h3
      · rename_i i hi; exact ⟨i, hi, Nat.eq_of_beq_eq_true h3⟩
      · cases h3
    | tail _ hf' => exact e2 f' hf'
def udChk (P : Program) (T : TE) : UD → TypeDesc → Bool
  | .int k, d => (match d with | .int k' => Nat.beq (ikN k) (ikN k') | _ => false)
  | .bool, d => (match d with | .bool => true | _ => false)
  | .str, d => (match d with | .string => true | _ => false)
  | .ptr e, d => (match d with | .pointer e' => Nat.beq e e' | _ => false)
  | .slice e, d => (match d with | .slice e' => Nat.beq e e' | _ => false)
  | .arr n e, d => (match d with | .array n' e' => Nat.beq n n' && Nat.beq e e' | _ => false)
  | .map k v, d => (match d with | .map k' v' => Nat.beq k k' && Nat.beq v v' | _ => false)
  | .strct fs, d => (match d with | .struct fields => fldChk P T fields.toList fs 0 | _ => false)
  | .func, d => (match d with | .func _ _ _ => true | _ => false)
  | .other, _ => false
theorem udChk_spec {P : Program} {T : TE} {u : UD} {d : TypeDesc} (h : udChk P T u d = true) : udOK P T u d := by
  cases u with
  | other => trivial
  | strct fs =>
    cases d <;> simp only [udChk] at h <;> try (cases h; done)
    rename_i fields
    obtain ⟨e1, e2⟩ := fldChk_spec _ _ _ h
    exact ⟨fields, rfl, e1, e2⟩
  | func => cases d <;> simp only [udChk] at h <;> first | exact ⟨_, _, _, rfl⟩ | cases h
  | int k => cases d <;> simp only [udChk] at h <;> try (cases h; done)
             exact congrArg TypeDesc.int (ikN_inj h).symm
  | bool => cases d <;> simp only [udChk] at h <;> first | rfl | cases h
  | str => cases d <;> simp only [udChk] at h <;> first | rfl | cases h
  | ptr e => cases d <;> simp only [udChk] at h <;> try (cases h; done)
             exact congrArg TypeDesc.pointer (Nat.eq_of_beq_eq_true h).symm
  | slice e => cases d <;> simp only [udChk] at h <;> try (cases h; done)
               exact congrArg TypeDesc.slice (Nat.eq_of_beq_eq_true h).symm
  | arr n e => cases d <;> simp only [udChk] at h <;> try (cases h; done)
               simp only [Bool.and_eq_true] at h
               rw [Nat.eq_of_beq_eq_true h.1, Nat.eq_of_beq_eq_true h.2]; rfl
  | map k v => cases d <;> simp only [udChk] at h <;> try (cases h; done)
               simp only [Bool.and_eq_true] at h
               rw [Nat.eq_of_beq_eq_true h.1, Nat.eq_of_beq_eq_true h.2]; rfl

def tyChk (P : Program) (T : TE) (k : TypeId) (r : TRow) (u : Ty) (i : TypeInfo) : Bool :=
  Nat.beq r.sz u.sz && ((match aggT T k with | some b => boolEq b u.agg | none => false) && (Nat.blt 0 u.sz && (Nat.blt 0 r.bytes && ((match i.zero with | some z => zChk u z | none => false) &&
    ((match r.ud with | .strct fs => (match u with | .box a => fieldsChk T fs a | _ => true) | _ => true) && eqChk P k u)))))
def arrChk (T : TE) (r : TRow) (i : TypeInfo) : Bool :=
  match r.ud with
  | .arr n e => (match T.ty e with
    | some u => (match i.zero with
      | some z => isNilV (zCells (.arr n u) z.cells.toList)
      | none => false)
    | none => true)
  | _ => true
def allOne : List Value → Bool
  | [] => true
  | v :: r => v.oneCell' && allOne r
theorem allOne_spec : ∀ (l : List Value), allOne l = true → ∀ u ∈ l, u.oneCell' = true
  | [], _, u, h => by cases h
  | v :: r, h, u, hu => by
    simp only [allOne, Bool.and_eq_true] at h
    cases hu with
    | head => exact h.1
    | tail _ hu => exact allOne_spec r h.2 u hu
def zcChk (r : TRow) (i : TypeInfo) : Bool :=
  match r.zc with
  | some cs => (match i.zero with
    | some z => Nat.beq cs.length r.sz && allOne z.cells.toList
    | none => false)
  | none => true
def rowChk (P : Program) (T : TE) (k : TypeId) (r : TRow) : Bool :=
  match P.info? k with
  | some i => (match P.underlying k with
    | some d => udChk P T r.ud d && (Nat.beq i.size r.sz && (Nat.beq i.bytes r.bytes && ((match r.ty with | some u => tyChk P T k r u i | none => true) && (arrChk T r i && zcChk r i))))
    | none => false)
  | none => false
inductive ZT where
  | nil
  | leaf (o : Option (List AV))
  | node (a b : ZT)
def Tb.zt : Tb → ZT
  | .nil => .nil
  | .leaf _ r => .leaf r.zc
  | .node _ a b => .node a.zt b.zt
def zcP (P : Program) (k : TypeId) : Option (List AV) :=
  match P.info? k with
  | some i => (match i.zero with
    | some z => some (z.cells.toList.map ofConst1)
    | none => none)
  | none => none
def Tb.ztP (P : Program) : Tb → ZT
  | .nil => .nil
  | .leaf k r => .leaf (match r.zc with | some _ => zcP P k | none => none)
  | .node _ a b => .node (a.ztP P) (b.ztP P)
def Tb.all (f : Nat → TRow → Bool) : Tb → Bool
  | .nil => true
  | .leaf k r => f k r
  | .node _ a b => a.all f && b.all f
theorem Tb.at {P : Program} {f : Nat → TRow → Bool} : ∀ (t : Tb), t.all f = true → t.zt = t.ztP P → ∀ i, t.get i = TRow.no ∨ (f i (t.get i) = true ∧ ∀ cs, (t.get i).zc = some cs → zcP P i = some cs)
  | .nil, _, _, i => .inl rfl
  | .leaf k r, h, hz, i => by
    simp only [Tb.get]
    cases hb : Nat.beq k i with
    | false => exact .inl rfl
    | true =>
      have := Nat.eq_of_beq_eq_true hb
      subst this
      refine .inr ⟨h, fun cs hc => ?_⟩
      simp only [cond_true] at hc
      simp only [Tb.zt, Tb.ztP, ZT.leaf.injEq, hc] at hz
      exact hz.symm
  | .node k a b, h, hz, i => by
    simp only [Tb.all, Bool.and_eq_true] at h
    simp only [Tb.zt, Tb.ztP, ZT.node.injEq] at hz
    simp only [Tb.get]
    cases Nat.blt i k with
    | true => exact Tb.at a h.1 hz.1 i
    | false => exact Tb.at b h.2 hz.2 i

theorem rowChk_spec {P : Program} {T : TE} {k : TypeId} {r : TRow} (h : rowChk P T k r = true) : ∃ i d, P.info? k = some i ∧ P.underlying k = some d ∧ udOK P T r.ud d ∧ i.size = r.sz ∧ i.bytes = r.bytes ∧ (∀ u, r.ty = some u → tyChk P T k r u i = true) ∧ arrChk T r i = true ∧ zcChk r i = true := by
  unfold rowChk at h
  split at h
  · rename_i i hi
    split at h
    · rename_i d hd
      simp only [Bool.and_eq_true] at h
      obtain ⟨h1, h2, h3, h4, h5, h6⟩ := h
      exact ⟨i, d, hi, hd, udChk_spec h1, Nat.eq_of_beq_eq_true h2, Nat.eq_of_beq_eq_true h3, fun u hu => by rw [hu] at h4; exact h4, h5, h6⟩
    · cases h
  · cases h

/-- THE TABLE IS AS IS ASKED. -/
theorem Tb.ok {P : Program} {t : Tb} (h1 : t.all (rowChk P t.te) = true) (h2 : t.zt = t.ztP P) : TEok P t.te := by
  have hat := Tb.at (P := P) t h1 h2
  refine ⟨fun k hk => ?_, fun k cs hk => ?_, fun k u hk => ?_, fun k n e u hk hu => ?_⟩
  · rcases hat k with h | ⟨h, _⟩
    · exact (hk (by show (t.get k).ud = .other; rw [h]; rfl)).elim
    · obtain ⟨i, d, e1, e2, e3, e4, e5, _⟩ := rowChk_spec h
      exact ⟨i, d, e1, e2, e3, e4, e5⟩
  · have hk : (t.get k).zc = some cs := hk
    rcases hat k with h | ⟨h, hz⟩
    · rw [h] at hk; cases hk
    · obtain ⟨i, d, e1, e2, e3, e4, e5, _, _, e8⟩ := rowChk_spec h
      have hz := hz cs hk
      simp only [zcP, e1] at hz
      simp only [zcChk, hk] at e8
      split at hz
      · rename_i z hzz
        rw [hzz] at e8
        simp only [Bool.and_eq_true] at e8
        exact ⟨i, z, e1, hzz, (Option.some.inj hz).symm, Nat.eq_of_beq_eq_true e8.1, allOne_spec _ e8.2⟩
      · cases hz
  · have hk : (t.get k).ty = some u := hk
    rcases hat k with h | ⟨h, _⟩
    · rw [h] at hk; cases hk
    · obtain ⟨i, d, e1, e2, e3, e4, e5, e6, _, _⟩ := rowChk_spec h
      have h7 := e6 u hk
      simp only [tyChk, Bool.and_eq_true] at h7
      obtain ⟨g1, g2, g3, g4, g5, g6, g7⟩ := h7
      have g1 := Nat.eq_of_beq_eq_true g1
      refine ⟨g1, ?_, Nat.blt_eq.mp g3, Nat.blt_eq.mp g4, ?_, fun fs f v q hfs hf => ?_, fun hq op x y a b va vb w M μ U r1 r2 => eqChk_spec g7 hq op x y a b va vb w M μ U r1 r2⟩
      · split at g2
        · rename_i b hb; rw [hb, boolEq_spec g2]
        · cases g2
      · split at g5
        · rename_i z hz
          exact ⟨i, z, e1, hz, by rw [e4, g1], e5, fun w M μ U => zChk_spec g5 w M μ U⟩
        · cases g5
      · have hfs : (t.get k).ud = .strct fs := hfs
        rw [hfs] at g6
        cases u with
        | box a =>
          simp only at g6
          simp only [fieldOf] at hf
          split at hf
          · rename_i u' p hp
            cases hf
            obtain ⟨ft, h8, h9⟩ := fieldsChk_spec fs a 0 g6 f _ _ hp
            exact ⟨ft, by simpa [Path.off] using h8, h9⟩
          · cases hf
        | _ => simp [fieldOf] at hf
  · have hk : (t.get k).ud = .arr n e := hk
    rcases hat k with h | ⟨h, _⟩
    · rw [h] at hk; cases hk
    · obtain ⟨i, d, e1, e2, e3, e4, e5, _, e7, _⟩ := rowChk_spec h
      have hu : (t.get e).ty = some u := hu
      simp only [arrChk, hk] at e7
      rw [hu] at e7
      simp only at e7
      split at e7
      · rename_i z hz
        refine ⟨i, z, e1, hz, fun w M => ?_⟩
        obtain ⟨vs, q1, q2⟩ := zCells_spec (w := w) (M := M) (.arr n u) _ _ (isNilV_spec e7)
        rw [List.append_nil] at q1
        rw [q1]; exact q2
      · cases e7
end Go.Tat

namespace Go.Tat
set_option linter.unusedVariables false

abbrev Jn (Z : Type) := (p : CPat) × (denT p.pat.tys → Option Z)
inductive JT (Z : Type) where
  | nil
  | node (a b : JT Z)
  | join (j : Jn Z) (a b : JT Z)
section
variable {P : Program} (T : TE) (E : FuncId → List Entry) {Z : Type} (inl : Inl Z) (N sz : Nat)
/-- What the joins come to. -/
def jl : Ann Z → Code → (Ex → St → Option Z) → JT Z
  | n, .seq a b, K => match n with
    | .seq j x y => match j with
      | none => .node (jl x a (seqK N none (fun st' => exec N T E inl y b st' K) K)) (jl y b K)
      | some ⟨p, J⟩ => .join ⟨p, fun s => match cutSt p s with | some st => exec N T E inl y b st K | none => none⟩ (jl x a (seqK N (some ⟨p, J⟩) (fun st' => exec N T E inl y b st' K) K)) (jl y b K)
    | _ => .nil
  | n, .cond c a b, K => match n with
    | .cond m n => .node (jl m a K) (jl n b K)
    | _ => .nil
  | n, .block id c, K => match n with
    | .block m => jl m c (blockK id K)
    | _ => .nil
  | n, .scope c, K => match n with
    | .block m => jl m c K
    | _ => .nil
  | _, _, _ => .nil
/-- What is written of the joins. -/
def jr : Ann Z → Code → JT Z
  | n, .seq a b => match n with
    | .seq j x y => match j with
      | none => .node (jr x a) (jr y b)
      | some j => .join j (jr x a) (jr y b)
    | _ => .nil
  | n, .cond c a b => match n with
    | .cond m n => .node (jr m a) (jr n b)
    | _ => .nil
  | n, .block id c => match n with
    | .block m => jr m c
    | _ => .nil
  | n, .scope c => match n with
    | .block m => jr m c
    | _ => .nil
  | _, _ => .nil
/-- The loops. -/
def ll : Ann Z → Code → List (LoopE × Code)
  | n, .seq a b => match n with
    | .seq j x y => ll x a ++ ll y b
    | _ => []
  | n, .cond c a b => match n with
    | .cond m n => ll m a ++ ll n b
    | _ => []
  | n, .block id c => match n with
    | .block m => ll m c
    | _ => []
  | n, .scope c => match n with
    | .block m => ll m c
    | _ => []
  | .loop e, .loop c => [(e, c)]
  | _, _ => []
def LsOK (P : Program) (sz : Nat) : List (LoopE × Code) → Prop
  | [] => True
  | x :: r => LoopOK P x.1 x.2 sz ∧ LsOK P sz r
theorem LsOK_append {a b : List (LoopE × Code)} (h : LsOK P sz (a ++ b)) : LsOK P sz a ∧ LsOK P sz b := by
  induction a with
  | nil => exact ⟨trivial, h⟩
  | cons x r ih => exact ⟨⟨h.1, (ih h.2).1⟩, (ih h.2).2⟩

theorem annOK_of : ∀ (c : Code) (n : Ann Z) (K : Ex → St → Option Z), jl T E inl N n c K = jr n c → LsOK P sz (ll n c) → AnnOK T E inl N sz P n c K := by
  intro c
  induction c with
  | seq a b iha ihb =>
    intro n K h1 h2
    cases n with
    | seq j x y =>
      obtain ⟨g1, g2⟩ := LsOK_append sz h2
      cases j with
      | none =>
        simp only [jl, jr, JT.node.injEq] at h1
        exact ⟨iha x _ h1.1 g1, ihb y K h1.2 g2, trivial⟩
      | some pj =>
        obtain ⟨p, J⟩ := pj
        simp only [jl, jr, JT.join.injEq, Sigma.mk.injEq, heq_eq_eq, true_and] at h1
        exact ⟨iha x _ h1.2.1 g1, ihb y K h1.2.2 g2, fun s => congrFun h1.1 s⟩
    | _ => exact ⟨annOK_none a _, annOK_none b _⟩
  | cond o a b iha ihb =>
    intro n K h1 h2
    cases n with
    | cond x y =>
      obtain ⟨g1, g2⟩ := LsOK_append sz h2
      simp only [jl, jr, JT.node.injEq] at h1
      exact ⟨iha x K h1.1 g1, ihb y K h1.2 g2⟩
    | _ => exact ⟨annOK_none a _, annOK_none b _⟩
  | block id c ih =>
    intro n K h1 h2
    cases n with
    | block m => exact ih m _ h1 h2
    | _ => exact annOK_none c _
  | scope c ih =>
    intro n K h1 h2
    cases n with
    | block m => exact ih m _ h1 h2
    | _ => exact annOK_none c _
  | loop c ih =>
    intro n K h1 h2
    cases n with
    | loop e => exact h2.1
    | _ => trivial
  | _ => intro n K h1 h2; cases n <;> trivial
end

/-! ### A function's surroundings -/
abbrev Envs := List (Nat × Entry)
def envOf : Envs → FuncId → List Entry
  | [], _ => []
  | p :: r, g => cond (Nat.beq p.1 g) (p.2 :: envOf r g) (envOf r g)
def EnvOK (P : Program) : Envs → Prop
  | [] => True
  | p :: r => EntryOK P p.1 p.2 ∧ EnvOK P r
theorem envOf_ok {P : Program} : ∀ (l : Envs), EnvOK P l → ∀ g, ∀ e ∈ envOf l g, EntryOK P g e
  | [], _, g, e, h => by cases h
  | p :: r, ho, g, e, h => by
    simp only [envOf] at h
    cases hb : Nat.beq p.1 g with
    | true =>
      rw [hb, cond_true] at h
      have := Nat.eq_of_beq_eq_true hb
      cases h with
      | head => rw [← this]; exact ho.1
      | tail _ h => exact envOf_ok r ho.2 g e h
    | false => rw [hb, cond_false] at h; exact envOf_ok r ho.2 g e h
abbrev Fbs := List (Nat × Func)
def fbOf : Fbs → FuncId → Option Func
  | [], _ => none
  | p :: r, g => cond (Nat.beq p.1 g) (some p.2) (fbOf r g)
def bodyOf (f : Func) : Code := match f.body with | some c => c | none => .skip
def nameOk (f : Func) : Bool := !(f.name == "runtime.NumGoroutine")
def FbsOK (P : Program) : Fbs → Prop
  | [] => True
  | p :: r => (P.funcs[p.1]? = some p.2 ∧ (nameOk p.2 && dstsOk p.2.ntmps (bodyOf p.2)) = true) ∧ FbsOK P r
theorem fbOf_ok {P : Program} : ∀ (l : Fbs), FbsOK P l → FbOK P (fbOf l)
  | [], _, g, f, h => by cases h
  | p :: r, ho, g, f, h => by
    simp only [fbOf] at h
    cases hb : Nat.beq p.1 g with
    | true =>
      rw [hb, cond_true] at h
      have := Nat.eq_of_beq_eq_true hb
      cases h
      have h2 := ho.1.2
      simp only [Bool.and_eq_true, nameOk, Bool.not_eq_true'] at h2
      refine ⟨by rw [← this]; exact ho.1.1, h2.1, fun c hc => ?_⟩
      have h3 := h2.2
      simp only [bodyOf, hc] at h3
      exact h3
    | false => rw [hb, cond_false] at h; exact fbOf_ok r ho.2 g f h
/-- A part of a code. -/
def sub : List Nat → Code → Code
  | [], c => c
  | i :: r, .seq a b => cond (Nat.beq i 0) (sub r a) (sub r b)
  | i :: r, .cond _ a b => cond (Nat.beq i 0) (sub r a) (sub r b)
  | _ :: r, .block _ c => sub r c
  | _ :: r, .scope c => sub r c
  | _ :: r, .loop c => sub r c
  | _, c => c
/-- What holds of a program as a whole. -/
structure Base (P : Program) (T : TE) : Prop where
  tab : TEok P T
  mixed : P.follows .mixedOrders = true

section
variable {P : Program} {T : TE}
/-- AN ENTRY. -/
theorem entryBody (hB : Base P T) (env : Envs) (hE : EnvOK P env) (fbs : Fbs) (hb : FbsOK P fbs) (dep : Nat) {f : FuncId} {fn : Func} (e : Entry) (n : Ann (denT e.post.tys)) (ls : List (LoopE × Code)) (hf : P.funcs[f]? = some fn)
    (hs : (e.ok && (nameOk fn && (fn.body.isSome && (Nat.ble (widthSK e.pre.ks) fn.ntmps && dstsOk fn.ntmps (bodyOf fn))))) = true)
    (hF : (fun s => bodyRun T (envOf env) (inlD T (envOf env) (fbOf fbs) dep) e.pre e.post fn n s) = e.F)
    (hJ : jl T (envOf env) (inlD T (envOf env) (fbOf fbs) dep _) e.pre.objs.length n (bodyOf fn) (endK T fn.results.toList e.post e.pre.objs.length) = jr n (bodyOf fn))
    (hL : ll n (bodyOf fn) = ls) (hls : LsOK P fn.ntmps ls) : EntryOK P f e := by
  have hE' := envOf_ok env hE
  have hD := draw_ok hB.tab hE' hB.mixed
  have hI := inlD_ok hB.tab hE' hD (fbOf_ok fbs hb) dep
  simp only [Bool.and_eq_true, nameOk, Bool.not_eq_true'] at hs
  obtain ⟨h1, h2, h3, h4, h5⟩ := hs
  obtain ⟨c, hc⟩ := Option.isSome_iff_exists.1 h3
  have hbo : bodyOf fn = c := by simp [bodyOf, hc]
  rw [hbo] at h5 hJ hL
  exact entry_of_body hB.tab hE' hI hD e h1 hf h2 hc h4 h5 n (annOK_of T _ _ _ _ c n _ hJ (hL ▸ hls)) fun s => congrFun hF s
/-- A LOOP. -/
theorem loopBody (hB : Base P T) (env : Envs) (hE : EnvOK P env) (fbs : Fbs) (hb : FbsOK P fbs) (dep : Nat) {c : Code} {sz : Nat} (p : CPat) (outs : List (Ex × CPat)) (step : denT p.pat.tys → Option (denT p.pat.tys ⊕ outT outs))
    (n : Ann (denT p.pat.tys ⊕ outT outs)) (ls : List (LoopE × Code)) 
    (hs : (p.ok && (p.pat.ok && (outs.all (fun x => kindsOk p.pat.objs x.2.pat.objs && Nat.ble x.2.pat.objs.length 16) && dstsOk sz c))) = true)
    (hF : (fun s => round T (envOf env) (inlD T (envOf env) (fbOf fbs) dep) p outs n c s) = step)
    (hJ : jl T (envOf env) (inlD T (envOf env) (fbOf fbs) dep _) p.nx n c (roundK p outs) = jr n c)
    (hL : ll n c = ls) (hls : LsOK P sz ls) : LoopOK P ⟨p, outs, loopN step⟩ c sz := by
  have hE' := envOf_ok env hE
  have hD := draw_ok hB.tab hE' hB.mixed
  have hI := inlD_ok hB.tab hE' hD (fbOf_ok fbs hb) dep
  simp only [Bool.and_eq_true, List.all_eq_true] at hs
  obtain ⟨h1, h2, h3, h4⟩ := hs
  refine (fun ⟨g1, g2, g3⟩ => ⟨g1, g2, fun s q hq => g3 s q (loopω_of (show iterω step _ s = some q from hq))⟩ : LoopOK P ⟨p, outs, loopω step⟩ c sz → LoopOK P ⟨p, outs, loopN step⟩ c sz) ?_
  exact loop_of_round hB.tab hE' hI hD p outs step h1 h2 (fun x hx => ⟨(h3 x hx).1, Nat.ble_eq.mp (h3 x hx).2⟩) h4 n (annOK_of T _ _ _ _ c n _ hJ (hL ▸ hls)) fun s => congrFun hF s
end
end Go.Tat

namespace Go.Tat
set_option linter.unusedVariables false
open Go.ChangeShapes Go.WideShapes Go.ChangeAt Go.RowKit

/-- Slices of what holds no slice, at the most. -/
def Ty.shallow : Ty → Bool
  | .slice e => e.flat
  | .arr _ e => e.flat
  | .prod a b => a.shallow && b.shallow
  | .box a => a.shallow
  | _ => true
/-- What any reading of an argument keeps to. -/
def Ty.rng : (t : Ty) → t.den → Prop
  | .int k, x => k.min ≤ x ∧ x ≤ k.max
  | .bool, _ => True
  | .str, s => ByteArray.size s ≤ 9223372036854775807
  | .slice e, l => List.length l ≤ 9223372036854775807 ∧ ∀ x ∈ (l : List e.den), e.rng x
  | .arr n e, l => List.length l = n ∧ ∀ x ∈ (l : List e.den), e.rng x
  | .prod a b, x => a.rng x.1 ∧ b.rng x.2
  | .box a, x => a.rng x
/-- Does a type's number stand for this plain data? -/
def fits (T : TE) : Nat → TypeId ⊕ List TypeId → Ty → Bool
  | 0, _, _ => false
  | n + 1, .inl t, u => Nat.beq (T.sz t) u.sz && (match u with
    | .int k => (match T.ud t with | .int k' => Nat.beq (ikN k) (ikN k') | _ => false)
    | .bool => (match T.ud t with | .bool => true | _ => false)
    | .str => (match T.ud t with | .str => true | _ => false)
    | .slice e => (match T.ud t with | .slice e' => fits T n (.inl e') e | _ => false)
    | .box a => (match T.ud t with | .strct fs => fits T n (.inr fs) a | _ => false)
    | _ => false)
  | n + 1, .inr fs, u => match fs with
    | [] => false
    | [f] => fits T n (.inl f) u
    | f :: g :: r => match u with
      | .prod x y => fits T n (.inl f) x && fits T n (.inr (g :: r)) y
      | _ => false
def Spot0 (v : Value) : Prop := ∀ a n c, v = .slice (some a) n c → a.spot = none

section
variable {H : Type} {enc : TypeId × Value → H} {P : Program} {T : TE} {W : World} {sp : Nat → Bool} {held : Bool}
theorem cells_spec {b : Addr} {n : Nat} {vs : List Value} (h : W.cells? 0 b n = some vs) : vs.length = n ∧ ∀ k u, vs[k]? = some u → W.cell? (b.add k) = some u := by
  unfold World.cells? at h
  rw [if_pos (Nat.zero_le _)] at h
  have hl : vs.length = n := by simpa using mapM_some_length h
  refine ⟨hl, fun k u hk => ?_⟩
  have hkn : k < n := by rw [← hl]; exact (List.getElem?_eq_some_iff.1 hk).1
  rw [mapM_some_get h k k (by simp [hkn])]
  exact hk
theorem fits_sz {n : Nat} {t : TypeId} {u : Ty} (h : fits T n (.inl t) u = true) : T.sz t = u.sz := by
  cases n with
  | zero => cases h
  | succ n => simp only [fits, Bool.and_eq_true] at h; exact Nat.eq_of_beq_eq_true h.1
theorem fits_cells (hT : TEok P T) {n : Nat} {t : TypeId} {u : Ty} (h : fits T n (.inl t) u = true) : P.cellsOf t = u.sz := by
  have hne : T.ud t ≠ .other := by
    intro he
    cases n with
    | zero => cases h
    | succ n =>
      simp only [fits, Bool.and_eq_true] at h
      have h2 := h.2
      cases u <;> simp only [he] at h2 <;> cases h2
  obtain ⟨i, d, h1, _, _, h2, _⟩ := hT.info t hne
  rw [← fits_sz h, ← h2]
  simp [Program.cellsOf, h1]
theorem wf_rng {k : IntKind} {n : Int} (h : (Lit.int k n).wf = true) : k.min ≤ n ∧ n ≤ k.max := by
  simp only [Lit.wf, Bool.and_eq_true, decide_eq_true_eq] at h; exact h

/-- WHAT IS READ AS DATA IS PLAIN DATA. -/
theorem trod_CR (hT : TEok P T) : ∀ (n : Nat),
    (∀ (t : TypeId) (u : Ty), fits T n (.inl t) u = true → ∀ (fuel : Nat) (cs : List Value) (x : DataW H × List MemPlace), DataW.trod enc P W 0 sp held fuel t cs = some x → (u.flat = true ∨ (u.shallow = true ∧ ∀ v ∈ cs, Spot0 v)) →
      ∃ y : u.den, CR W (fun _ => False) u y cs ∧ u.rng y) ∧
    (∀ (fs : List TypeId) (u : Ty) (o : Nat) (cs : List Value), fits T n (.inr fs) u = true → (∀ (i : Nat) (p : Nat × Nat × TypeId), (offsOf T fs o)[i]? = some p → ∃ fuel x, DataW.trod enc P W 0 sp held fuel p.2.2 ((cs.drop p.1).take p.2.1) = some x) →
      cs.length = o + u.sz → (u.flat = true ∨ (u.shallow = true ∧ ∀ v ∈ cs, Spot0 v)) → ∃ y : u.den, CR W (fun _ => False) u y (cs.drop o) ∧ u.rng y)
  | 0 => ⟨fun t u h => (by cases h), fun fs u o cs h => (by cases h)⟩
  | n + 1 => by
    obtain ⟨ih1, ih2⟩ := trod_CR hT n
    refine ⟨fun t u h fuel cs x hx hs => ?_, fun fs u o cs h hx hl hs => ?_⟩
    · have hcells := fits_cells hT h
      simp only [fits, Bool.and_eq_true] at h
      obtain ⟨hsz, h⟩ := h
      cases u with
      | int k =>
        simp only at h
        split at h
        · rename_i k' hu
          obtain ⟨d, hd, ho⟩ := hT.und hu (by simp)
          have hk := ikN_inj h
          subst hk
          rw [show d = .int k from ho] at hd
          obtain ⟨m, rfl, rfl, hw⟩ := DataW.trod_int hd hx
          exact ⟨m, rfl, wf_rng hw⟩
        · cases h
      | bool =>
        simp only at h
        split at h
        · rename_i hu
          obtain ⟨d, hd, ho⟩ := hT.und hu (by simp)
          rw [show d = .bool from ho] at hd
          obtain ⟨m, rfl, rfl⟩ := DataW.trod_bool hd hx
          exact ⟨m, rfl, trivial⟩
        · cases h
      | str =>
        simp only at h
        split at h
        · rename_i hu
          obtain ⟨d, hd, ho⟩ := hT.und hu (by simp)
          rw [show d = .string from ho] at hd
          obtain ⟨m, rfl, rfl, hw⟩ := DataW.trod_string hd hx
          exact ⟨m, rfl, hw⟩
        · cases h
      | slice e =>
        simp only at h
        split at h
        · rename_i e' hu
          obtain ⟨d, hd, ho⟩ := hT.und hu (by simp)
          rw [show d = .slice e' from ho] at hd
          rcases DataW.trod_slice hd hx with ⟨rfl, rfl⟩ | ⟨a, len, cap, elems, rest, m, rfl, rfl, rfl, hb, hlc, hcm, hel, hev, _, _⟩
          · exact ⟨([] : List e.den), ⟨none, 0, rfl, Nat.le_refl _, rfl⟩, by simp [Ty.rng]⟩
          · have hs' := hs.resolve_left (by simp [Ty.flat])
            have hspot : a.spot = none := hs'.2 _ (by simp) a len cap rfl
            have hce := fits_cells hT h
            have build : ∀ k, k ≤ len → ∃ (l : List e.den) (xs : List Value), l.length = k ∧ xs.length = k * e.sz ∧ CRL (CR W (fun _ => False) e) l xs ∧ (∀ y ∈ l, e.rng y) ∧ ∀ (j : Nat) u, xs[j]? = some u → W.cell? (a.add j) = some u := by
              intro k
              induction k with
              | zero => exact fun _ => ⟨[], [], rfl, by simp, CRL.nil, fun y hy => (by cases hy), fun j u hj => (by simp at hj)⟩
              | succ k ih =>
                intro hk
                obtain ⟨l, xs, e1, e2, e3, e4, e5⟩ := ih (by omega)
                have h1 := hev k (by omega)
                have h2 : elems[k]? = some elems[k] := List.getElem?_eq_getElem (by omega)
                rw [h2, Option.bind_eq_some_iff] at h1
                obtain ⟨vs, hvs, htr⟩ := h1
                obtain ⟨g1, g2⟩ := cells_spec hvs
                obtain ⟨y, c1, c2⟩ := ih1 e' e h m vs _ htr (.inl hs'.1)
                rw [hce] at g1 g2
                refine ⟨l ++ [y], xs ++ vs, by simp [e1], by rw [List.length_append, e2, g1, Nat.succ_mul], ?_, fun z hz => ?_, fun j u hj => ?_⟩
                · have h3 := CRL.cons c1 (CRL.nil (R := CR W (fun _ => False) e))
                  rw [List.append_nil] at h3
                  exact CRL.append e3 h3
                · rcases List.mem_append.1 hz with h3 | h3
                  · exact e4 z h3
                  · simp at h3; subst h3; exact c2
                · by_cases hjl : j < xs.length
                  · rw [List.getElem?_append_left hjl] at hj; exact e5 j u hj
                  · rw [List.getElem?_append_right (by omega)] at hj
                    have := g2 _ u hj
                    rw [Addr.add_add] at this
                    rwa [show k * e.sz + (j - xs.length) = j by omega] at this
            obtain ⟨l, xs, e1, e2, e3, e4, e5⟩ := build len (Nat.le_refl _)
            refine ⟨l, ⟨some a, cap, by rw [e1], by rw [e1]; exact hlc, hspot, xs, e3, fun j u hj => ⟨e5 j u hj, fun hf => hf⟩⟩, ?_, e4⟩
            show l.length ≤ _
            rw [e1]
            exact Nat.le_trans hlc hcm
        · cases h
      | box b =>
        simp only at h
        split at h
        · rename_i fs hu
          obtain ⟨d, hd, ho⟩ := hT.und hu (by simp)
          obtain ⟨fields, rfl, hmap, hinf⟩ := ho
          obtain ⟨xs, m, rfl, rfl, hlen, hxl, hf⟩ := DataW.trod_struct hd hx
          have hsz' : b.sz = (Ty.box b).sz := rfl
          obtain ⟨y, c1, c2⟩ := ih2 fs b 0 cs h (fun i p hp => by
            rw [← hmap] at hp
            rw [List.getElem?_map, Option.map_eq_some_iff] at hp
            obtain ⟨f, hfi, rfl⟩ := hp
            have hfi' : fields[i]? = some f := by simpa using hfi
            have h1 := hf i f hfi'
            have hil : i < xs.length := by rw [hxl]; exact (Array.getElem?_eq_some_iff.1 hfi').1
            rw [List.getElem?_eq_getElem hil] at h1
            obtain ⟨i0, hi0, hi1⟩ := hinf f (List.mem_of_getElem? hfi)
            have hco : P.cellsOf f.type = T.sz f.type := by simp [Program.cellsOf, hi0, hi1]
            rw [hco] at h1
            exact ⟨m, _, h1⟩) (by rw [hlen, hcells, Nat.zero_add]; rfl) hs
          rw [List.drop_zero] at c1
          exact ⟨y, c1, c2⟩
        · cases h
      | arr m e => cases h
      | prod a b => cases h
    · simp only [fits] at h
      split at h
      · cases h
      · rename_i f
        obtain ⟨fuel, x, hx⟩ := hx 0 (o, T.sz f, f) rfl
        simp only [fits_sz h] at hx
        rw [List.take_of_length_le (by rw [List.length_drop]; omega)] at hx
        exact ih1 f u h fuel _ x hx (hs.imp id fun ⟨h1, h2⟩ => ⟨h1, fun v hv => h2 v (List.mem_of_mem_drop hv)⟩)
      · rename_i f g r
        split at h
        · rename_i a b
          simp only [Bool.and_eq_true] at h
          have hsz : (Ty.prod a b).sz = a.sz + b.sz := rfl
          rw [hsz] at hl
          have hsa : a.flat = true ∨ (a.shallow = true ∧ ∀ v ∈ cs, Spot0 v) := hs.imp (fun h1 => by simp only [Ty.flat, Bool.and_eq_true] at h1; exact h1.1) (fun h1 => by have := h1.1; simp only [Ty.shallow, Bool.and_eq_true] at this; exact ⟨this.1, h1.2⟩)
          have hsb : b.flat = true ∨ (b.shallow = true ∧ ∀ v ∈ cs, Spot0 v) := hs.imp (fun h1 => by simp only [Ty.flat, Bool.and_eq_true] at h1; exact h1.2) (fun h1 => by have := h1.1; simp only [Ty.shallow, Bool.and_eq_true] at this; exact ⟨this.2, h1.2⟩)
          obtain ⟨fuel, x, hx0⟩ := hx 0 (o, T.sz f, f) rfl
          simp only [fits_sz h.1] at hx0
          obtain ⟨y1, c1, c2⟩ := ih1 f a h.1 fuel _ x hx0 (hsa.imp id fun ⟨h1, h2⟩ => ⟨h1, fun v hv => h2 v (List.mem_of_mem_drop (List.mem_of_mem_take hv))⟩)
          obtain ⟨y2, d1, d2⟩ := ih2 (g :: r) b (o + a.sz) cs h.2 (fun i p hp => hx (i + 1) p (by
            rw [offsOf, List.getElem?_cons_succ, fits_sz h.1]; exact hp)) (by omega) hsb
          refine ⟨(y1, y2), ⟨_, _, ?_, c1, d1⟩, c2, d2⟩
          rw [← List.drop_drop, List.take_append_drop]
        · cases h

theorem okWide_spot {r : Reach} {b : Nat} {u : TypeId} {v : Value} (h : Cell.okWide P W r b u v) : Spot0 v := by
  intro a n c hv
  subst hv
  unfold Cell.okWide at h
  unfold Cell.ok at h
  unfold World.has at h
  cases hu : P.underlying u with
  | none => simp [hu] at h
  | some d => cases d <;> simp [hu] at h <;> exact h.2.2.2.1
end
end Go.Tat

namespace Go.Tat
set_option linter.unusedVariables false
open Go.ChangeShapes Go.WideShapes Go.ChangeAt Go.RowKit
section
variable {H : Type} {enc : TypeId × Value → H} {P : Program} {T : TE} {W : World} {sp : Nat → Bool} {held : Bool}

theorem trod_VR (hT : TEok P T) {n : Nat} {t : TypeId} {u : Ty} (hf : fits T n (.inl t) u = true) (hsh : u.shallow = true) {r : Reach} {b : Nat} {v : Value} {d : DataW H} {ps : List MemPlace} (hok : Value.okWide P W r b t v)
    (h : DataW.Trod enc P W 0 sp held t v d ps) (μ : Mu) (U : Nat → Prop) : ∃ y : u.den, VR W (fun _ => False) μ U (.d u y) v ∧ u.rng y := by
  obtain ⟨fuel, h⟩ := h
  have hf0 := hf
  cases n with
  | zero => cases hf
  | succ n =>
    simp only [fits, Bool.and_eq_true] at hf
    have one : ∀ d', P.underlying t = some d' → (match d' with | .struct _ | .array _ _ | .interface _ | .map _ _ | .func _ _ _ | .chan _ _ | .unsafePointer => False | _ => True) → u.agg = false → ∃ y : u.den, VR W (fun _ => False) μ U (.d u y) v ∧ u.rng y := fun d' hd hnot hag => by
      have hc : Cell.okWide P W r b t v := by
        unfold Value.okWide at hok
        rw [hd] at hok
        cases d' <;> simp_all
      have hone : v.cells.toList = [v] := by
        cases v with
        | agg cs =>
          unfold Cell.okWide at hc
          unfold Cell.ok at hc
          rw [hd] at hc
          cases d' <;> simp_all
        | _ => rfl
      rw [hone] at h
      obtain ⟨y, c1, c2⟩ := (trod_CR hT (n + 1)).1 t u hf0 fuel _ _ h (.inr ⟨hsh, fun v' hv' => by simp at hv'; subst hv'; exact okWide_spot hc⟩)
      refine ⟨y, ?_, c2⟩
      rw [VR_d, hag]; exact c1
    cases u with
    | int k =>
      have h2 := hf.2
      simp only at h2; split at h2
      · rename_i k' hu
        obtain ⟨d', hd, ho⟩ := hT.und hu (by simp)
        rw [show d' = .int k' from ho] at hd
        exact one _ hd trivial rfl
      · cases h2
    | bool =>
      have h2 := hf.2
      simp only at h2; split at h2
      · rename_i hu
        obtain ⟨d', hd, ho⟩ := hT.und hu (by simp)
        rw [show d' = .bool from ho] at hd
        exact one _ hd trivial rfl
      · cases h2
    | str =>
      have h2 := hf.2
      simp only at h2; split at h2
      · rename_i hu
        obtain ⟨d', hd, ho⟩ := hT.und hu (by simp)
        rw [show d' = .string from ho] at hd
        exact one _ hd trivial rfl
      · cases h2
    | slice e =>
      have h2 := hf.2
      simp only at h2; split at h2
      · rename_i e' hu
        obtain ⟨d', hd, ho⟩ := hT.und hu (by simp)
        rw [show d' = .slice e' from ho] at hd
        exact one _ hd trivial rfl
      · cases h2
    | box a =>
      have h2 := hf.2
      simp only at h2; split at h2
      · rename_i fs hu
        obtain ⟨d', hd, ho⟩ := hT.und hu (by simp)
        obtain ⟨fields, rfl, _⟩ := ho
        unfold Value.okWide at hok
        rw [hd] at hok
        obtain ⟨cs, rfl, hsz, ts, _, _, hcell⟩ := hok
        obtain ⟨y, c1, c2⟩ := (trod_CR hT (n + 1)).1 t _ hf0 fuel _ _ h (.inr ⟨hsh, fun v' hv' => by
          obtain ⟨i, hi⟩ := List.getElem?_of_mem hv'
          obtain ⟨u', _, hu'⟩ := hcell i v' (by simpa [Value.cells] using hi)
          exact okWide_spot hu'⟩)
        exact ⟨y, by rw [VR_d1 rfl]; exact ⟨cs, rfl, c1⟩, c2⟩
      · cases h2
    | arr m e => cases hf.2
    | prod a b => cases hf.2

def fitsAll (T : TE) : List TypeId → List Ty → Bool
  | [], [] => true
  | t :: ts, u :: us => fits T 60 (.inl t) u && (u.shallow && fitsAll T ts us)
  | _, _ => false
theorem trodAll_VR (hT : TEok P T) {r : Reach} {b : Nat} (μ : Mu) (U : Nat → Prop) : ∀ (ts : List TypeId) (us : List Ty) (vs : List Value) (ds : List (DataW H)) (ps : List MemPlace), fitsAll T ts us = true → DataW.TrodAll enc P W 0 sp held ts vs ds ps →
    (∀ (j : Nat) t v, ts[j]? = some t → vs[j]? = some v → Value.okWide P W r b t v) →
    ∃ dvs : List DV, dvs.map (·.1) = us ∧ VRs W (fun _ => False) μ U (dvs.map fun d => AV.d d.1 d.2) vs ∧ ∀ d ∈ dvs, d.1.rng d.2
  | [], [], vs, ds, ps, _, h, _ => by
    cases vs <;> cases ds <;> simp [DataW.TrodAll] at h
    exact ⟨[], rfl, by simp [VRs], fun d hd => by cases hd⟩
  | [], _ :: _, vs, ds, ps, hf, _, _ => by cases hf
  | _ :: _, [], vs, ds, ps, hf, _, _ => by cases hf
  | t :: ts, u :: us, vs, ds, ps, hf, h, hval => by
    simp only [fitsAll, Bool.and_eq_true] at hf
    obtain ⟨v, vs', d, ds', p, q, rfl, rfl, rfl, h1, h2⟩ := trodAll_cons h
    obtain ⟨y, e1, e2⟩ := trod_VR hT hf.1 hf.2.1 (hval 0 t v rfl rfl) h1 μ U
    obtain ⟨dvs, g1, g2, g3⟩ := trodAll_VR hT μ U ts us vs' ds' q hf.2.2 h2 (fun j t' v' hj hv => hval (j + 1) t' v' (by simpa using hj) (by simpa using hv))
    refine ⟨⟨u, y⟩ :: dvs, by simp [g1], ?_, fun d' hd' => ?_⟩
    · rw [List.map_cons]; unfold VRs; exact ⟨v, vs', rfl, e1, g2⟩
    · cases hd' with
      | head => exact e2
      | tail _ hd' => exact g3 d' hd'
theorem pack_of : ∀ (ts : List Ty) (dvs : List DV), dvs.map (·.1) = ts → ∃ s, pack ts dvs = some s
  | [], [], _ => ⟨(), rfl⟩
  | [], _ :: _, h => by cases h
  | [t], [], h => by cases h
  | [t], [⟨u, x⟩], h => by
    simp at h; subst h
    exact ⟨x, castD_self _ _⟩
  | [t], _ :: _ :: _, h => by simp at h
  | t :: v :: r, [], h => by cases h
  | t :: v :: r, ⟨u, x⟩ :: ds, h => by
    simp only [List.map_cons, List.cons.injEq] at h
    obtain ⟨h1, h2⟩ := h
    subst h1
    obtain ⟨s, hs⟩ := pack_of (v :: r) ds h2
    exact ⟨(x, s), by simp only [pack, castD_self, hs]⟩
theorem borTys : ∀ us : List Ty, SK.tys (us.map SK.bor) = us
  | [] => rfl
  | u :: us => by simp only [List.map_cons, SK.tys, borTys us]
theorem putBor {mu : Nat → Nat} : ∀ (us : List Ty) (dvs : List DV), dvs.length = us.length → putSK mu (us.map SK.bor) dvs = some (dvs.map fun d => AV.d d.1 d.2, [])
  | [], [], _ => rfl
  | [], _ :: _, h => by cases h
  | u :: us, [], h => by cases h
  | u :: us, ⟨t, x⟩ :: dvs, h => by
    simp only [List.map_cons, putSK, putBor us dvs (by simpa using h)]
theorem HS_empty (W : World) (B0 : Nat → Prop) (μ : Mu) : HS W B0 (fun _ => False) W μ (fun j => j < 0) [] :=
  ⟨fun i => trivial, fun i j b h => (by cases h), fun i b h => (by cases h), fun i cs h => (by cases h), fun i => .inl rfl, fun b h => h.elim, Grew.refl W, fun b _ _ => rfl⟩
theorem MM_empty (μ : Mu) : MM (fun _ => False) μ [] = fun _ => False := by
  funext b
  apply propext
  constructor
  · rintro (h | ⟨i, h⟩)
    · exact h
    · cases h
  · exact fun h => h.elim
theorem trodAll_stays (hl : laidOutB P = true) {W' : World} (hb : Below W.heap.size W W') {sp' : Nat → Bool} : ∀ (ts : List TypeId) (vs : List Value) (ds : List (DataW H)) (ps : List MemPlace), (∀ t ∈ ts, P.readableRec t = true ∧ t < P.types.size) →
    DataW.TrodAll enc P W 0 (fun _ => true) true ts vs ds ps → (∀ x ∈ ps, x.block < W.heap.size) → (∀ x ∈ ps, sp' x.block = true) → DataW.TrodAll enc P W' 0 sp' true ts vs ds ps
  | [], vs, ds, ps, _, h, _, _ => by cases vs <;> cases ds <;> simp [DataW.TrodAll] at h ⊢; exact h
  | t :: ts, vs, ds, ps, hr, h, hlt, hsp => by
    obtain ⟨v, vs', d, ds', p, q, rfl, rfl, rfl, h1, h2⟩ := trodAll_cons h
    have ht := hr t (by simp)
    exact ⟨p, q, WideElems.Trod_stays hl ht.1 ht.2 h1 (fun x hx => hb.same (hlt x (List.mem_append_left _ hx))) (fun x hx => hsp x (List.mem_append_left _ hx)),
      trodAll_stays hl hb ts vs' ds' q (fun t' ht' => hr t' (by simp [ht'])) h2 (fun x hx => hlt x (List.mem_append_right _ hx)) (fun x hx => hsp x (List.mem_append_right _ hx)), rfl⟩
theorem trodAll_len : ∀ (ts : List TypeId) (vs : List Value) (ds : List (DataW H)) (ps : List MemPlace), DataW.TrodAll enc P W 0 sp held ts vs ds ps → ds.length = ts.length
  | [], vs, ds, ps, h => by cases vs <;> cases ds <;> simp [DataW.TrodAll] at h ⊢
  | t :: ts, vs, ds, ps, h => by
    obtain ⟨v, vs', d, ds', p, q, rfl, rfl, rfl, h1, h2⟩ := trodAll_cons h
    simp [trodAll_len ts vs' ds' q h2]

/-- 'post_of_same', the frozen cells asked of the places alone. -/
theorem post_of_same_at {f : Func} {s : ChangeSpec} {apart fresh handsOn again : Bool} {W W' : World} {args : Array Value} {v : Value} {ds gs : List (DataW H)} {before pa pv : List MemPlace}
    (hW : DataW.Whole enc P f.params.toList s.vars apart W args.toList ds gs before)
    (hres : ∀ (b : Nat) (sp : Nat → Bool) (hd : Bool), DataW.TrodAll enc P W' b sp hd f.resultTypes.toList (v.resultList f.resultTypes.size) (s.fn H (ds ++ gs)).results [])
    (hargs : ∀ sp : Nat → Bool, (∀ p ∈ before, sp p.block = true) → DataW.TrodAll enc P W' 0 sp true f.params.toList args.toList (s.fn H (ds ++ gs)).args pa)
    (hvars : ∀ sp : Nat → Bool, (∀ p ∈ before, sp p.block = true) → DataW.TrodVars enc P W' sp s.vars (s.fn H (ds ++ gs)).vars pv)
    (hps : before = pa ++ pv) (hk : W.keptBut W' (· ∈ before)) (hfz : ∀ b off, MemPlace.cell b off ∈ before → W'.frozen? ⟨b, off, none⟩ = W.frozen? ⟨b, off, none⟩)
    (hok : ∀ (j : Nat) (t : TypeId) (r : Value), f.resultTypes[j]? = some t → (v.resultList f.resultTypes.size)[j]? = some r → Value.okWide P W' .any 0 t r) :
    s.post enc P f apart fresh handsOn again W args v W' := by
  have hold : ∀ p ∈ before, (fun b => decide (b < W.heap.size)) p.block = true := fun p hp => by simpa using hW.lt p hp
  refine ⟨ds, gs, before, [], pa, pv, hW, hres _ _ _, hargs _ hold, hvars _ hold, World.keptBut_mono (fun p hp => ⟨hp, ?_⟩) hk, fun _ => ?_⟩
  · rw [hps, List.mem_append] at hp
    exact Or.inr hp
  · obtain ⟨_, _, _, _, _, hz, hn⟩ := hW
    refine ⟨hok, _, _, ([] ++ pa) ++ pv, ⟨[] ++ pa, pv, trodAll_append (hargs _ (fun _ _ => rfl)) (hres _ _ _), hvars _ (fun _ _ => rfl), rfl, ?_, ?_⟩, ?_⟩
    · intro b off hp
      have hp' : MemPlace.cell b off ∈ before := by rw [hps]; simpa using hp
      rw [hfz b off hp']
      exact hz b off hp'
    · intro ha
      have := hn ha
      rw [hps] at this
      simpa using this
    · intro p hp _
      rw [hps]
      simpa using hp
/-- A LAW's CONTRACT. -/
theorem law_contract (hT : TEok P T) (hlay : laidOutB P = true) {f : FuncId} {fn : Func} (us : List Ty) (F : denT (Pat.tys ⟨us.map SK.bor, []⟩) → Option Bool)
    (he : EntryOK P f ⟨⟨us.map SK.bor, []⟩, ⟨[.data .bool], []⟩, F⟩)
    (hfit : (fitsAll T fn.params.toList us && fn.params.toList.all (fun t => P.readableRec t && Nat.blt t P.types.size)) = true)
    {tb : TypeId} (hres : fn.resultTypes = #[tb]) (htb : P.underlying tb = some .bool)
    (hF : ∀ s, (∀ d ∈ unpack _ s, d.1.rng d.2) → F s = some true)
    {s : ChangeSpec} (hv : s.vars = []) (hspec : ∀ ds : List (DataW H), ds.length = fn.params.size → s.fn H (ds ++ []) = { results := [.lit (.bool true)], args := ds })
    {base : Nat} {args : Array Value} {ds gs : List (DataW H)} {before : List MemPlace}
    (hval : ∀ (j : Nat) t v, fn.params[j]? = some t → args[j]? = some v → Value.okWide P W .any base t v)
    (hW : DataW.Whole enc P fn.params.toList s.vars false W args.toList ds gs before) :
    Calls P f args W fun e W' => ∃ v, e = .returned v ∧ s.post enc P fn false true false false W args v W' := by
  simp only [Bool.and_eq_true, List.all_eq_true] at hfit
  obtain ⟨hfit, hread⟩ := hfit
  have hW' := hW
  obtain ⟨p, q, hA, hV, rfl, hfz, hnd⟩ := hW
  rw [hv] at hV
  obtain ⟨rfl, rfl⟩ := trodVars_none hV
  have hlen := trodAll_len _ _ _ _ hA
  obtain ⟨dvs, g1, g2, g3⟩ := trodAll_VR hT (fun _ => nilHd) (fun j => j < 0) _ us _ _ _ hfit hA (fun j t v hj hvv => hval j t v (by simpa using hj) (by simpa using hvv))
  have htys : Pat.tys ⟨us.map SK.bor, []⟩ = us := by simp [Pat.tys, borTys, OK.tys]
  obtain ⟨sd, hsd⟩ := pack_of (Pat.tys ⟨us.map SK.bor, []⟩) dvs (by rw [htys]; exact g1)
  have hun := pack_unpack _ _ _ hsd
  have hFs := hF sd (by rw [hun]; exact g3)
  have hput : putPat id ⟨us.map SK.bor, []⟩ dvs = some (dvs.map fun d => AV.d d.1 d.2, []) := by
    simp only [putPat, putBor us dvs (by rw [← g1]; simp), putObjs]
  have hprom := he.2.2 sd true hFs W (fun _ => False) args.toList (fun _ => nilHd) (by
    rw [hun]
    exact ⟨_, _, hput, by rw [MM_empty]; exact g2, HS_empty W _ _⟩)
  refine Calls.mono hprom fun e W' ⟨vs, ν', hee, hrep, hgr, hkeep, _, _⟩ => ?_
  obtain ⟨avs, hh, hp2, hv2, _⟩ := hrep
  have hp3 : putPat id ⟨[.data .bool], []⟩ (unpack (Pat.tys ⟨[.data .bool], []⟩) true) = some ([AV.d .bool true], []) := rfl
  rw [hp3] at hp2
  cases hp2
  unfold VRs at hv2
  obtain ⟨v, vs', rfl, hvb, hv3⟩ := hv2
  unfold VRs at hv3
  subst hv3
  rw [VR_bool] at hvb
  subst hvb
  have hbel : Below W.heap.size W W' := ⟨hgr.os, hgr.tape, hgr.output, hgr.le, fun k hk => hkeep k hk (fun ⟨i, hi⟩ => by
    rw [hun, PH_eq hput] at hi; cases hi)⟩
  have hlt : ∀ x ∈ p ++ [], x.block < W.heap.size := fun x hx => by simpa using hW'.lt x hx
  refine ⟨.bool true, hee, post_of_same_at (pa := p) (pv := []) hW' (fun b sp hd => ?_) (fun sp hsp => ?_) (fun sp _ => ?_) rfl (hbel.frame _) (fun b off hp => ?_) (ok_one hres rfl (okWide_bool_mk htb true))⟩
  · rw [hspec ds (by rw [hlen]; simp), hres]
    exact trodAll_mk1 (shut_bool htb true)
  · rw [hspec ds (by rw [hlen]; simp)]
    exact trodAll_stays hlay hbel _ _ _ _ (fun t ht => ⟨(hread t ht).1, Nat.blt_eq.mp (hread t ht).2⟩) hA (fun x hx => hlt x (by simpa using hx)) (fun x hx => hsp x (by simpa using hx))
  · rw [hspec ds (by rw [hlen]; simp), hv]
    rfl
  · exact hbel.frozen (p := ⟨b, off, none⟩) (hlt _ hp)
end
end Go.Tat

namespace Go.Tat
set_option linter.unusedVariables false
def wr (k : IntKind) (x : Int) : Int := k.wrap x
def pow2 (m : Nat) : Int := 2 ^ m
def bAnd (k : IntKind) (x y : Int) : Int := k.wrap ((BitVec.ofInt k.bits x &&& BitVec.ofInt k.bits y).toNat : Int)
def bOr (k : IntKind) (x y : Int) : Int := k.wrap ((BitVec.ofInt k.bits x ||| BitVec.ofInt k.bits y).toNat : Int)
def bXor (k : IntKind) (x y : Int) : Int := k.wrap ((BitVec.ofInt k.bits x ^^^ BitVec.ofInt k.bits y).toNat : Int)
def bAndNot (k : IntKind) (x y : Int) : Int := k.wrap ((BitVec.ofInt k.bits x &&& ~~~(BitVec.ofInt k.bits y)).toNat : Int)
def bNot (k : IntKind) (n : Int) : Int := k.wrap ((BitVec.ofInt k.bits (if k.signed then -1 else k.max) ^^^ BitVec.ofInt k.bits n).toNat : Int)
def strOf (l : List Int) : ByteArray := ⟨(l.map fun n => UInt8.ofNat (Int.toNat n)).toArray⟩

theorem iLtGe (a b : Int) : a < b ∨ b ≤ a := by omega
theorem wr_i64 {x : Int} (h1 : -9223372036854775808 ≤ x) (h2 : x ≤ 9223372036854775807) : wr .i64 x = x := by
  simp [wr, IntKind.wrap, IntKind.bits, IntKind.signed]
  split <;> omega
theorem wr_u64_mod (x : Int) : wr .u64 x = x % 18446744073709551616 := by
  simp [wr, IntKind.wrap, IntKind.bits, IntKind.signed]
theorem wr_u64 {x : Int} (h1 : 0 ≤ x) (h2 : x ≤ 18446744073709551615) : wr .u64 x = x := by
  rw [wr_u64_mod]; omega
theorem wr_u8 {x : Int} (h1 : 0 ≤ x) (h2 : x ≤ 255) : wr .u8 x = x := by
  simp [wr, IntKind.wrap, IntKind.bits, IntKind.signed]; omega
theorem wr_u64_rng (x : Int) : 0 ≤ wr .u64 x ∧ wr .u64 x ≤ 18446744073709551615 := by
  rw [wr_u64_mod]; omega
/-- One round of a loop. -/
theorem iterω_inl {S O : Type} {step : S → Option (S ⊕ O)} {n : Nat} {s s' : S} (h : step s = some (.inl s')) : iterω step (n + 1) s = iterω step n s' := by simp only [iterω, h]
theorem iterω_inr {S O : Type} {step : S → Option (S ⊕ O)} {n : Nat} {s : S} {o : O} (h : step s = some (.inr o)) : iterω step (n + 1) s = some o := by simp only [iterω, h]
/-! ### Loops over a list -/
/-- What a loop over a list comes to: element by element, its number at hand. -/
def foldE {E A O : Type} (f : Nat → E → A → A ⊕ O) (fin : A → O) : Nat → List E → A → O
  | _, [], a => fin a
  | i, x :: r, a => match f i x a with
    | .inl a' => foldE f fin (i + 1) r a'
    | .inr o => o
theorem loop_list {S O A E : Type} {step : S → Option (S ⊕ O)} {l : List E} (mk : Nat → A → S) (f : Nat → E → A → A ⊕ O) (fin : A → O) (Inv : Nat → A → Prop)
    (hs : ∀ i a x, l[i]? = some x → Inv i a → step (mk i a) = some (match f i x a with | .inl a' => .inl (mk (i + 1) a') | .inr o => .inr o))
    (hi : ∀ i x a a', l[i]? = some x → Inv i a → f i x a = .inl a' → Inv (i + 1) a')
    (he : ∀ a, Inv l.length a → step (mk l.length a) = some (.inr (fin a))) :
    ∀ (r pre : List E) (a : A), l = pre ++ r → Inv pre.length a → iterω step (r.length + 1) (mk pre.length a) = some (foldE f fin pre.length r a)
  | [], pre, a, hl, hv => by
    rw [List.append_nil] at hl; subst hl
    exact iterω_inr (he a hv)
  | x :: r, pre, a, hl, hv => by
    have hx : l[pre.length]? = some x := by rw [hl]; simp
    have h1 := hs pre.length a x hx hv
    simp only [foldE, List.length_cons]
    cases hf : f pre.length x a with
    | inl a' =>
      rw [hf] at h1
      rw [iterω_inl h1]
      have := loop_list mk f fin Inv hs hi he r (pre ++ [x]) a' (by rw [hl]; simp) (by simpa using hi _ x a a' hx hv hf)
      simpa using this
    | inr o =>
      rw [hf] at h1
      rw [iterω_inr h1]
/-- The whole loop. -/
theorem loopN_list {S O A E : Type} {step : S → Option (S ⊕ O)} {l : List E} (mk : Nat → A → S) (f : Nat → E → A → A ⊕ O) (fin : A → O) (Inv : Nat → A → Prop) (hl : l.length ≤ 9223372036854775807)
    (hs : ∀ i a x, l[i]? = some x → Inv i a → step (mk i a) = some (match f i x a with | .inl a' => .inl (mk (i + 1) a') | .inr o => .inr o))
    (hi : ∀ i x a a', l[i]? = some x → Inv i a → f i x a = .inl a' → Inv (i + 1) a')
    (he : ∀ a, Inv l.length a → step (mk l.length a) = some (.inr (fin a))) (a : A) (h0 : Inv 0 a) : loopN step (mk 0 a) = some (foldE f fin 0 l a) :=
  loopN_of (loop_list mk f fin Inv hs hi he l [] a rfl h0) (by omega)
theorem at_lt {E : Type} {l : List E} {i : Nat} {x : E} (h : l[i]? = some x) : i < l.length := (List.getElem?_eq_some_iff.1 h).1
theorem at_getD {E : Type} {l : List E} {i : Nat} {x d : E} (h : l[i]? = some x) : List.getD l i d = x := by rw [List.getD_eq_getElem?_getD, h]; rfl
theorem dT {p : Prop} [Decidable p] (h : p) : decide p = true := decide_eq_true h
theorem dF {p : Prop} [Decidable p] (h : ¬ p) : decide p = false := decide_eq_false h
theorem toNat_cast (n : Nat) : Int.toNat (n : Int) = n := rfl
theorem wr_succ {n : Nat} (h : n < 9223372036854775807) : wr .i64 ((n : Int) + 1) = ((n + 1 : Nat) : Int) := by rw [wr_i64 (by omega) (by omega)]; rfl
end Go.Tat

namespace Go.Tat
set_option linter.unusedVariables false

/-- One element put in. -/
def insBy {α : Type} (lt : α → α → Bool) (x : α) : List α → List α
  | [] => [x]
  | y :: r => cond (lt y x) (y :: insBy lt x r) (x :: y :: r)
def sortBy {α : Type} (lt : α → α → Bool) : List α → List α
  | [] => []
  | x :: r => insBy lt x (sortBy lt r)
section
variable {α : Type} {lt : α → α → Bool}
theorem insBy_perm (x : α) : ∀ l : List α, (insBy lt x l).Perm (x :: l)
  | [] => .refl _
  | y :: r => by
    simp only [insBy]
    cases lt y x with
    | true => exact ((insBy_perm x r).cons y).trans (.swap x y r)
    | false => exact .refl _
theorem sortBy_perm : ∀ l : List α, (sortBy lt l).Perm l
  | [] => .refl _
  | x :: r => (insBy_perm x _).trans ((sortBy_perm r).cons x)
theorem insBy_mem {x z : α} {l : List α} : z ∈ insBy lt x l ↔ z = x ∨ z ∈ l := by rw [(insBy_perm x l).mem_iff]; simp
theorem insBy_sorted (htr : ∀ x y z, lt y x = false → lt z y = false → lt z x = false) (hir : ∀ x y, lt x y = true → lt y x = false) (x : α) : ∀ l : List α, l.Pairwise (fun a b => lt b a = false) → (insBy lt x l).Pairwise (fun a b => lt b a = false)
  | [], _ => by simp [insBy]
  | y :: r, h => by
    rw [List.pairwise_cons] at h
    simp only [insBy]
    cases hyx : lt y x with
    | true =>
      simp only [cond_true]
      rw [List.pairwise_cons]
      refine ⟨fun z hz => ?_, insBy_sorted htr hir x r h.2⟩
      rcases insBy_mem.1 hz with rfl | hz
      · exact hir _ _ hyx
      · exact h.1 z hz
    | false =>
      simp only [cond_false]
      rw [List.pairwise_cons, List.pairwise_cons]
      exact ⟨fun z hz => by
        cases hz with
        | head => exact hyx
        | tail _ hz => exact htr _ _ _ hyx (h.1 z hz), h.1, h.2⟩
theorem sortBy_sorted (htr : ∀ x y z, lt y x = false → lt z y = false → lt z x = false) (hir : ∀ x y, lt x y = true → lt y x = false) : ∀ l : List α, (sortBy lt l).Pairwise (fun a b => lt b a = false)
  | [] => List.Pairwise.nil
  | x :: r => insBy_sorted htr hir x _ (sortBy_sorted htr hir r)
/-- Two sorted lists of the same members are one. -/
theorem sorted_unique (han : ∀ x y, lt x y = false → lt y x = false → x = y) : ∀ (l m : List α), l.Perm m → l.Pairwise (fun a b => lt b a = false) → m.Pairwise (fun a b => lt b a = false) → l = m
  | [], m, h, _, _ => by rw [List.nil_perm.1 h]
  | x :: l, [], h, _, _ => by simp at h
  | x :: l, y :: m, h, hl, hm => by
    rw [List.pairwise_cons] at hl hm
    have hxy : x = y := by
      have h1 : x ∈ y :: m := h.mem_iff.1 (by simp)
      have h2 : y ∈ x :: l := h.mem_iff.2 (by simp)
      cases h1 with
      | head => rfl
      | tail _ h1 =>
        cases h2 with
        | head => rfl
        | tail _ h2 => exact han x y (hm.1 x h1) (hl.1 y h2)
    subst hxy
    rw [sorted_unique han l m (List.perm_cons x |>.1 h) hl.2 hm.2]
end
end Go.Tat
