/- What is used to prove: an abstract interpreter of the model's code on plain data, and that each of its operations is sound; no condition. -/
import Derived.Calls
import Derived.KernelRfl
import Derived.Orders
import Derived.Maps.AppendAt
import Derived.Laws.Rows
import Derived.Laws.Cells
import Derived.Laws.CopyRow
import Derived.Laws.BytesString
set_option linter.unnecessarySimpa false
set_option linter.unusedSimpArgs false
namespace Go.Tat
set_option linter.unusedVariables false

/-! ### Types of plain data -/
inductive Ty where
  | int (k : IntKind) | bool | str
  | slice (e : Ty) | arr (n : Nat) (e : Ty)
  | prod (a b : Ty) | box (a : Ty)

@[reducible] def Ty.den : Ty → Type
  | .int _ => Int
  | .bool => Bool
  | .str => ByteArray
  | .slice e => List e.den
  | .arr _ e => List e.den
  | .prod a b => a.den × b.den
  | .box a => a.den

/-- How many cells of memory it takes. -/
def Ty.sz : Ty → Nat
  | .arr n e => n * e.sz
  | .prod a b => a.sz + b.sz
  | .box a => a.sz
  | _ => 1

def Ty.zero : (t : Ty) → t.den
  | .int _ => (0 : Int)
  | .bool => false
  | .str => (⟨#[]⟩ : ByteArray)
  | .slice _ => []
  | .arr n e => List.replicate n e.zero
  | .prod a b => (a.zero, b.zero)
  | .box a => a.zero

def ikN : IntKind → Nat
  | .i8 => 0 | .i16 => 1 | .i32 => 2 | .i64 => 3 | .u8 => 4 | .u16 => 5 | .u32 => 6 | .u64 => 7

def Ty.beq : Ty → Ty → Bool
  | .int j, .int k => Nat.beq (ikN j) (ikN k)
  | .bool, .bool => true
  | .str, .str => true
  | .slice a, .slice b => Ty.beq a b
  | .arr n a, .arr m b => Nat.beq n m && Ty.beq a b
  | .prod a b, .prod c d => Ty.beq a c && Ty.beq b d
  | .box a, .box b => Ty.beq a b
  | _, _ => false

theorem ikN_inj {j k : IntKind} (h : Nat.beq (ikN j) (ikN k) = true) : j = k := by
  cases j <;> cases k <;> simp_all [ikN, Nat.beq]

theorem Ty.eq_of_beq {a b : Ty} (h : Ty.beq a b = true) : a = b := by
  induction a generalizing b with
  | int j => cases b <;> simp_all [Ty.beq]; exact ikN_inj (by simpa using h)
  | bool => cases b <;> simp_all [Ty.beq]
  | str => cases b <;> simp_all [Ty.beq]
  | slice a ih => cases b <;> simp [Ty.beq] at h; rw [ih h]
  | arr n a ih => cases b <;> simp [Ty.beq] at h; rw [ih h.2, h.1]
  | prod a b ih1 ih2 => cases b <;> simp [Ty.beq] at h; rw [ih1 h.1, ih2 h.2]
  | box a ih => cases b <;> simp [Ty.beq] at h; rw [ih h]

theorem Ty.beq_rfl (a : Ty) : Ty.beq a a = true := by
  induction a <;> simp_all [Ty.beq]

/-- A value at another name of its type. -/
def castD (a b : Ty) (x : a.den) : Option b.den :=
  if h : Ty.beq a b = true then some (cast (congrArg Ty.den (Ty.eq_of_beq h)) x) else none

/-- Are two values the same, field by field? (Of slices it is not asked.) -/
def Ty.eqB : (t : Ty) → t.den → t.den → Bool
  | .int _, a, b => (a : Int) == b
  | .bool, a, b => (a : Bool) == b
  | .str, a, b => (a : ByteArray) == b
  | .prod x y, a, b => x.eqB a.1 b.1 && y.eqB a.2 b.2
  | .box x, a, b => x.eqB a b
  | .slice _, _, _ => false
  | .arr _ _, _, _ => false

/-- May '==' be asked of it? -/
def Ty.eqOk : Ty → Bool
  | .int _ | .bool | .str => true
  | .prod a b => a.eqOk && b.eqOk
  | .box a => a.eqOk
  | _ => false

/-- Is its value of several cells ('agg')? -/
def Ty.agg : Ty → Bool
  | .arr _ _ | .prod _ _ | .box _ => true
  | _ => false

/-- A bool or a struct? -/
def Ty.eqNo : Ty → Bool
  | .bool => true
  | .box _ => true
  | _ => false
/-- Does it hold no slice? -/
def Ty.flat : Ty → Bool
  | .slice _ => false
  | .arr _ e => e.flat
  | .prod a b => a.flat && b.flat
  | .box a => a.flat
  | _ => true

/-! ### A way to a part of a value -/
inductive Path : Ty → Ty → Type where
  | here {t : Ty} : Path t t
  | l {a b t : Ty} (p : Path a t) : Path (.prod a b) t
  | r {a b t : Ty} (p : Path b t) : Path (.prod a b) t
  | b {a t : Ty} (p : Path a t) : Path (.box a) t

def Path.get : {e t : Ty} → Path e t → e.den → t.den
  | _, _, .here, x => x
  | _, _, .l p, x => p.get x.1
  | _, _, .r p, x => p.get x.2
  | _, _, .b p, x => p.get x
def Path.set : {e t : Ty} → Path e t → e.den → t.den → e.den
  | _, _, .here, _, v => v
  | _, _, .l p, x, v => (p.set x.1 v, x.2)
  | _, _, .r p, x, v => (x.1, p.set x.2 v)
  | _, _, .b p, x, v => p.set x v
def Path.off : {e t : Ty} → Path e t → Nat
  | _, _, .here => 0
  | _, _, .l p => p.off
  | .prod a _, _, .r p => a.sz + p.off
  | _, _, .b p => p.off
def Path.comp : {e t u : Ty} → Path e t → Path t u → Path e u
  | _, _, _, .here, q => q
  | _, _, _, .l p, q => .l (p.comp q)
  | _, _, _, .r p, q => .r (p.comp q)
  | _, _, _, .b p, q => .b (p.comp q)

/-- Field f of a struct of n fields. -/
def fieldIn : (n f : Nat) → (t : Ty) → Option ((u : Ty) × Path t u)
  | 0, _, _ => none
  | 1, f, t => cond (Nat.beq f 0) (some ⟨t, .here⟩) none
  | n + 2, f, t => match t with
    | .prod a b => match f with
      | 0 => some ⟨a, .l .here⟩
      | f + 1 => match fieldIn (n + 1) f b with
        | some ⟨u, p⟩ => some ⟨u, .r p⟩
        | none => none
    | _ => none
def fieldOf (n f : Nat) : (t : Ty) → Option ((u : Ty) × Path t u)
  | .box a => match fieldIn n f a with
    | some ⟨u, p⟩ => some ⟨u, .b p⟩
    | none => none
  | _ => none

/-! ### Abstract values and what the call itself made -/
inductive AV where
  | d (t : Ty) (x : t.den)                 -- plain data that nobody changes any more
  | nil                                    -- a slice without room
  | own (id : Nat)                         -- a slice of the call's own, whole
  | ptr (id off : Nat)                     -- a variable's address, or a part's
  | aptr (id : Nat)                        -- an array variable's address
  | rp (id i : Nat) (e t : Ty) (p : Path e t)   -- the address of a part of element i
  | dp (t : Ty) (x : t.den)                -- the address of plain data
  | agg (cs : List AV)                     -- a struct, cell by cell
  | tup (vs : List AV)
  | fn (f : FuncId) (first caps : List AV)
  | map (id : Nat)
  | iter (id : Nat)
  | raw (v : Value)
  | undef

inductive AObj where
  | row (tid : TypeId) (e : Ty) (l : List e.den) (live : Bool)   -- a row of elements; live: it may still be written
  | arr (n : Nat) (e : Ty) (l : List e.den)                      -- an array variable
  | var (cs : List AV) (w : Bool)                                  -- w: it may be written
  | map (k v : Ty) (m : List (k.den × v.den))
  | iter (s : ByteArray) (pos : Nat)
  | dead

abbrev Heap := List (Nat × AObj)
def hget : Heap → Nat → AObj
  | [], _ => .dead
  | (k, o) :: r, i => cond (Nat.beq k i) o (hget r i)
abbrev Slots := List (Nat × AV)
def look : Slots → Nat → AV
  | [], _ => .undef
  | (k, v) :: r, s => cond (Nat.beq k s) v (look r s)

/-- What is known of the program's types. -/
inductive UD where
  | int (k : IntKind) | bool | str | ptr (e : TypeId) | slice (e : TypeId) | arr (n : Nat) (e : TypeId)
  | map (k v : TypeId) | strct (fs : List TypeId) | func | other
structure TE where
  ud : TypeId → UD
  ty : TypeId → Option Ty          -- plain data
  zc : TypeId → Option (List AV)   -- the zero value's cells
  sz : TypeId → Nat
  bytes : TypeId → Nat

/-- Is a type's value of several cells? -/
def aggT (T : TE) (t : TypeId) : Option Bool :=
  match T.ud t with
  | .strct _ => some true
  | .arr _ _ => some true
  | .other => none
  | _ => some false
/-- May it be a map's key? (One cell; what is there is looked up without questions.) -/
def keyIs : UD → Ty → Bool
  | .int k, .int k' => Nat.beq (ikN k) (ikN k')
  | .bool, .bool => true
  | .str, .str => true
  | _, _ => false
/-- What a map has at a key. -/
def mget (a b : Ty) : List (a.den × b.den) → a.den → Option b.den
  | [], _ => none
  | p :: r, x => cond (a.eqB p.1 x) (some p.2) (mget a b r x)
def optD {b : Type} (o : Option b) (z : b) : b := match o with | some y => y | none => z
def optB {b : Type} (o : Option b) : Bool := match o with | some _ => true | none => false
/-- Is it the plain data's type? -/
def tyIs (T : TE) (t : TypeId) (u : Ty) : Bool :=
  match T.ty t with
  | some v => Ty.beq u v
  | none => false
/-- A map with one entry more, or changed. -/
def mput (a b : Ty) : List (a.den × b.den) → a.den → b.den → List (a.den × b.den)
  | [], x, y => [(x, y)]
  | p :: r, x, y => cond (a.eqB p.1 x) ((p.1, y) :: r) (p :: mput a b r x y)

/-! ### To plain data, and back to cells -/
def splitTy : (t : Ty) → t.den → List AV
  | .prod a b, x => splitTy a x.1 ++ splitTy b x.2
  | .box a, x => splitTy a x
  | .arr n e, _ => List.replicate (n * e.sz) .undef
  | .int k, x => [.d (.int k) x]
  | .bool, x => [.d .bool x]
  | .str, x => [.d .str x]
  | .slice e, x => [.d (.slice e) x]

/-- One cell as plain data; with the rows of the call's own that it is told from. -/
def cellTo (H : Heap) (t : Ty) : AV → Option (t.den × List Nat)
  | .d u x => match castD u t x with | some y => some (y, []) | none => none
  | .nil => match t with | .slice _ => some ([], []) | _ => none
  | .own id => match t with
    | .slice e => match hget H id with
      | .row _ e' l _ => match castD (.slice e') (.slice e) l with | some y => some (y, [id]) | none => none
      | _ => none
    | _ => none
  | _ => none
def joinTy (H : Heap) : (t : Ty) → List AV → Option (t.den × List Nat)
  | .prod a b, cs => match joinTy H a (cs.take a.sz), joinTy H b (cs.drop a.sz) with
    | some (x, i), some (y, j) => some ((x, y), i ++ j)
    | _, _ => none
  | .box a, cs => joinTy H a cs
  | .arr _ _, _ => none
  | .int k, cs => match cs with | [c] => cellTo H (.int k) c | _ => none
  | .bool, cs => match cs with | [c] => cellTo H .bool c | _ => none
  | .str, cs => match cs with | [c] => cellTo H .str c | _ => none
  | .slice e, cs => match cs with | [c] => cellTo H (.slice e) c | _ => none
def toD (H : Heap) (t : Ty) (v : AV) : Option (t.den × List Nat) :=
  match v with
  | .agg cs => cond t.agg (joinTy H t cs) none
  | v => cellTo H t v
def oneB : Value → Bool
  | .agg _ | .tuple _ => false
  | _ => true
/-- A value's cells. -/
def cellsOf : AV → Option (List AV)
  | .agg cs => some cs
  | .d t x => some (splitTy t x)
  | .tup _ => none
  | .undef => none
  | .raw v => cond (oneB v) (some [.raw v]) none
  | v => some [v]
/-- What was told as data is changed no more. -/
def freeze (H : Heap) : List Nat → Heap
  | [] => []
  | i :: r => match hget H i with
    | .row tid e l _ => (i, .row tid e l false) :: freeze H r
    | _ => freeze H r
def kill : List Nat → Heap
  | [] => []
  | i :: r => (i, .dead) :: kill r

def ofConst1 : Value → AV
  | .int k n => .d (.int k) n
  | .bool b => .d .bool b
  | .string s => .d .str s
  | .slice none 0 0 => .nil
  | v => .raw v
def ofConst : Value → AV
  | .agg cs => cond (cs.toList.all oneB) (.agg (cs.toList.map ofConst1)) (.raw (.agg cs))
  | v => ofConst1 v
def evalA (σ : Slots) : Operand → AV
  | .tmp t => look σ t
  | .const v => ofConst v
  | .func f => .fn f [] []
  | .global _ => .undef

/-! ### Patterns: what a cut or a call takes out of a state, as plain data, and puts back -/
inductive SK where
  | data (t : Ty)            -- told as data; rows of the call's own are changed no more then
  | bor (t : Ty)             -- lent as data
  | own (j : Nat)            -- object j, a row of the call's own
  | ptr (j off : Nat)        -- object j's address
  | aptr (j : Nat)
  | map (j : Nat)
  | iter (j : Nat)
  | agg (n : Nat)            -- a struct of n cells, whose kinds come next
  | fn (f : FuncId) (n m : Nat)   -- a function's value: n first, m captured ones, whose kinds come next
inductive OK where
  | row (fix : Bool) (tid : TypeId) (e : Ty)   -- fix: it keeps its place; else it may have moved
  | arr (n : Nat) (e : Ty)
  | var (w : Bool) (n : Nat) (ks : List SK)      -- a variable of n cells; w: it may be written
  | map (k v : Ty)
  | iter
  | gone
  | keep                     -- as it was
structure Pat where
  ks : List SK
  objs : List OK

def SK.tys : List SK → List Ty
  | [] => []
  | .data t :: r => t :: SK.tys r
  | .bor t :: r => t :: SK.tys r
  | _ :: r => SK.tys r
def OK.tys : List OK → List Ty
  | [] => []
  | .row _ _ e :: r => .slice e :: OK.tys r
  | .arr n e :: r => .arr n e :: OK.tys r
  | .var _ _ ks :: r => SK.tys ks ++ OK.tys r
  | .map k v :: r => .slice (.prod k v) :: OK.tys r
  | .iter :: r => .str :: .int .i64 :: OK.tys r
  | .gone :: r => OK.tys r
  | .keep :: r => OK.tys r
def Pat.tys (p : Pat) : List Ty := SK.tys p.ks ++ OK.tys p.objs

@[reducible] def denT : List Ty → Type
  | [] => Unit
  | [t] => t.den
  | t :: u :: r => t.den × denT (u :: r)
abbrev DV := (t : Ty) × t.den
def pack : (ts : List Ty) → List DV → Option (denT ts)
  | [], [] => some ()
  | [t], [⟨u, x⟩] => castD u t x
  | t :: v :: r, ⟨u, x⟩ :: ds => match castD u t x with
    | some y => match pack (v :: r) ds with
      | some z => some (y, z)
      | none => none
    | none => none
  | _, _ => none
def unpack : (ts : List Ty) → denT ts → List DV
  | [], _ => []
  | [t], x => [⟨t, x⟩]
  | t :: u :: r, x => ⟨t, x.1⟩ :: unpack (u :: r) x.2

/-- Which object of the state each object of the pattern is; none: an empty row, not laid yet. -/
abbrev Bnd := List (Nat × Option Nat)
def bget : Bnd → Nat → Option (Option Nat)
  | [], _ => none
  | (k, o) :: r, i => cond (Nat.beq k i) (some o) (bget r i)
def bput (b : Bnd) (j : Nat) (o : Option Nat) : Option Bnd :=
  match bget b j with
  | none => some ((j, o) :: b)
  | some (some i) => match o with | some i' => cond (Nat.beq i i') (some b) none | none => none
  | some none => none
structure Got where
  ds : List DV
  b : Bnd
  rd : List Nat      -- what was read
  fz : List Nat      -- rows that were told as data
  br : List Nat      -- rows that were lent

def getSK (H : Heap) : List SK → List AV → Bnd → Option Got
  | [], [], b => some ⟨[], b, [], [], []⟩
  | .data t :: ks, v :: vs, b => match toD H t v with
    | some (x, i) => match getSK H ks vs b with
      | some g => some ⟨⟨t, x⟩ :: g.ds, g.b, i ++ g.rd, i ++ g.fz, g.br⟩
      | none => none
    | none => none
  | .bor t :: ks, v :: vs, b => match toD H t v with
    | some (x, i) => match getSK H ks vs b with
      | some g => some ⟨⟨t, x⟩ :: g.ds, g.b, i ++ g.rd, g.fz, i ++ g.br⟩
      | none => none
    | none => none
  | .own j :: ks, v :: vs, b => match v with
    | .own i => match bput b j (some i) with | some b' => getSK H ks vs b' | none => none
    | .nil => match bput b j none with | some b' => getSK H ks vs b' | none => none
    | _ => none
  | .ptr j off :: ks, v :: vs, b => match v with
    | .ptr i off' => cond (Nat.beq off off') (match bput b j (some i) with | some b' => getSK H ks vs b' | none => none) none
    | _ => none
  | .aptr j :: ks, v :: vs, b => match v with
    | .aptr i => match bput b j (some i) with | some b' => getSK H ks vs b' | none => none
    | _ => none
  | .map j :: ks, v :: vs, b => match v with
    | .map i => match bput b j (some i) with | some b' => getSK H ks vs b' | none => none
    | _ => none
  | .iter j :: ks, v :: vs, b => match v with
    | .iter i => match bput b j (some i) with | some b' => getSK H ks vs b' | none => none
    | _ => none
  | .agg n :: ks, v :: vs, b => match v with
    | .agg cs => cond (Nat.beq cs.length n) (getSK H ks (cs ++ vs) b) none
    | _ => none
  | .fn f n m :: ks, v :: vs, b => match v with
    | .fn f' fi ca => cond (Nat.beq f f' && Nat.beq fi.length n && Nat.beq ca.length m) (getSK H ks (fi ++ (ca ++ vs)) b) none
    | _ => none
  | _, _, _ => none
def getObjs (H : Heap) : Nat → List OK → Bnd → Option Got
  | _, [], b => some ⟨[], b, [], [], []⟩
  | j, .row fix tid e :: r, b => match bget b j with
    | some none => cond fix none (match getObjs H (j + 1) r b with
      | some g => some ⟨⟨.slice e, []⟩ :: g.ds, g.b, g.rd, g.fz, g.br⟩
      | none => none)
    | some (some i) => match hget H i with
      | .row tid' e' l true => cond (Nat.beq tid tid') (match castD (.slice e') (.slice e) l with
        | some y => match getObjs H (j + 1) r b with
          | some g => some ⟨⟨.slice e, y⟩ :: g.ds, g.b, i :: g.rd, g.fz, g.br⟩
          | none => none
        | none => none) none
      | _ => none
    | none => none
  | j, .arr n e :: r, b => match bget b j with
    | some (some i) => match hget H i with
      | .arr n' e' l => cond (Nat.beq n n') (match castD (.slice e') (.slice e) l with
        | some y => match getObjs H (j + 1) r b with
          | some g => some ⟨⟨.arr n e, y⟩ :: g.ds, g.b, i :: g.rd, g.fz, g.br⟩
          | none => none
        | none => none) none
      | _ => none
    | _ => none
  | j, .var w n ks :: r, b => match bget b j with
    | some (some i) => match hget H i with
      | .var cs w' => cond (Nat.beq cs.length n && (w' || !w)) (match getSK H ks cs b with
        | some g0 => match getObjs H (j + 1) r g0.b with
          | some g => some ⟨g0.ds ++ g.ds, g.b, i :: g0.rd ++ g.rd, g0.fz ++ g.fz, g0.br ++ g.br⟩
          | none => none
        | none => none) none
      | _ => none
    | _ => none
  | j, .map k v :: r, b => match bget b j with
    | some (some i) => match hget H i with
      | .map k' v' m => match castD (.slice (.prod k' v')) (.slice (.prod k v)) m with
        | some y => match getObjs H (j + 1) r b with
          | some g => some ⟨⟨.slice (.prod k v), y⟩ :: g.ds, g.b, i :: g.rd, g.fz, g.br⟩
          | none => none
        | none => none
      | _ => none
    | _ => none
  | j, .iter :: r, b => match bget b j with
    | some (some i) => match hget H i with
      | .iter s pos => match getObjs H (j + 1) r b with
          | some g => some ⟨⟨.str, s⟩ :: ⟨.int .i64, (pos : Int)⟩ :: g.ds, g.b, i :: g.rd, g.fz, g.br⟩
          | none => none
      | _ => none
    | _ => none
  | j, .gone :: r, b => getObjs H (j + 1) r b
  | j, .keep :: r, b => getObjs H (j + 1) r b
def getPat (H : Heap) (p : Pat) (vs : List AV) (b0 : Bnd) : Option Got :=
  match getSK H p.ks vs b0 with
  | some g0 => match getObjs H 0 p.objs g0.b with
    | some g => some ⟨g0.ds ++ g.ds, g.b, g0.rd ++ g.rd, g0.fz ++ g.fz, g0.br ++ g.br⟩
    | none => none
  | none => none

def putSK (mu : Nat → Nat) : List SK → List DV → Option (List AV × List DV)
  | [], ds => some ([], ds)
  | .data _ :: ks, ⟨t, x⟩ :: ds => match putSK mu ks ds with | some (vs, r) => some (.d t x :: vs, r) | none => none
  | .bor _ :: ks, ⟨t, x⟩ :: ds => match putSK mu ks ds with | some (vs, r) => some (.d t x :: vs, r) | none => none
  | .own j :: ks, ds => match putSK mu ks ds with | some (vs, r) => some (.own (mu j) :: vs, r) | none => none
  | .ptr j off :: ks, ds => match putSK mu ks ds with | some (vs, r) => some (.ptr (mu j) off :: vs, r) | none => none
  | .aptr j :: ks, ds => match putSK mu ks ds with | some (vs, r) => some (.aptr (mu j) :: vs, r) | none => none
  | .map j :: ks, ds => match putSK mu ks ds with | some (vs, r) => some (.map (mu j) :: vs, r) | none => none
  | .iter j :: ks, ds => match putSK mu ks ds with | some (vs, r) => some (.iter (mu j) :: vs, r) | none => none
  | .agg n :: ks, ds => match putSK mu ks ds with | some (vs, r) => some (.agg (vs.take n) :: vs.drop n, r) | none => none
  | .fn f n m :: ks, ds => match putSK mu ks ds with | some (vs, r) => some (.fn f (vs.take n) ((vs.drop n).take m) :: vs.drop (n + m), r) | none => none
  | _, _ => none
def putObjs (mu : Nat → Nat) : Nat → List OK → List DV → Option Heap
  | _, [], [] => some []
  | j, .row _ tid e :: r, ⟨t, x⟩ :: ds => match castD t (.slice e) x with
    | some l => match putObjs mu (j + 1) r ds with | some h => some ((mu j, .row tid e l true) :: h) | none => none
    | none => none
  | j, .arr n e :: r, ⟨t, x⟩ :: ds => match castD t (.arr n e) x with
    | some l => match putObjs mu (j + 1) r ds with | some h => some ((mu j, .arr n e l) :: h) | none => none
    | none => none
  | j, .var w _ ks :: r, ds => match putSK mu ks ds with
    | some (cs, ds') => match putObjs mu (j + 1) r ds' with | some h => some ((mu j, .var cs w) :: h) | none => none
    | none => none
  | j, .map k v :: r, ⟨t, x⟩ :: ds => match castD t (.slice (.prod k v)) x with
    | some m => match putObjs mu (j + 1) r ds with | some h => some ((mu j, .map k v m) :: h) | none => none
    | none => none
  | j, .iter :: r, ⟨t, x⟩ :: ⟨u, y⟩ :: ds => match castD t .str x, castD u (.int .i64) y with
    | some s, some n => match putObjs mu (j + 1) r ds with | some h => some ((mu j, .iter s (Int.toNat n)) :: h) | none => none
    | _, _ => none
  | j, .gone :: r, ds => putObjs mu (j + 1) r ds
  | j, .keep :: r, ds => putObjs mu (j + 1) r ds
  | _, _, _ => none
def putPat (mu : Nat → Nat) (p : Pat) (ds : List DV) : Option (List AV × Heap) :=
  match putSK mu p.ks ds with
  | some (vs, r) => match putObjs mu 0 p.objs r with
    | some h => some (vs, h)
    | none => none
  | none => none

def nth : List Nat → Nat → Nat
  | [], _ => 0
  | x :: _, 0 => x
  | _ :: r, n + 1 => nth r n
def nthO : List OK → Nat → OK
  | [], _ => .gone
  | x :: _, 0 => x
  | _ :: r, n + 1 => nthO r n
/-- Does it keep its place? -/
def OK.fixed : OK → Bool
  | .row false _ _ => false
  | .gone => false
  | _ => true
/-- Where the objects of a pattern lie behind a call or a loop: those that keep their place, where they were; the others from nx on. -/
def muOf (n : Nat) (os : List OK) (b : Bnd) (nx j : Nat) : Nat :=
  cond ((nthO os j).fixed && Nat.blt j n) (match bget b j with | some (some i) => i | _ => nx + j) (nx + j)
/-- What was there and is there no more, or has moved. -/
def lost (os : List OK) : Bnd → List Nat
  | [] => []
  | (j, some i) :: r => cond (nthO os j).fixed (lost os r) (i :: lost os r)
  | (_, none) :: r => lost os r
/-- Are the objects that keep their place where they are to be? -/
def fixOk : List OK → Nat → List Nat → Bnd → Bool
  | [], _, _, _ => true
  | o :: r, j, ids, b => (!o.fixed || (match bget b j with | some (some i) => Nat.beq i (nth ids j) | _ => false)) && fixOk r (j + 1) ids b
/-- The objects of a cut that keep their place, bound ahead. -/
def fixBnd : List OK → Nat → List Nat → Bnd
  | [], _, _ => []
  | o :: r, j, ids => cond o.fixed ((j, some (nth ids j)) :: fixBnd r (j + 1) ids) (fixBnd r (j + 1) ids)
def idsOf : Bnd → List Nat
  | [] => []
  | (_, some i) :: r => i :: idsOf r
  | (_, none) :: r => idsOf r
def memN : List Nat → Nat → Bool
  | [], _ => false
  | x :: r, i => Nat.beq x i || memN r i
def nodupN : List Nat → Bool
  | [] => true
  | x :: r => !memN r x && nodupN r
def ltAll (n : Nat) : List Nat → Bool
  | [] => true
  | x :: r => Nat.blt x n && ltAll n r
def apartN : List Nat → List Nat → Bool
  | [], _ => true
  | x :: r, l => !memN l x && apartN r l
def nil? : List Nat → Bool
  | [] => true
  | _ => false
/-- Is what was got well bound? -/
def Got.ok (g : Got) : Bool := nodupN (idsOf g.b) && (apartN g.fz (idsOf g.b) && apartN g.br (idsOf g.b))

/-- Do a pattern's numbers of objects lie among its objects? -/
def skOk (n : Nat) : List SK → Bool
  | [] => true
  | .own j :: r => Nat.blt j n && skOk n r
  | .ptr j _ :: r => Nat.blt j n && skOk n r
  | .aptr j :: r => Nat.blt j n && skOk n r
  | .map j :: r => Nat.blt j n && skOk n r
  | .iter j :: r => Nat.blt j n && skOk n r
  | _ :: r => skOk n r
def objsOk (n : Nat) : List OK → Bool
  | [] => true
  | .var _ _ ks :: r => skOk n ks && objsOk n r
  | _ :: r => objsOk n r
def Pat.ok (p : Pat) : Bool := skOk p.objs.length p.ks && objsOk p.objs.length p.objs
/-- Does a pattern take these values, by their functions alone? -/
def skMatch : List SK → List AV → Bool
  | .fn f _ _ :: ks, v :: vs => (match v with | .fn f' _ _ => Nat.beq f f' | _ => false) && skMatch ks vs
  | .agg _ :: _, _ => true
  | _ :: ks, _ :: vs => skMatch ks vs
  | _, _ => true
/-- What is known of a function that is called: what it takes and gives as plain data. -/
structure Entry where
  pre : Pat
  post : Pat
  F : denT pre.tys → Option (denT post.tys)

/-- May an object of the one kind be one of the other kind behind the call? -/
def pairOk (a b : OK) : Bool :=
  match b with
  | .keep => (match a with | .var false _ _ => true | _ => false)
  | .gone => (match a with | .keep | .gone => false | _ => true)
  | .row false _ _ => (match a with | .keep | .gone => false | _ => true)
  | .var false _ _ => false
  | _ => (match a with | .row true _ _ | .arr _ _ | .var true _ _ | .map _ _ | .iter => true | _ => false)
def newOk : OK → Bool
  | .keep => false
  | .var false _ _ => false
  | _ => true
def kindsOk : List OK → List OK → Bool
  | [], [] => true
  | [], b :: r => newOk b && kindsOk [] r
  | a :: r, b :: r' => pairOk a b && kindsOk r r'
  | _ :: _, [] => false
def flatAVs : List AV → Bool
  | [] => true
  | .d t _ :: r => t.flat && flatAVs r
  | _ => false
def nilH : Heap → Bool
  | [] => true
  | _ => false
def Entry.ok (E : Entry) : Bool := E.pre.ok && (E.post.ok && (kindsOk E.pre.objs E.post.objs && Nat.ble E.post.objs.length 16))

/-! ### How code ends -/
inductive Ex where
  | normal | exit (id : Nat) | ret
def Ex.beq : Ex → Ex → Bool
  | .normal, .normal => true
  | .exit i, .exit j => Nat.beq i j
  | .ret, .ret => true
  | _, _ => false

/-- A cut: the slots that are told, as what; where its objects lie behind it, and the first number that is free. -/
structure CPat where
  nos : List Nat
  ids : List Nat
  nx : Nat
  pat : Pat
@[reducible] def outT : List (Ex × CPat) → Type
  | [] => Empty
  | [x] => denT x.2.pat.tys
  | x :: y :: r => denT x.2.pat.tys ⊕ outT (y :: r)
structure LoopE where
  pat : CPat
  outs : List (Ex × CPat)
  L : denT pat.pat.tys → Option (outT outs)
inductive Ann (Z : Type) where
  | none
  | seq (j : Option ((p : CPat) × (denT p.pat.tys → Option Z))) (a b : Ann Z)
  | cond (a b : Ann Z)
  | block (a : Ann Z)
  | loop (e : LoopE)

structure St where
  σ : Slots
  H : Heap
  nx : Nat

def putSlots : List Nat → List AV → Slots
  | n :: ns, v :: vs => (n, v) :: putSlots ns vs
  | _, _ => []
/-- What a cut tells of a state. -/
def cutGet (p : CPat) (b0 : Bnd) (σ : Slots) (H : Heap) : Option (denT p.pat.tys × Got) :=
  match getPat H p.pat (p.nos.map (look σ)) b0 with
  | some g => cond (g.ok && (nil? g.br && p.pat.ok)) (match pack p.pat.tys g.ds with | some s => some (s, g) | none => none) none
  | none => none
/-- The state that a cut's data stand for, by itself. -/
def cutSt (p : CPat) (s : denT p.pat.tys) : Option St :=
  match putPat (nth p.ids) p.pat (unpack p.pat.tys s) with
  | some (vs, h) => some ⟨putSlots p.nos vs, h, p.nx⟩
  | none => none
/-- Are the numbers of rows that may have moved free of those that are told of? -/
def newIds (n : Nat) : List OK → List Nat → Bool
  | o :: r, i :: is => (o.fixed || Nat.ble n i) && newIds n r is
  | _, _ => true
/-- Do a cut's numbers hang together? -/
def CPat.ok (p : CPat) : Bool := nodupN p.ids && ltAll p.nx p.ids && Nat.beq p.ids.length p.pat.objs.length

end Go.Tat

namespace Go.Tat
set_option linter.unusedVariables false

structure Env where
  T : TE
  E : FuncId → List Entry

/-- What an operation gives: its value, what is changed of the heap, what was read of it, the next free number. -/
structure R where
  v : AV
  ups : Heap
  rd : List Nat
  nx : Nat
/-- Results that hang on conditions. -/
inductive DT : Type 1 where
  | ret (r : R)
  | br (b : Bool) (x y : DT)
  | ask {q : Type} (o : Option q) (k : q → DT)
  | fail
def DT.run {Z : Type} (K : R → Option Z) : DT → Option Z
  | .ret r => K r
  | .br b x y => cond b (x.run K) (y.run K)
  | .ask o k => o.bind fun q => (k q).run K
  | .fail => none

def intD : AV → Option Int
  | .d (.int _) x => some x
  | _ => none

/-- A value, and nothing else. -/
def DT.val (nx : Nat) (v : AV) : DT := .ret ⟨v, [], [], nx⟩
def DT.guard (b : Bool) (x : DT) : DT := .br b x .fail

def binInt (op : BinOp) (k : IntKind) (x y : Int) (nx : Nat) : DT :=
  match op with
  | .add => .val nx (.d (.int k) (k.wrap (x + y)))
  | .sub => .val nx (.d (.int k) (k.wrap (x - y)))
  | .mul => .val nx (.d (.int k) (k.wrap (x * y)))
  | .quo => .br (decide (y = 0)) .fail (.val nx (.d (.int k) (k.wrap (x.tdiv y))))
  | .rem => .br (decide (y = 0)) .fail (.val nx (.d (.int k) (x.tmod y)))
  | .and => .val nx (.d (.int k) (k.wrap ((BitVec.ofInt k.bits x &&& BitVec.ofInt k.bits y).toNat : Int)))
  | .or => .val nx (.d (.int k) (k.wrap ((BitVec.ofInt k.bits x ||| BitVec.ofInt k.bits y).toNat : Int)))
  | .xor => .val nx (.d (.int k) (k.wrap ((BitVec.ofInt k.bits x ^^^ BitVec.ofInt k.bits y).toNat : Int)))
  | .andNot => .val nx (.d (.int k) (k.wrap ((BitVec.ofInt k.bits x &&& ~~~(BitVec.ofInt k.bits y)).toNat : Int)))
  | .eql => .val nx (.d .bool (x == y))
  | .neq => .val nx (.d .bool (x != y))
  | .lss => .val nx (.d .bool (decide (x < y)))
  | .leq => .val nx (.d .bool (decide (x ≤ y)))
  | .gtr => .val nx (.d .bool (decide (x > y)))
  | .geq => .val nx (.d .bool (decide (x ≥ y)))
  | _ => .fail
def shiftInt (op : BinOp) (k : IntKind) (x y : Int) (nx : Nat) : DT :=
  match op with
  | .shl => .br (decide (y < 0)) .fail (.val nx (.d (.int k) (k.wrap (x * 2 ^ (min y.toNat k.bits)))))
  | .shr => .br (decide (y < 0)) .fail (.val nx (.d (.int k) (x.fdiv (2 ^ (min y.toNat k.bits)))))
  | _ => .fail
def isShift : BinOp → Bool
  | .shl | .shr => true
  | _ => false
def binStr (op : BinOp) (x y : ByteArray) (nx : Nat) : DT :=
  match op with
  | .add => .guard (decide (x.size + y.size ≤ 9223372036854775807)) (.val nx (.d .str (x ++ y)))
  | .eql => .val nx (.d .bool (x.toList == y.toList))
  | .neq => .val nx (.d .bool (!(x.toList == y.toList)))
  | .lss => .val nx (.d .bool (Op.bytesLess x.toList y.toList))
  | .leq => .val nx (.d .bool (Op.bytesLess x.toList y.toList || x.toList == y.toList))
  | .gtr => .val nx (.d .bool (!(Op.bytesLess x.toList y.toList || x.toList == y.toList)))
  | .geq => .val nx (.d .bool (!(Op.bytesLess x.toList y.toList)))
  | _ => .fail
/-- '==' and '!=' of bools and structs. -/
def binEq (T : TE) (H : Heap) (op : BinOp) (t : TypeId) (x y : AV) (nx : Nat) : DT :=
  match T.ty t with
  | some u => cond (u.eqOk && u.eqNo) (match toD H u x, toD H u y with
    | some (a, i), some (b, j) => match op with
      | .eql => .ret ⟨.d .bool (u.eqB a b), [], i ++ j, nx⟩
      | .neq => .ret ⟨.d .bool (!(u.eqB a b)), [], i ++ j, nx⟩
      | _ => .fail
    | _, _ => .fail) .fail
  | none => .fail

/-- The byte at a place of a text. -/
def bt (s : ByteArray) (i : Int) : Int := ((s.data.getD i.toNat 0).toNat : Int)

def setCells : List AV → Nat → List AV → List AV
  | cs, 0, new => new ++ cs.drop new.length
  | c :: cs, off + 1, new => c :: setCells cs off new
  | [], _ + 1, new => []
def nthAV : List AV → Nat → AV
  | [], _ => .undef
  | x :: _, 0 => x
  | _ :: r, n + 1 => nthAV r n
/-- A struct type's fields: where each begins, and its size. -/
def offsOf (T : TE) : List TypeId → Nat → List (Nat × Nat × TypeId)
  | [], _ => []
  | f :: r, o => (o, T.sz f, f) :: offsOf T r (o + T.sz f)
def nthF : List (Nat × Nat × TypeId) → Nat → Option (Nat × Nat × TypeId)
  | [], _ => none
  | x :: _, 0 => some x
  | _ :: r, n + 1 => nthF r n
def fillA (fs : List (Nat × Nat × TypeId)) : List (Nat × AV) → List AV → Option (List AV)
  | [], cs => some cs
  | (f, v) :: r, cs => match nthF fs f, cellsOf v with
    | some (o, n, _), some new => cond (Nat.beq new.length n && Nat.ble (o + n) cs.length) (fillA fs r (setCells cs o new)) none
    | _, _ => none

/-- The elements of a literal, as plain data, in order from i on. -/
def litD (H : Heap) (e : Ty) : Nat → List (Nat × AV) → Option (List e.den × List Nat)
  | _, [] => some ([], [])
  | i, (j, v) :: r => cond (Nat.beq i j) (match toD H e v, litD H e (i + 1) r with
    | some (x, a), some (xs, b) => some (x :: xs, a ++ b)
    | _, _ => none) none

/-- A slice's elements as plain data: elements, what was read. -/
def elemsOf (H : Heap) (e : Ty) : AV → Option (List e.den × List Nat)
  | .nil => some ([], [])
  | .own id => match hget H id with
    | .row _ e' l _ => match castD (.slice e') (.slice e) l with | some y => some (y, [id]) | none => none
    | _ => none
  | .d u l => match castD u (.slice e) l with | some y => some (y, []) | none => none
  | _ => none

/-- A bound of a slice expression. -/
def bnd? : Option AV → Option (Option Int)
  | none => some none
  | some v => match intD v with
    | some i => some (some i)
    | none => none

def tupOf : List AV → AV
  | [v] => v
  | vs => .tup vs

def allFlat : List Ty → Bool
  | [] => true
  | t :: r => t.flat && allFlat r

/-- A call of a function that is known by its entry. -/
def callE (H : Heap) (nx : Nat) (vs : List AV) : List Entry → DT
  | [] => .fail
  | E :: r => cond (skMatch E.pre.ks vs) (match getPat H E.pre vs [] with
    | some g => cond g.ok (match pack E.pre.tys g.ds with
      | some s => .ask (E.F s) fun q =>
        match putPat (muOf E.pre.objs.length E.post.objs g.b nx) E.post (unpack E.post.tys q) with
        | some (out, h) => cond (nil? g.br || (flatAVs out && nilH h)) (.ret ⟨tupOf out, h ++ (kill (lost E.post.objs g.b) ++ freeze H g.fz), g.rd, nx + 16⟩) .fail
        | none => .fail
      | none => .fail) .fail
    | none => .fail) (callE H nx vs r)

def lenC (T : TE) (H : Heap) (nx : Nat) : List TypeId → List AV → DT
  | [t], [x] => match T.ud t, x with
    | .str, .d .str s => .val nx (.d (.int .i64) ((ByteArray.size s : Nat) : Int))
    | .slice _, .d (.slice _) l => .val nx (.d (.int .i64) ((List.length l : Nat) : Int))
    | .slice _, .nil => .val nx (.d (.int .i64) (0 : Int))
    | .slice _, .own id => match hget H id with
      | .row _ _ l _ => .ret ⟨.d (.int .i64) ((List.length l : Nat) : Int), [], [id], nx⟩
      | _ => .fail
    | _, _ => .fail
  | _, _ => .fail
def minC (mx : Bool) (nx : Nat) : List AV → DT
  | [x, y] => match x, y with
    | .d (.int k) x, .d (.int k') y => .val nx (.d (.int k) (cond mx (max (x : Int) y) (min (x : Int) y)))
    | _, _ => .fail
  | _ => .fail
/-- A row that may be appended to. -/
def rowOf (H : Heap) (e : TypeId) (u : Ty) : AV → Option (List u.den × List Nat)
  | .nil => some ([], [])
  | .own id => match hget H id with
    | .row tid e' l true => cond (Nat.beq tid e) (match castD (.slice e') (.slice u) l with | some y => some (y, [id]) | none => none) none
    | _ => none
  | _ => none
def appC (T : TE) (H : Heap) (nx : Nat) : List TypeId → List AV → DT
  | [t, t'], [s, x] => cond (Nat.beq t t') (match T.ud t with
    | .slice e => match T.ty e with
      | some u => match rowOf H e u s, elemsOf H u x with
        | some (l, i), some (m, j) => cond (apartN i j) (.guard (decide ((List.length l + List.length m) * T.bytes e ≤ 140737488355328))
            (.ret ⟨.own nx, (nx, .row e u (l ++ m) true) :: kill i, i ++ j, nx + 1⟩)) .fail
        | _, _ => .fail
      | none => .fail
    | _ => .fail) .fail
  | _, _ => .fail
def builtinC (T : TE) (b : Builtin) (ts : List TypeId) (xs : List AV) (H : Heap) (nx : Nat) : DT :=
  match b with
  | .len => lenC T H nx ts xs
  | .min => minC false nx xs
  | .max => minC true nx xs
  | .append => appC T H nx ts xs
  | _ => .fail

/-- A map that is changed. -/
def mapUpC (T : TE) (H : Heap) (nx : Nat) (t : TypeId) (m k v : AV) : DT :=
  match m, T.ud t with
  | .map id, .map kt vt => match hget H id with
    | .map a b es => match toD H a k, toD H b v with
      | some (x, i), some (y, fz) => cond (keyIs (T.ud kt) a) (.ret ⟨.raw undef, (id, .map a b (mput a b es x y)) :: freeze H fz, id :: (i ++ fz), nx⟩) .fail
      | _, _ => .fail
    | _ => .fail
  | _, _ => .fail
/-- One operation. -/
def opG (T : TE) (E : FuncId → List Entry) (ρ : Operand → AV) (H : Heap) (nx : Nat) (o : Oper) : DT :=
  match o.op with
  | .move x | .assign x => .val nx (ρ x)
  | .pick c a b => match ρ c with
    | .d .bool x => .br x (.val nx (ρ a)) (.val nx (ρ b))
    | _ => .fail
  | .alloc t => match T.ud t with
    | .arr n e => match T.ty e with
      | some u => .ret ⟨.aptr nx, [(nx, .arr n u (List.replicate n u.zero))], [], nx + 1⟩
      | none => .fail
    | _ => match T.zc t with
      | some cs => .ret ⟨.ptr nx 0, [(nx, .var cs true)], [], nx + 1⟩
      | none => .fail
  | .box t x => match T.ud t with
    | .arr _ _ => .fail
    | _ => match cellsOf (ρ x) with
      | some cs => cond (Nat.beq cs.length (T.sz t)) (.ret ⟨.ptr nx 0, [(nx, .var cs true)], [], nx + 1⟩) .fail
      | none => .fail
  | .build t ps => match T.ud t, T.zc t with
    | .strct fs, some z => match fillA (offsOf T fs 0) (ps.toList.map fun p => (p.1, ρ p.2)) z with
      | some cs => .val nx (.agg cs)
      | none => .fail
    | _, _ => .fail
  | .buildSlice t n ps => match T.ud t with
    | .slice e => cond (Nat.beq n ps.toList.length && Nat.ble (n * T.sz e) 4096) (match T.ty e with
      | some u => match litD H u 0 (ps.toList.map fun p => (p.1, ρ p.2)) with
        | some (l, i) => .ret ⟨.own nx, (nx, .row e u l true) :: freeze H i, i, nx + 1⟩
        | none => .fail
      | none => .fail) .fail
    | _ => .fail
  | .load t x => match ρ x with
    | .ptr id off => match hget H id with
      | .var cs _ => match aggT T t with
        | some true => cond (Nat.ble (off + T.sz t) cs.length) (.ret ⟨.agg ((cs.drop off).take (T.sz t)), [], [id], nx⟩) .fail
        | some false => cond (Nat.blt off cs.length) (.ret ⟨nthAV cs off, [], [id], nx⟩) .fail
        | none => .fail
      | _ => .fail
    | .dp u x => cond (tyIs T t u) (.val nx (.d u x)) .fail
    | .rp id i e u p => cond (!tyIs T t u) .fail (match hget H id with
      | .row _ e' l _ => match castD (.slice e') (.slice e) l with
        | some y => .ret ⟨.d u (p.get (List.getD y i e.zero)), [], [id], nx⟩
        | none => .fail
      | .arr _ e' l => match castD (.slice e') (.slice e) l with
        | some y => .ret ⟨.d u (p.get (List.getD y i e.zero)), [], [id], nx⟩
        | none => .fail
      | _ => .fail)
    | _ => .fail
  | .store t x y => match ρ x with
    | .ptr id off => match hget H id, cellsOf (ρ y) with
      | .var cs true, some new => cond (Nat.beq new.length (T.sz t) && (Nat.ble (off + T.sz t) cs.length && (aggT T t).isSome)) (.ret ⟨.raw undef, [(id, .var (setCells cs off new) true)], [id], nx⟩) .fail
      | _, _ => .fail
    | .rp id i e u p => cond (!tyIs T t u) .fail (match toD H u (ρ y) with
      | some (v, fz) => match hget H id with
        | .row tid e' l true => match castD (.slice e') (.slice e) l with
          | some z => cond (memN fz id) .fail (.ret ⟨.raw undef, (id, .row tid e (List.set z i (p.set (List.getD z i e.zero) v)) true) :: freeze H fz, id :: fz, nx⟩)
          | none => .fail
        | .arr n e' l => match castD (.slice e') (.slice e) l with
          | some z => cond (memN fz id) .fail (.ret ⟨.raw undef, (id, .arr n e (List.set z i (p.set (List.getD z i e.zero) v))) :: freeze H fz, id :: fz, nx⟩)
          | none => .fail
        | _ => .fail
      | none => .fail)
    | _ => .fail
  | .nilCheck x => match ρ x with
    | .ptr id off => .val nx (.ptr id off)
    | .aptr id => .val nx (.aptr id)
    | .rp id i e u p => .val nx (.rp id i e u p)
    | .dp u v => .val nx (.dp u v)
    | _ => .fail
  | .binOp op t x y _ => match ρ x, ρ y with
    | .d (.int k) a, .d (.int k') b => cond (isShift op) (shiftInt op k a b nx)
        (cond (Nat.beq (ikN k) (ikN k')) (binInt op k a b nx) .fail)
    | .d .str a, .d .str b => binStr op a b nx
    | a, b => binEq T H op t a b nx
  | .unOp op _ x => match op, ρ x with
    | .not, .d .bool b => .val nx (.d .bool (!b))
    | .neg, .d (.int k) n => .val nx (.d (.int k) (k.wrap (0 - n)))
    | .xor, .d (.int k) n => .val nx (.d (.int k) (k.wrap ((BitVec.ofInt k.bits (if k.signed then -1 else k.max) ^^^ BitVec.ofInt k.bits n).toNat : Int)))
    | _, _ => .fail
  | .convert s t x => match T.ud t, ρ x with
    | .int k, .d (.int _) n => match T.ud s with
      | .int _ => .val nx (.d (.int k) (k.wrap n))
      | _ => .fail
    | .str, v => match T.ud s with
      | .str => match v with
        | .d .str z => .val nx (.d .str z)
        | _ => .fail
      | .slice e => match T.ud e with
        | .int .u8 => match elemsOf H (.int .u8) v with
          | some (l, i) => .ret ⟨.d .str ⟨(l.map fun n => UInt8.ofNat (Int.toNat n)).toArray⟩, [], i, nx⟩
          | none => .fail
        | _ => .fail
      | _ => .fail
    | _, _ => .fail
  | .makeFunc f first caps => match f with
    | .func f => .val nx (.fn f (first.toList.map ρ) (caps.toList.map ρ))
    | _ => .fail
  | .makeMap t r => match r, T.ud t with
    | none, .map k v => match T.ty k, T.ty v with
      | some k, some v => .ret ⟨.map nx, [(nx, .map k v [])], [], nx + 1⟩
      | _, _ => .fail
    | some x, .map k v => match intD (ρ x), T.ty k, T.ty v with
      | some _, some k, some v => .ret ⟨.map nx, [(nx, .map k v [])], [], nx + 1⟩
      | _, _, _ => .fail
    | _, _ => .fail
  | .lookup t m k ok => match ρ m, T.ud t with
    | .map id, .map kt vt => match hget H id with
      | .map a b es => match toD H a (ρ k) with
        | some (x, i) => cond (keyIs (T.ud kt) a && tyIs T vt b) (match ok with
          | false => .ret ⟨.d b (optD (mget a b es x) b.zero), [], id :: i, nx⟩
          | true => .ret ⟨.tup [.d b (optD (mget a b es x) b.zero), .d .bool (optB (mget a b es x))], [], id :: i, nx⟩) .fail
        | _ => .fail
      | _ => .fail
    | _, _ => .fail
  | .mapUpdate t m k v => mapUpC T H nx t (ρ m) (ρ k) (ρ v)
  | .insert t m k v => mapUpC T H nx t (ρ m) (ρ k) (ρ v)
  | .makeSlice t n c => match T.ud t, ρ n, ρ c with
    | .slice e, .d (.int .i64) n, .d (.int .i64) c => match T.ty e with
      | some u => .guard (decide (n = c) && (decide (0 ≤ n) && (decide (n ≤ 140737488355328) && decide ((n : Int) * T.bytes e ≤ 140737488355328))))
          (.ret ⟨.own nx, [(nx, .row e u (List.replicate (Int.toNat n) u.zero) true)], [], nx + 1⟩)
      | none => .fail
    | _, _, _ => .fail
  | .slice t x lo hi mx => match mx, bnd? (lo.map ρ), bnd? (hi.map ρ) with
    | none, some lo, some hi => match ρ x, T.ud t with
      | .d .str s, .str => .guard (decide (0 ≤ lo.getD 0) && (decide (lo.getD 0 ≤ hi.getD (ByteArray.size s)) && decide (hi.getD (ByteArray.size s) ≤ (ByteArray.size s : Int))))
          (.val nx (.d .str (ByteArray.extract s (lo.getD 0).toNat (hi.getD (ByteArray.size s)).toNat)))
      | .d (.slice e) l, .slice e' => cond (tyIs T e' e) (.guard (decide (0 ≤ lo.getD 0) && (decide (lo.getD 0 ≤ hi.getD (List.length l)) && decide (hi.getD (List.length l) ≤ (List.length l : Int))))
          (.val nx (.d (.slice e) ((l.take (hi.getD (List.length l)).toNat).drop (lo.getD 0).toNat)))) .fail
      | .own id, .slice e' => match hget H id with
        | .row tid e l _ => cond (tyIs T e' e) (.guard (decide (0 ≤ lo.getD 0) && (decide (lo.getD 0 ≤ hi.getD (List.length l)) && decide (hi.getD (List.length l) ≤ (List.length l : Int))))
              (.ret ⟨.d (.slice e) ((l.take (hi.getD (List.length l)).toNat).drop (lo.getD 0).toNat), freeze H [id], [id], nx⟩)) .fail
        | _ => .fail
      | _, _ => .fail
    | _, _, _ => .fail
  | .fieldAddr t x f => match T.ud t with
    | .strct fs => match ρ x with
      | .ptr id off => match nthF (offsOf T fs 0) f with
        | some (o, n, ft) => cond (Nat.blt 0 n) (.val nx (.ptr id (off + o))) .fail
        | none => .fail
      | .dp u v => match fieldOf fs.length f u with
        | some ⟨w, q⟩ => cond (tyIs T t u && Nat.blt 0 w.sz) (.val nx (.dp w (q.get v))) .fail
        | none => .fail
      | .rp id i e u p => match fieldOf fs.length f u with
        | some ⟨w, q⟩ => cond (tyIs T t u && Nat.blt 0 w.sz) (.val nx (.rp id i e w (p.comp q))) .fail
        | none => .fail
      | _ => .fail
    | _ => .fail
  | .field t x f => match T.ud t with
    | .strct fs => match ρ x with
      | .agg cs => match nthF (offsOf T fs 0) f with
        | some (o, n, ft) => match aggT T ft with
          | some true => cond (Nat.ble (o + n) cs.length) (.val nx (.agg ((cs.drop o).take n))) .fail
          | some false => cond (Nat.blt o cs.length) (.val nx (nthAV cs o)) .fail
          | none => .fail
        | none => .fail
      | .d u v => match fieldOf fs.length f u with
        | some ⟨w, q⟩ => cond (tyIs T t u) (.val nx (.d w (q.get v))) .fail
        | none => .fail
      | _ => .fail
    | _ => .fail
  | .indexAddr t x i => match intD (ρ i) with
    | none => .fail
    | some i => match ρ x, T.ud t with
      | .d (.slice e) l, .slice e' => cond (tyIs T e' e) (.guard (decide (0 ≤ i) && decide (i < (List.length l : Int))) (.val nx (.dp e (List.getD l i.toNat e.zero)))) .fail
      | .own id, .slice e' => match hget H id with
        | .row _ e l _ => cond (tyIs T e' e) (.guard (decide (0 ≤ i) && decide (i < (List.length l : Int))) (.ret ⟨.rp id i.toNat e e .here, [], [id], nx⟩)) .fail
        | _ => .fail
      | .aptr id, .arr n e' => match hget H id with
        | .arr m e l => cond (tyIs T e' e && Nat.beq n m) (.guard (decide (0 ≤ i) && decide (i < (List.length l : Int))) (.ret ⟨.rp id i.toNat e e .here, [], [id], nx⟩)) .fail
        | _ => .fail
      | _, _ => .fail
  | .index t x i => match ρ x, intD (ρ i), T.ud t with
    | .d .str s, some i, .str => .guard (decide (0 ≤ i) && decide (i < (ByteArray.size s : Int))) (.val nx (.d (.int .u8) (bt s i)))
    | _, _, _ => .fail
  | .range t x => match ρ x, T.ud t with
    | .d .str s, .str => .ret ⟨.iter nx, [(nx, .iter s 0)], [], nx + 1⟩
    | _, _ => .fail
  | .next it true => match ρ it with
    | .iter id => match hget H id with
      | .iter s pos => .br (decide (pos < s.size))
          (.ret ⟨.tup [.d .bool true, .d (.int .i64) (pos : Int), .d (.int .i32) (Utf8.decode s pos).1], [(id, .iter s (pos + (Utf8.decode s pos).2))], [id], nx⟩)
          (.ret ⟨.tup [.d .bool false], [], [id], nx⟩)
      | _ => .fail
    | _ => .fail
  | .extract t i => match ρ t with
    | .tup vs => cond (Nat.blt i vs.length) (.val nx (nthAV vs i)) .fail
    | _ => .fail
  | .call c => match c.callee with
    | .builtin b => builtinC T b c.argTypes.toList (c.args.toList.map ρ) H nx
    | .value f => match ρ f with
      | .fn g first caps => callE H nx (first ++ (c.args.toList.map ρ ++ caps)) (E g)
      | _ => .fail
    | _ => .fail
  | _ => .fail

/-- Do two operations touch nothing that one of them writes? -/
structure Touch where
  i : Nat
  rd : List Nat
  wr : List Nat
def nthLL : List (List Nat) → Nat → List Nat
  | [], _ => []
  | x :: _, 0 => x
  | _ :: r, n + 1 => nthLL r n
/-- The operations that an operation waits for. -/
def preds (o : Oper) : List Nat := (o.after.toList.filter (Region.binds .any)).map (·.on)
/-- All that stand ahead of each one. -/
def befs : List Oper → List (List Nat) → List (List Nat)
  | [], acc => acc
  | o :: r, acc => befs r (acc ++ [(preds o).flatMap fun j => j :: nthLL acc j])
def touchOk (bs : List (List Nat)) (a b : Touch) : Bool :=   -- a stands ahead of b in the text
  memN (nthLL bs b.i) a.i || (apartN a.wr b.rd && (apartN a.wr b.wr && apartN b.wr a.rd))
def touchAll (bs : List (List Nat)) : List Touch → Bool      -- newest first
  | [] => true
  | b :: r => r.all (fun a => touchOk bs a b) && touchAll bs r
/-- Do operations wait for earlier ones alone? -/
def edgesOk : List Oper → Nat → Bool
  | [], _ => true
  | o :: r, i => ltAll i (preds o) && edgesOk r (i + 1)
/-- Are operations that don't wait for one another apart in their temporaries? -/
def tmpsOk (ops : Array Oper) (bs : List (List Nat)) : List Oper → Nat → Bool
  | [], _ => true
  | o :: r, i => (List.range i).all (fun j => memN (nthLL bs i) j || (match ops[j]? with | some x => x.apart ops o | none => true)) && tmpsOk ops bs r (i + 1)
def drawOk (ops : Array Oper) (ts : List Touch) : Bool :=
  edgesOk ops.toList 0 && (tmpsOk ops (befs ops.toList []) ops.toList 0 && (Region.noSelect ops && touchAll (befs ops.toList []) ts))

section
variable {Z : Type}
/-- How a function that has no entry is walked into; 'ups' is the whole heap then. -/
abbrev Inl (Z : Type) := FuncId → List AV → Heap → Nat → (R → Option Z) → Option Z
def noInl : Inl Z := fun _ _ _ _ _ => none

/-- A call that is walked into? -/
def inlOf (E : FuncId → List Entry) (ρ : Operand → AV) (o : Oper) : Option (FuncId × List AV) :=
  match o.op with
  | .call c => match c.callee with
    | .value f => match ρ f with
      | .fn g first caps => match E g with
        | [] => some (g, first ++ (c.args.toList.map ρ ++ caps))
        | _ => none
      | _ => none
    | _ => none
  | _ => none
def opX (T : TE) (E : FuncId → List Entry) (inl : Inl Z) (ρ : Operand → AV) (H : Heap) (nx : Nat) (o : Oper) (K : AV → Heap → List Nat → List Nat → Nat → Option Z) : Option Z :=
  match inlOf E ρ o with
  | some (g, vs) => inl g vs H nx fun r => K r.v r.ups [] [] r.nx
  | none => (opG T E ρ H nx o).run fun r => K r.v (r.ups ++ H) r.rd (r.ups.map (·.1)) r.nx

def putDst (o : Oper) (v : AV) (σ : Slots) : Slots :=
  match o.dst with
  | some d => (d, v) :: σ
  | none => σ
/-- Is it wanted? -/
inductive Want where
  | yes | no | lost
  | hangs (d : Nat) (b w : Bool)   -- by slot d, which is b
def wantOf (all : List Oper) (σ : Slots) (o : Oper) : Want :=
  match o.guard with
  | none => .yes
  | some (j, want) => match (all[j]?).bind (·.dst) with
    | some d => match look σ d with
      | .d .bool b => .hangs d b want
      | .raw (.tuple _) => .no
      | _ => .lost
    | none => .lost
def Want.eff : Want → Option Bool
  | .yes => some true
  | .no => some false
  | .hangs _ b w => some (cond w b (!b))
  | .lost => none
/-- The operations from number i on, in the order of the text. -/
def execOps (T : TE) (E : FuncId → List Entry) (inl : Inl Z) (all : List Oper) : List Oper → Nat → Slots → Heap → Nat → List Touch → (Slots → Heap → Nat → List Touch → Option Z) → Option Z
  | [], _, σ, H, nx, ts, K => K σ H nx ts
  | o :: r, i, σ, H, nx, ts, K =>
    match wantOf all σ o with
    | .yes => opX T E inl (evalA σ) H nx o fun v H' rd wr nx' => execOps T E inl all r (i + 1) (putDst o v σ) H' nx' (⟨i, rd, wr⟩ :: ts) K
    | .no => execOps T E inl all r (i + 1) (putDst o (.raw undef) σ) H nx ts K
    | .hangs d b w => cond b
        (cond w (opX T E inl (evalA ((d, .d .bool true) :: σ)) H nx o fun v H' rd wr nx' => execOps T E inl all r (i + 1) (putDst o v ((d, .d .bool true) :: σ)) H' nx' (⟨i, rd, wr⟩ :: ts) K)
          (execOps T E inl all r (i + 1) (putDst o (.raw undef) ((d, .d .bool true) :: σ)) H nx ts K))
        (cond w (execOps T E inl all r (i + 1) (putDst o (.raw undef) ((d, .d .bool false) :: σ)) H nx ts K)
          (opX T E inl (evalA ((d, .d .bool false) :: σ)) H nx o fun v H' rd wr nx' => execOps T E inl all r (i + 1) (putDst o v ((d, .d .bool false) :: σ)) H' nx' (⟨i, rd, wr⟩ :: ts) K))
    | .lost => none

/-- The way out of a loop. -/
def outCase (n : Nat) (g : Got) (st : St) : (outs : List (Ex × CPat)) → outT outs → (Ex → St → Option Z) → Option Z
  | [], _, _ => none
  | [x], s, K => match putPat (muOf n x.2.pat.objs g.b st.nx) x.2.pat (unpack x.2.pat.tys s) with
    | some (vs, h) => K x.1 ⟨putSlots x.2.nos vs, h ++ (kill (lost x.2.pat.objs g.b) ++ (freeze st.H g.fz ++ st.H)), st.nx + 16⟩
    | none => none
  | x :: y :: r, s, K => Sum.elim (fun s => match putPat (muOf n x.2.pat.objs g.b st.nx) x.2.pat (unpack x.2.pat.tys s) with
      | some (vs, h) => K x.1 ⟨putSlots x.2.nos vs, h ++ (kill (lost x.2.pat.objs g.b) ++ (freeze st.H g.fz ++ st.H)), st.nx + 16⟩
      | none => none) (fun s => outCase n g st (y :: r) s K) s

/-- What follows the first one of two codes: the second one, or a cut. -/
def seqK (N : Nat) (j : Option ((p : CPat) × (denT p.pat.tys → Option Z))) (F : St → Option Z) (K : Ex → St → Option Z) : Ex → St → Option Z
  | .normal, st => match j with
    | none => F st
    | some ⟨p, J⟩ => match cutGet p [] st.σ st.H with
      | some (s, g) => cond (fixOk p.pat.objs 0 p.ids g.b && (p.ok && (newIds N p.pat.objs p.ids && Nat.ble N p.nx))) (J s) none
      | none => none
  | e, st => K e st
def blockK (id : Nat) (K : Ex → St → Option Z) : Ex → St → Option Z
  | .exit i, st => cond (Nat.beq i id) (K .normal st) (K (.exit i) st)
  | e, st => K e st
def exec (N : Nat) (T : TE) (E : FuncId → List Entry) (inl : Inl Z) : Ann Z → Code → St → (Ex → St → Option Z) → Option Z
  | _, .skip, st, K => K .normal st
  | _, .label _, st, K => K .normal st
  | _, .exit id, st, K => K (.exit id) st
  | _, .ret, st, K => K .ret st
  | _, .region _ ops draw, st, K => cond draw
      (execOps T E noInl ops.toList ops.toList 0 st.σ st.H st.nx [] fun σ H nx ts => cond (drawOk ops ts) (K .normal ⟨σ, H, nx⟩) none)
      (execOps T E inl ops.toList ops.toList 0 st.σ st.H st.nx [] fun σ H nx _ => K .normal ⟨σ, H, nx⟩)
  | n, .seq a b, st, K => match n with
    | .seq j x y => exec N T E inl x a st (seqK N j (fun st' => exec N T E inl y b st' K) K)
    | _ => exec N T E inl .none a st (seqK N none (fun st' => exec N T E inl .none b st' K) K)
  | n, .cond c a b, st, K => match evalA st.σ c with
    | .d .bool x => match n with
      | .cond m n => cond x (exec N T E inl m a st K) (exec N T E inl n b st K)
      | _ => cond x (exec N T E inl .none a st K) (exec N T E inl .none b st K)
    | _ => none
  | n, .block id c, st, K => exec N T E inl (match n with | .block m => m | _ => .none) c st (blockK id K)
  | n, .scope c, st, K => exec N T E inl (match n with | .block m => m | _ => .none) c st K
  | .loop e, .loop _, st, K => match cutGet e.pat [] st.σ st.H with
    | some (s, g) => (e.L s).bind fun q => outCase e.pat.pat.objs.length g st e.outs q K
    | none => none
  | _, _, _, _ => none

/-- What a function gives, as its entry tells it. -/
def resA (T : TE) (H : Heap) (σ : Slots) : List ResultVar → Option (List AV)
  | [] => some []
  | .tmp t :: r => match resA T H σ r with | some vs => some (look σ t :: vs) | none => none
  | .cell a t :: r => match look σ a with
    | .ptr id off => match hget H id with
      | .var cs _ => match resA T H σ r, aggT T t with
        | some vs, some true => cond (Nat.ble (off + T.sz t) cs.length) (some (.agg ((cs.drop off).take (T.sz t)) :: vs)) none
        | some vs, some false => cond (Nat.blt off cs.length) (some (nthAV cs off :: vs)) none
        | _, _ => none
      | _ => none
    | _ => none
def endK (T : TE) (rs : List ResultVar) (p : Pat) (npre : Nat) : Ex → St → Option (denT p.tys)
  | .exit _, _ => none
  | _, st => match resA T st.H st.σ rs with
    | some vs => match getPat st.H p vs (fixBnd (p.objs.take npre) 0 (List.range npre)) with
      | some g => cond (g.ok && nil? g.br) (pack p.tys g.ds) none
      | none => none
    | none => none
/-- How a loop's round ends: another one, or a way out. -/
def outGet (p : CPat) (e : Ex) (st : St) : (outs : List (Ex × CPat)) → Option (outT outs)
  | [] => none
  | [x] => cond (e.beq x.1) (match cutGet x.2 (fixBnd (x.2.pat.objs.take p.ids.length) 0 p.ids) st.σ st.H with | some (s, _) => some s | none => none) none
  | x :: y :: r => cond (e.beq x.1) (match cutGet x.2 (fixBnd (x.2.pat.objs.take p.ids.length) 0 p.ids) st.σ st.H with | some (s, _) => some (.inl s) | none => none)
      (match outGet p e st (y :: r) with | some q => some (.inr q) | none => none)
def roundK (p : CPat) (outs : List (Ex × CPat)) : Ex → St → Option (denT p.pat.tys ⊕ outT outs)
  | .normal, st => match cutGet p (fixBnd p.pat.objs 0 p.ids) st.σ st.H with | some (s, _) => some (.inl s) | none => none
  | e, st => match outGet p e st outs with | some q => some (.inr q) | none => none
/-- One round of a loop, on a cut's data. -/
def round (T : TE) (E : FuncId → List Entry) (inl : ∀ (Z : Type), Inl Z) (p : CPat) (outs : List (Ex × CPat)) (n : Ann (denT p.pat.tys ⊕ outT outs)) (c : Code) (s : denT p.pat.tys) : Option (denT p.pat.tys ⊕ outT outs) :=
  match cutSt p s with
  | some st => exec p.nx T E (inl _) n c st (roundK p outs)
  | none => none
/-- A function's body, on its parameters' data. -/
def bodyRun (T : TE) (E : FuncId → List Entry) (inl : ∀ (Z : Type), Inl Z) (pre post : Pat) (f : Func) (n : Ann (denT post.tys)) (s : denT pre.tys) : Option (denT post.tys) :=
  match putPat id pre (unpack pre.tys s), f.body with
  | some (vs, h), some c => exec pre.objs.length T E (inl _) n c ⟨putSlots (List.range vs.length) vs, h, pre.objs.length⟩ (endK T f.results.toList post pre.objs.length)
  | _, _ => none
/-- Walking into a function: one that has no loop. -/
def inlD (T : TE) (E : FuncId → List Entry) (fb : FuncId → Option Func) : Nat → ∀ (Z : Type), Inl Z
  | 0, _, _, _, _, _, _ => none
  | n + 1, Z, g, vs, H, nx, K => match fb g with
    | some f => match f.body with
      | some c => cond (Nat.ble vs.length f.ntmps) (exec nx T E (inlD T E fb n Z) .none c ⟨putSlots (List.range vs.length) vs, H, nx⟩ fun e st => match e with
        | .exit _ => none
        | _ => match resA T st.H st.σ f.results.toList with
          | some out => cond (Nat.ble nx st.nx) (K ⟨tupOf out, st.H, st.H.map (·.1), st.nx⟩) none
          | none => none) none
      | none => none
    | none => none
end
end Go.Tat

namespace Go.Tat
theorem ask_drawn {α : Type} : ∀ (m : Ask α) (w : World), w.drawn ≤ (w.ask m).2.drawn
  | .done a, w => Nat.le_refl _
  | .ask what range k, w => by
    unfold World.ask
    dsimp only
    split
    · exact ask_drawn _ w
    · exact Nat.le_trans (Nat.le_succ _) (ask_drawn _ { w with drawn := w.drawn + 1 })
theorem farStore_drawn {P : Program} {w w' : World} {a : Addr} {v : Value} {b : Bool} {t : List Addr} (h : w.farStore P a v b = .ok (w', t)) : w'.drawn = w.drawn := by
  unfold World.farStore at h
  split at h
  · split at h
    · rename_i r hr
      cases h
      unfold World.viewStore at hr
      simp only [bind, Except.bind, pure, Except.pure] at hr
      repeat' split at hr
      all_goals first | (cases hr; rfl) | cases hr
    · cases h
  · cases h
theorem run_drawn {P : Program} {α : Type} : ∀ (m : Sem α) (w : World) (v : α) (w' : World), m.run P w = .ok v w' → w.drawn ≤ w'.drawn
  | .pure a, w, v, w', h => by simp only [Sem.run] at h; cases h; exact Nat.le_refl _
  | .load m a k, w, v, w', h => by
    simp only [Sem.run] at h
    split at h
    · exact run_drawn _ _ _ _ h
    · split at h
      · exact run_drawn _ _ _ _ h
      · cases h
  | .store m a u k, w, v, w', h => by
    have key : (match w.cell? a with
      | some _ => if w.frozen? a then Result.halt (.unsupported (.unsafePointer "a write to bytes that a string shares")) w else k.run P (w.setCell a u)
      | none => match w.farStore P a u (m == Mode.atomic) with
        | .ok (w, _) => k.run P w
        | .error h => .halt h w) = .ok v w' → w.drawn ≤ w'.drawn := fun h => by
      split at h
      · split at h
        · cases h
        · have := run_drawn _ _ _ _ h
          have e : (w.setCell a u).drawn = w.drawn := by unfold World.setCell; split <;> rfl
          rwa [e] at this
      · split at h
        · rename_i w1 t hf
          have := run_drawn _ _ _ _ h
          rwa [farStore_drawn hf] at this
        · cases h
    cases u <;> simp only [Sem.run] at h <;> first | exact key h | cases h
  | .new o k, w, v, w', h => by simp only [Sem.run] at h; exact run_drawn _ { w with heap := w.heap.push o } _ _ h
  | .shape r k, w, v, w', h => by simp only [Sem.run] at h; exact run_drawn _ _ _ _ h
  | .freeze a n k, w, v, w', h => by
    simp only [Sem.run] at h
    have := run_drawn _ _ _ _ h
    have e : (w.freeze a n).drawn = w.drawn := by unfold World.freeze; split <;> rfl
    rwa [e] at this
  | .frozen a k, w, v, w', h => by simp only [Sem.run] at h; exact run_drawn _ _ _ _ h
  | .getObj r k, w, v, w', h => by
    simp only [Sem.run] at h
    split at h
    · cases h
    · exact run_drawn _ _ _ _ h
    · cases h
  | .setObj r o k, w, v, w', h => by
    simp only [Sem.run] at h
    split at h
    · cases h
    · exact run_drawn _ { w with heap := w.heap.setIfInBounds r o } _ _ h
    · cases h
  | .choose q k, w, v, w', h => by
    simp only [Sem.run] at h
    split at h
    · exact run_drawn _ _ _ _ h
    · exact Nat.le_trans (Nat.le_succ _) (run_drawn _ _ _ _ h)
  | .sys c k, w, v, w', h => by
    simp only [Sem.run] at h
    refine Nat.le_trans ?_ (run_drawn _ _ _ _ h)
    unfold World.sys
    have := ask_drawn (Kernel.perform c w.os) w
    split
    · exact Nat.le_refl _
    · rename_i r os w1 hne heq; rw [heq] at this; exact this
  | .program k, w, v, w', h => by simp only [Sem.run] at h; exact run_drawn _ _ _ _ h
  | .mark _ k, w, v, w', h => by simp only [Sem.run] at h; exact run_drawn _ _ _ _ h
  | .halt _, w, v, w', h => by simp only [Sem.run] at h; cases h
end Go.Tat

namespace Go.Tat
set_option linter.unusedVariables false

/-- Elements one behind another. -/
def CRL {α : Type} (R : α → List Value → Prop) (l : List α) (xs : List Value) : Prop :=
  ∃ cs : List (List Value), xs = cs.flatten ∧ cs.length = l.length ∧ ∀ (i : Nat) x c, l[i]? = some x → cs[i]? = some c → R x c

/-- Cells tell plain data; 'M': blocks that may be changed, where none of the data lies. -/
def CR (w : World) (M : Nat → Prop) : (t : Ty) → t.den → List Value → Prop
  | .int k, x, vs => vs = [.int k x]
  | .bool, x, vs => vs = [.bool x]
  | .str, x, vs => vs = [.string x]
  | .slice e, l, vs => ∃ a c, vs = [.slice a (List.length l) c] ∧ List.length l ≤ c ∧
      (match a with
      | none => c = 0
      | some ad => ad.spot = none ∧ ∃ xs, CRL (CR w M e) l xs ∧ ∀ (j : Nat) u, xs[j]? = some u → w.cell? (ad.add j) = some u ∧ ¬ M ad.block)
  | .arr n e, l, vs => List.length l = n ∧ CRL (CR w M e) l vs
  | .prod a b, x, vs => ∃ v1 v2, vs = v1 ++ v2 ∧ CR w M a x.1 v1 ∧ CR w M b x.2 v2
  | .box a, x, vs => CR w M a x vs

theorem CRL.mono {α : Type} {R R' : α → List Value → Prop} {l : List α} {xs : List Value} (h : CRL R l xs) (hr : ∀ x c, x ∈ l → R x c → R' x c) : CRL R' l xs := by
  obtain ⟨cs, h1, h2, h3⟩ := h
  exact ⟨cs, h1, h2, fun i x c hx hc => hr x c (List.mem_of_getElem? hx) (h3 i x c hx hc)⟩

/-- What was there in cells that nobody may change is there. -/
def Ext (w : World) (M : Nat → Prop) (w' : World) (M' : Nat → Prop) : Prop :=
  ∀ a v, w.cell? a = some v → ¬ M a.block → w'.cell? a = some v ∧ ¬ M' a.block

theorem Addr.add_block (a : Addr) (n : Nat) : (a.add n).block = a.block := by unfold Addr.add; split <;> rfl
theorem Addr.add_spot (a : Addr) (n : Nat) (h : a.spot = none) : (a.add n).spot = none := by unfold Addr.add; split <;> simp_all
theorem Addr.add_add (a : Addr) (m n : Nat) : (a.add m).add n = a.add (m + n) := by
  unfold Addr.add
  by_cases hm : m = 0 <;> by_cases hn : n = 0 <;> simp_all [Nat.add_assoc]
theorem Addr.mk_add (b o n : Nat) : (⟨b, o, none⟩ : Addr).add n = ⟨b, o + n, none⟩ := by
  unfold Addr.add; split <;> simp_all
theorem Addr.eta {a : Addr} (h : a.spot = none) : a = ⟨a.block, a.off, none⟩ := by cases a; simp_all

theorem CR_mono {w w' : World} {M M' : Nat → Prop} (hx : Ext w M w' M') : ∀ (t : Ty) (x : t.den) (vs : List Value), CR w M t x vs → CR w' M' t x vs
  | .int k, x, vs, h => h
  | .bool, x, vs, h => h
  | .str, x, vs, h => h
  | .slice e, l, vs, h => by
    obtain ⟨a, c, h1, h2, h3⟩ := h
    refine ⟨a, c, h1, h2, ?_⟩
    cases a with
    | none => exact h3
    | some ad =>
      obtain ⟨hs, xs, hl, hc⟩ := h3
      refine ⟨hs, xs, hl.mono fun x c _ hx' => CR_mono hx e x c hx', fun j u hj => ?_⟩
      have := hc j u hj
      have h4 := hx _ _ this.1 (by rw [Addr.add_block]; exact this.2)
      rw [Addr.add_block] at h4
      exact h4
  | .arr n e, l, vs, h => ⟨h.1, h.2.mono fun x c _ hx' => CR_mono hx e x c hx'⟩
  | .prod a b, x, vs, h => by
    obtain ⟨v1, v2, h1, h2, h3⟩ := h
    exact ⟨v1, v2, h1, CR_mono hx a _ _ h2, CR_mono hx b _ _ h3⟩
  | .box a, x, vs, h => CR_mono hx a x vs h

theorem flatten_len (n : Nat) : ∀ (cs : List (List Value)), (∀ c ∈ cs, c.length = n) → cs.flatten.length = cs.length * n
  | [], _ => by simp
  | c :: r, h => by
    simp only [List.flatten_cons, List.length_append, List.length_cons]
    rw [h c (by simp), flatten_len n r fun c hc => h c (by simp [hc]), Nat.add_mul]; omega

theorem CRL.lens {α : Type} {R : α → List Value → Prop} {n : Nat} {l : List α} {cs : List (List Value)} (hlen : cs.length = l.length) (h3 : ∀ (i : Nat) x c, l[i]? = some x → cs[i]? = some c → R x c)
    (hr : ∀ x c, R x c → c.length = n) : ∀ c ∈ cs, c.length = n := by
  intro c hc
  obtain ⟨i, hi⟩ := List.mem_iff_getElem?.1 hc
  have hlt : i < l.length := by rw [← hlen]; exact (List.getElem?_eq_some_iff.1 hi).1
  exact hr _ _ (h3 i l[i] c (List.getElem?_eq_getElem hlt) hi)

theorem CR_len (w : World) (M : Nat → Prop) : ∀ (t : Ty) (x : t.den) (vs : List Value), CR w M t x vs → vs.length = t.sz
  | .int k, x, vs, h => by rw [show vs = _ from h]; rfl
  | .bool, x, vs, h => by rw [show vs = _ from h]; rfl
  | .str, x, vs, h => by rw [show vs = _ from h]; rfl
  | .slice e, l, vs, h => by obtain ⟨a, c, h1, _⟩ := h; rw [h1]; rfl
  | .arr n e, l, vs, h => by
    obtain ⟨hn, cs, h1, h2, h3⟩ := h
    rw [h1, flatten_len e.sz cs (CRL.lens h2 h3 fun x c hx => CR_len w M e x c hx), h2, hn]; rfl
  | .prod a b, x, vs, h => by
    obtain ⟨v1, v2, h1, h2, h3⟩ := h
    rw [h1, List.length_append, CR_len w M a _ _ h2, CR_len w M b _ _ h3]; rfl
  | .box a, x, vs, h => CR_len w M a x vs h

theorem CRL.len {w : World} {M : Nat → Prop} {e : Ty} {l : List e.den} {xs : List Value} (h : CRL (CR w M e) l xs) : xs.length = l.length * e.sz := by
  obtain ⟨cs, h1, h2, h3⟩ := h
  rw [h1, flatten_len e.sz cs (CRL.lens h2 h3 fun x c hx => CR_len w M e x c hx), h2]

theorem CR_one (w : World) (M : Nat → Prop) : ∀ (t : Ty) (x : t.den) (vs : List Value), CR w M t x vs → ∀ u ∈ vs, u.oneCell' = true
  | .int k, x, vs, h => by rw [show vs = _ from h]; simp [Value.oneCell']
  | .bool, x, vs, h => by rw [show vs = _ from h]; simp [Value.oneCell']
  | .str, x, vs, h => by rw [show vs = _ from h]; simp [Value.oneCell']
  | .slice e, l, vs, h => by obtain ⟨a, c, h1, _⟩ := h; rw [h1]; simp [Value.oneCell']
  | .arr n e, l, vs, h => by
    obtain ⟨hn, cs, h1, h2, h3⟩ := h
    intro u hu
    rw [h1, List.mem_flatten] at hu
    obtain ⟨c, hc, hu⟩ := hu
    obtain ⟨i, hi⟩ := List.mem_iff_getElem?.1 hc
    have hlt : i < List.length l := by rw [← h2]; exact (List.getElem?_eq_some_iff.1 hi).1
    exact CR_one w M e _ c (h3 i (l : List e.den)[i] c (List.getElem?_eq_getElem hlt) hi) u hu
  | .prod a b, x, vs, h => by
    obtain ⟨v1, v2, h1, h2, h3⟩ := h
    intro u hu
    rw [h1, List.mem_append] at hu
    exact hu.elim (CR_one w M a _ _ h2 u) (CR_one w M b _ _ h3 u)
  | .box a, x, vs, h => CR_one w M a x vs h

theorem CRL.one {w : World} {M : Nat → Prop} {e : Ty} {l : List e.den} {xs : List Value} (h : CRL (CR w M e) l xs) : ∀ u ∈ xs, u.oneCell' = true := by
  have : CR w M (.arr l.length e) l xs := ⟨rfl, h⟩
  exact CR_one w M _ _ _ this

/-! ### Elements -/
section
variable {α : Type} {R : α → List Value → Prop}
theorem CRL.nil : CRL R [] [] := ⟨[], rfl, rfl, fun i x c h => by simp at h⟩
theorem CRL.append {l m : List α} {xs ys : List Value} (h : CRL R l xs) (h' : CRL R m ys) : CRL R (l ++ m) (xs ++ ys) := by
  obtain ⟨cs, h1, h2, h3⟩ := h
  obtain ⟨ds, k1, k2, k3⟩ := h'
  refine ⟨cs ++ ds, by rw [h1, k1, List.flatten_append], by simp [h2, k2], fun i x c hx hc => ?_⟩
  rcases Nat.lt_or_ge i l.length with hi | hi
  · rw [List.getElem?_append_left hi] at hx
    rw [List.getElem?_append_left (h2 ▸ hi)] at hc
    exact h3 i x c hx hc
  · rw [List.getElem?_append_right hi] at hx
    rw [List.getElem?_append_right (h2 ▸ hi), h2] at hc
    exact k3 _ x c hx hc
theorem CRL.cons {x : α} {l : List α} {c xs : List Value} (h : R x c) (h' : CRL R l xs) : CRL R (x :: l) (c ++ xs) := by
  obtain ⟨cs, h1, h2, h3⟩ := h'
  refine ⟨c :: cs, by rw [h1]; rfl, by simp [h2], fun i y d hy hd => ?_⟩
  cases i with
  | zero => simp at hy hd; subst hy; subst hd; exact h
  | succ i => exact h3 i y d (by simpa using hy) (by simpa using hd)
theorem CRL.replicate {x : α} {c : List Value} (h : R x c) : ∀ n, CRL R (List.replicate n x) (List.replicate n c).flatten
  | 0 => CRL.nil
  | n + 1 => by simpa [List.replicate_succ] using CRL.cons h (CRL.replicate h n)

theorem flatten_drop (n : Nat) : ∀ (k : Nat) (cs : List (List Value)), (∀ c ∈ cs, c.length = n) → cs.flatten.drop (k * n) = (cs.drop k).flatten
  | 0, cs, _ => by simp
  | k + 1, [], _ => by simp
  | k + 1, c :: r, h => by
    have hc := h c (by simp)
    have : (k + 1) * n = c.length + k * n := by rw [hc, Nat.add_mul]; omega
    rw [List.flatten_cons, this, ← List.drop_drop]
    simp only [List.drop_left', List.drop_succ_cons]
    exact flatten_drop n k r fun c hc => h c (by simp [hc])
theorem flatten_take (n : Nat) : ∀ (k : Nat) (cs : List (List Value)), (∀ c ∈ cs, c.length = n) → cs.flatten.take (k * n) = (cs.take k).flatten
  | 0, cs, _ => by simp
  | k + 1, [], _ => by simp
  | k + 1, c :: r, h => by
    have hc := h c (by simp)
    have : (k + 1) * n = c.length + k * n := by rw [hc, Nat.add_mul]; omega
    rw [List.flatten_cons, this, List.take_length_add_append]
    simp only [List.take_succ_cons, List.flatten_cons]
    rw [flatten_take n k r fun c hc => h c (by simp [hc])]

theorem CRL.drop {n : Nat} (hr : ∀ x c, R x c → c.length = n) {l : List α} {xs : List Value} (h : CRL R l xs) (k : Nat) : CRL R (l.drop k) (xs.drop (k * n)) := by
  obtain ⟨cs, h1, h2, h3⟩ := h
  refine ⟨cs.drop k, by rw [h1, flatten_drop n k cs (CRL.lens h2 h3 hr)], by simp [h2], fun i x c hx hc => ?_⟩
  rw [List.getElem?_drop] at hx hc
  exact h3 _ x c hx hc
theorem CRL.take {n : Nat} (hr : ∀ x c, R x c → c.length = n) {l : List α} {xs : List Value} (h : CRL R l xs) (k : Nat) : CRL R (l.take k) (xs.take (k * n)) := by
  obtain ⟨cs, h1, h2, h3⟩ := h
  refine ⟨cs.take k, by rw [h1, flatten_take n k cs (CRL.lens h2 h3 hr)], by simp [h2], fun i x c hx hc => ?_⟩
  rw [List.getElem?_take] at hx hc
  split at hx <;> rename_i hlt
  · rw [if_pos hlt] at hc; exact h3 _ x c hx hc
  · cases hx
theorem CRL.uncons {x : α} {l : List α} {xs : List Value} (h : CRL R (x :: l) xs) : ∃ c ys, xs = c ++ ys ∧ R x c ∧ CRL R l ys := by
  obtain ⟨cs, h1, h2, h3⟩ := h
  cases cs with
  | nil => simp at h2
  | cons c cs =>
    refine ⟨c, cs.flatten, by rw [h1]; rfl, h3 0 x c rfl rfl, cs, rfl, by simpa using h2, fun i y d hy hd => h3 (i + 1) y d (by simpa using hy) (by simpa using hd)⟩
theorem CRL.at {n : Nat} (hr : ∀ x c, R x c → c.length = n) {l : List α} {xs : List Value} (h : CRL R l xs) {i : Nat} {x : α} (hx : l[i]? = some x) :
    R x ((xs.drop (i * n)).take n) := by
  have h1 := h.drop hr i
  have h2 : l.drop i = x :: l.drop (i + 1) := by
    obtain ⟨hlt, he⟩ := List.getElem?_eq_some_iff.1 hx
    rw [← he, List.drop_eq_getElem_cons hlt]
  rw [h2] at h1
  obtain ⟨c, ys, h3, h4, _⟩ := h1.uncons
  rw [h3, ← hr _ _ h4, List.take_left]
  exact h4
theorem CRL.set {n : Nat} (hr : ∀ x c, R x c → c.length = n) {l : List α} {xs : List Value} (h : CRL R l xs) {i : Nat} (hi : i < l.length) {y : α} {d : List Value} (hy : R y d) :
    CRL R (l.set i y) (xs.take (i * n) ++ d ++ xs.drop ((i + 1) * n)) := by
  have h1 := ((h.take hr i).append (CRL.cons hy (h.drop hr (i + 1))))
  rw [List.set_eq_take_append_cons_drop, if_pos hi, List.append_assoc]
  exact h1
end

theorem Path.off_le : ∀ {t u : Ty} (p : Path t u), p.off + u.sz ≤ t.sz
  | _, _, .here => by simp [Path.off]
  | _, _, .l p => by have := p.off_le; simp [Path.off, Ty.sz] at *; omega
  | _, _, .r p => by have := p.off_le; simp [Path.off, Ty.sz] at *; omega
  | _, _, .b p => by have := p.off_le; simpa [Path.off, Ty.sz] using this
/-- A part of plain data. -/
theorem CR_path {w : World} {M : Nat → Prop} : ∀ {t u : Ty} (p : Path t u) {x : t.den} {vs : List Value}, CR w M t x vs → CR w M u (p.get x) ((vs.drop p.off).take u.sz)
  | _, _, .here, x, vs, h => by simpa [Path.off, Path.get, ← CR_len w M _ _ _ h] using h
  | _, _, .l (a := a) (b := b) (t := u) p, x, vs, h => by
    obtain ⟨v1, v2, h1, h2, h3⟩ := h
    have := CR_path p h2
    have ho : p.off + u.sz ≤ v1.length := by
      rw [CR_len w M _ _ _ h2]; exact p.off_le
    simp only [Path.off, Path.get]
    rw [h1, List.drop_append_of_le_length (by omega), List.take_append_of_le_length (by simp; omega)]
    exact this
  | _, _, .r (a := a) (b := b) (t := u) p, x, vs, h => by
    obtain ⟨v1, v2, h1, h2, h3⟩ := h
    have := CR_path p h3
    simp only [Path.off, Path.get]
    rw [h1, ← CR_len w M _ _ _ h2, List.drop_length_add_append]
    exact this
  | _, _, .b p, x, vs, h => CR_path p (show CR w M _ x vs from h)
theorem Path.off_comp : ∀ {e t u : Ty} (p : Path e t) (q : Path t u), (p.comp q).off = p.off + q.off
  | _, _, _, .here, q => by simp [Path.comp, Path.off]
  | _, _, _, .l p, q => by simp [Path.comp, Path.off, Path.off_comp p q]
  | _, _, _, .r p, q => by simp [Path.comp, Path.off, Path.off_comp p q, Nat.add_assoc]
  | _, _, _, .b p, q => by simp [Path.comp, Path.off, Path.off_comp p q]
theorem Path.get_comp : ∀ {e t u : Ty} (p : Path e t) (q : Path t u) (x : e.den), (p.comp q).get x = q.get (p.get x)
  | _, _, _, .here, q, x => rfl
  | _, _, _, .l p, q, x => Path.get_comp p q x.1
  | _, _, _, .r p, q, x => Path.get_comp p q x.2
  | _, _, _, .b p, q, x => Path.get_comp p q x
/-- A part changed. -/
theorem CR_pset {w : World} {M : Nat → Prop} : ∀ {t u : Ty} (p : Path t u) {x : t.den} {vs : List Value} {y : u.den} {d : List Value}, CR w M t x vs → CR w M u y d →
    CR w M t (p.set x y) (vs.take p.off ++ d ++ vs.drop (p.off + u.sz))
  | t, _, .here, x, vs, y, d, h, hy => by
    have h1 : vs.drop (0 + t.sz) = [] := by rw [← CR_len w M _ _ _ h]; simp
    simp only [Path.off, Path.set]
    rw [h1]
    simpa using hy
  | _, _, .l (a := a) (b := b) (t := u) p, x, vs, y, d, h, hy => by
    obtain ⟨v1, v2, h1, h2, h3⟩ := h
    have hl := CR_len w M _ _ _ h2
    have ho := p.off_le
    refine ⟨_, v2, ?_, CR_pset p h2 hy, h3⟩
    simp only [Path.off]
    rw [h1, List.take_append_of_le_length (by omega), List.drop_append_of_le_length (by omega), List.append_assoc]
    simp
  | _, _, .r (a := a) (b := b) (t := u) p, x, vs, y, d, h, hy => by
    obtain ⟨v1, v2, h1, h2, h3⟩ := h
    have hl := CR_len w M _ _ _ h2
    refine ⟨v1, _, ?_, h2, CR_pset p h3 hy⟩
    simp only [Path.off]
    rw [h1, ← hl, List.take_length_add_append, Nat.add_assoc, List.drop_length_add_append]
    simp
  | _, _, .b p, x, vs, y, d, h, hy => CR_pset p (show CR w M _ x vs from h) hy
end Go.Tat

namespace Go.Tat
set_option linter.unusedVariables false

def addrOf : Value → Option Nat
  | .pointer (some a) => some a.block
  | .slice (some a) _ _ => some a.block
  | .map (some r) => some r
  | _ => none
/-- Where an object lies, and how many elements it has. -/
structure Hd where
  v : Value
  n : Nat
abbrev Mu := Nat → Hd

mutual
def VR (w : World) (M : Nat → Prop) (μ : Mu) (U : Nat → Prop) : AV → Value → Prop
  | .d t x, v => match t.agg with
    | true => ∃ vs, v = .agg vs ∧ CR w M t x vs.toList
    | false => CR w M t x [v]
  | .nil, v => v = .slice none 0 0
  | .own i, v => U i ∧ v = (μ i).v ∧ v.oneCell' = true
  | .ptr i off, v => U i ∧ ∃ b, (μ i).v = .pointer (some ⟨b, 0, none⟩) ∧ v = .pointer (some ⟨b, off, none⟩)
  | .aptr i, v => U i ∧ ∃ b, (μ i).v = .pointer (some ⟨b, 0, none⟩) ∧ v = .pointer (some ⟨b, 0, none⟩)
  | .rp i k e t p, v => U i ∧ k < (μ i).n ∧ ∃ b, addrOf (μ i).v = some b ∧ v = .pointer (some ⟨b, k * e.sz + p.off, none⟩)
  | .dp t x, v => ∃ ad vs, v = .pointer (some ad) ∧ ad.spot = none ∧ CR w M t x vs ∧ ∀ (j : Nat) u, vs[j]? = some u → w.cell? (ad.add j) = some u ∧ ¬ M ad.block
  | .agg cs, v => ∃ vs, v = .agg vs ∧ VRs w M μ U cs vs.toList ∧ ∀ u ∈ vs.toList, u.oneCell' = true
  | .tup cs, v => ∃ vs, v = .tuple vs ∧ VRs w M μ U cs vs.toList
  | .fn f a b, v => ∃ x y, v = .func (.func f) x y ∧ VRs w M μ U a x.toList ∧ VRs w M μ U b y.toList
  | .map i, v => U i ∧ v = (μ i).v ∧ v.oneCell' = true
  | .iter i, v => U i ∧ v = (μ i).v ∧ v.oneCell' = true
  | .raw u, v => v = u
  | .undef, v => True
def VRs (w : World) (M : Nat → Prop) (μ : Mu) (U : Nat → Prop) : List AV → List Value → Prop
  | [], vs => vs = []
  | a :: r, vs => ∃ v vs', vs = v :: vs' ∧ VR w M μ U a v ∧ VRs w M μ U r vs'
end

/-- What goes on: data stays, objects that are used stay where they are. -/
structure Next (w : World) (M : Nat → Prop) (μ : Mu) (U : Nat → Prop) (w' : World) (M' : Nat → Prop) (μ' : Mu) (U' : Nat → Prop) : Prop where
  ext : Ext w M w' M'
  mu : ∀ i, U i → μ' i = μ i
  use : ∀ i, U i → U' i

section
variable {w w' : World} {M M' : Nat → Prop} {μ μ' : Mu} {U U' : Nat → Prop}
theorem Ext.refl (w : World) (M : Nat → Prop) : Ext w M w M := fun a v h h' => ⟨h, h'⟩
theorem Ext.sub (w : World) {M M' : Nat → Prop} (h : ∀ b, M' b → M b) : Ext w M w M' := fun a v h1 h2 => ⟨h1, fun h3 => h2 (h _ h3)⟩
theorem Ext.trans {a b c : World} {A B C : Nat → Prop} (h : Ext a A b B) (k : Ext b B c C) : Ext a A c C :=
  fun ad v h1 h2 => let ⟨h3, h4⟩ := h ad v h1 h2; k ad v h3 h4
theorem Next.refl : Next w M μ U w M μ U := ⟨Ext.refl _ _, fun _ _ => rfl, fun _ h => h⟩
theorem Next.trans {w2 : World} {M2 : Nat → Prop} {μ2 : Mu} {U2 : Nat → Prop} (h : Next w M μ U w' M' μ' U') (k : Next w' M' μ' U' w2 M2 μ2 U2) : Next w M μ U w2 M2 μ2 U2 :=
  ⟨h.ext.trans k.ext, fun i hi => (k.mu i (h.use i hi)).trans (h.mu i hi), fun i hi => k.use i (h.use i hi)⟩

mutual
theorem VR_mono (hx : Next w M μ U w' M' μ' U') : ∀ (a : AV) (v : Value), VR w M μ U a v → VR w' M' μ' U' a v
  | .d t x, v, h => by
    unfold VR at *
    cases ht : t.agg with
    | true => simp only [ht] at h ⊢; obtain ⟨vs, h1, h2⟩ := h; exact ⟨vs, h1, CR_mono hx.ext _ _ _ h2⟩
    | false => simp only [ht] at h ⊢; exact CR_mono hx.ext _ _ _ h
  | .nil, v, h => by unfold VR at *; exact h
  | .own i, v, h => by unfold VR at *; exact ⟨hx.use i h.1, by rw [hx.mu i h.1]; exact h.2⟩
  | .ptr i off, v, h => by unfold VR at *; exact ⟨hx.use i h.1, by rw [hx.mu i h.1]; exact h.2⟩
  | .aptr i, v, h => by unfold VR at *; exact ⟨hx.use i h.1, by rw [hx.mu i h.1]; exact h.2⟩
  | .rp i k e t p, v, h => by unfold VR at *; exact ⟨hx.use i h.1, by rw [hx.mu i h.1]; exact h.2⟩
  | .dp t x, v, h => by
    unfold VR at *
    obtain ⟨ad, vs, h1, h2, h3, h4⟩ := h
    refine ⟨ad, vs, h1, h2, CR_mono hx.ext _ _ _ h3, fun j u hj => ?_⟩
    have h5 := h4 j u hj
    have h6 := hx.ext _ _ h5.1 (by rw [Addr.add_block]; exact h5.2)
    rw [Addr.add_block] at h6
    exact h6
  | .agg cs, v, h => by unfold VR at *; obtain ⟨vs, h1, h2, h3⟩ := h; exact ⟨vs, h1, VRs_mono hx cs _ h2, h3⟩
  | .tup cs, v, h => by unfold VR at *; obtain ⟨vs, h1, h2⟩ := h; exact ⟨vs, h1, VRs_mono hx cs _ h2⟩
  | .fn f a b, v, h => by unfold VR at *; obtain ⟨x, y, h1, h2, h3⟩ := h; exact ⟨x, y, h1, VRs_mono hx a _ h2, VRs_mono hx b _ h3⟩
  | .map i, v, h => by unfold VR at *; exact ⟨hx.use i h.1, by rw [hx.mu i h.1]; exact h.2⟩
  | .iter i, v, h => by unfold VR at *; exact ⟨hx.use i h.1, by rw [hx.mu i h.1]; exact h.2⟩
  | .raw u, v, h => by unfold VR at *; exact h
  | .undef, v, h => by unfold VR; trivial
theorem VRs_mono (hx : Next w M μ U w' M' μ' U') : ∀ (a : List AV) (v : List Value), VRs w M μ U a v → VRs w' M' μ' U' a v
  | [], v, h => by unfold VRs at *; exact h
  | a :: r, v, h => by unfold VRs at *; obtain ⟨x, xs, h1, h2, h3⟩ := h; exact ⟨x, xs, h1, VR_mono hx a _ h2, VRs_mono hx r _ h3⟩
end

theorem VRs_len : ∀ (a : List AV) (v : List Value), VRs w M μ U a v → a.length = v.length
  | [], v, h => by unfold VRs at h; simp [h]
  | a :: r, v, h => by unfold VRs at h; obtain ⟨x, xs, h1, h2, h3⟩ := h; simp [h1, VRs_len r _ h3]
theorem VRs_append : ∀ {a b : List AV} {v u : List Value}, VRs w M μ U a v → VRs w M μ U b u → VRs w M μ U (a ++ b) (v ++ u)
  | [], b, v, u, h, k => by unfold VRs at h; simpa [h] using k
  | a :: r, b, v, u, h, k => by
    unfold VRs at h; obtain ⟨x, xs, h1, h2, h3⟩ := h
    rw [List.cons_append]; unfold VRs
    exact ⟨x, xs ++ u, by rw [h1]; rfl, h2, VRs_append h3 k⟩
theorem VRs_take : ∀ (n : Nat) {a : List AV} {v : List Value}, VRs w M μ U a v → VRs w M μ U (a.take n) (v.take n)
  | 0, a, v, h => by simp [VRs]
  | n + 1, [], v, h => by unfold VRs at h; simp [h, VRs]
  | n + 1, a :: r, v, h => by
    unfold VRs at h; obtain ⟨x, xs, h1, h2, h3⟩ := h
    rw [h1, List.take_succ_cons, List.take_succ_cons]; unfold VRs
    exact ⟨x, _, rfl, h2, VRs_take n h3⟩
theorem VRs_drop : ∀ (n : Nat) {a : List AV} {v : List Value}, VRs w M μ U a v → VRs w M μ U (a.drop n) (v.drop n)
  | 0, a, v, h => by simpa using h
  | n + 1, [], v, h => by unfold VRs at h; simp [h, VRs]
  | n + 1, a :: r, v, h => by
    unfold VRs at h; obtain ⟨x, xs, h1, h2, h3⟩ := h
    rw [h1, List.drop_succ_cons, List.drop_succ_cons]
    exact VRs_drop n h3
theorem VRs_split : ∀ {a b : List AV} {v : List Value}, VRs w M μ U (a ++ b) v → ∃ v1 v2, v = v1 ++ v2 ∧ VRs w M μ U a v1 ∧ VRs w M μ U b v2
  | [], b, v, h => ⟨[], v, rfl, by unfold VRs; rfl, h⟩
  | a :: r, b, v, h => by
    rw [List.cons_append] at h
    unfold VRs at h; obtain ⟨x, xs, h1, h2, h3⟩ := h
    obtain ⟨v1, v2, h4, h5, h6⟩ := VRs_split h3
    exact ⟨x :: v1, v2, by rw [h1, h4]; rfl, by unfold VRs; exact ⟨x, v1, rfl, h2, h5⟩, h6⟩
theorem VRs_nth : ∀ (n : Nat) {a : List AV} {v : List Value}, VRs w M μ U a v → ∀ u, v[n]? = some u → VR w M μ U (nthAV a n) u
  | n, [], v, h, u, hu => by unfold VRs at h; simp [h] at hu
  | 0, a :: r, v, h, u, hu => by
    unfold VRs at h; obtain ⟨x, xs, h1, h2, h3⟩ := h
    rw [h1] at hu; simp at hu; subst hu; exact h2
  | n + 1, a :: r, v, h, u, hu => by
    unfold VRs at h; obtain ⟨x, xs, h1, h2, h3⟩ := h
    rw [h1] at hu; simp at hu
    exact VRs_nth n h3 u hu
theorem setCells_len : ∀ (a : List AV) (off : Nat) (b : List AV), off + b.length ≤ a.length → (setCells a off b).length = a.length
  | a, 0, b, h => by simp [setCells]; omega
  | [], off + 1, b, h => by simp at h
  | a :: r, off + 1, b, h => by simp [setCells]; exact setCells_len r off b (by simp at h; omega)
theorem VRs_set : ∀ {a : List AV} (off : Nat) {b : List AV} {v u : List Value}, off + b.length ≤ a.length → VRs w M μ U a v → VRs w M μ U b u →
    VRs w M μ U (setCells a off b) (v.take off ++ u ++ v.drop (off + u.length))
  | a, 0, b, v, u, hl, h, k => by
    have := VRs_drop b.length h
    rw [VRs_len _ _ k] at this
    simpa [setCells, VRs_len _ _ k] using VRs_append k this
  | [], off + 1, b, v, u, hl, h, k => by simp at hl
  | a :: r, off + 1, b, v, u, hl, h, k => by
    unfold VRs at h; obtain ⟨x, xs, h1, h2, h3⟩ := h
    have := VRs_set off (by simp at hl; omega) h3 k
    simp only [setCells]; unfold VRs
    refine ⟨x, _, ?_, h2, this⟩
    rw [h1, show off + 1 + u.length = (off + u.length) + 1 by omega]
    simp
end

/-- Entries of a map. -/
def EntR (w : World) (M : Nat → Prop) (k v : Ty) : List (k.den × v.den) → List MapEntry → Prop
  | [], es => es = []
  | p :: r, es => ∃ e es', es = e :: es' ∧ (CR w M k p.1 [e.key] ∧ VR w M (fun _ => ⟨undef, 0⟩) (fun _ => False) (.d v p.2) e.val) ∧ EntR w M k v r es'

/-- An object in a world. -/
def objOK (w : World) (M : Nat → Prop) (μ : Mu) (U : Nat → Prop) (i : Nat) : AObj → Prop
  | .row tid e l true => (μ i).n = l.length ∧ ∃ xs, w.ownsRow 0 tid e.sz (μ i).v l.length xs ∧ CRL (CR w M e) l xs
  | .row tid e l false => (μ i).n = l.length ∧ CR w M (.slice e) l [(μ i).v] ∧ ∀ ad n c, (μ i).v = .slice (some ad) n c → ad.off = 0 ∧ ad.spot = none
  | .arr n e l => (μ i).n = l.length ∧ ∃ b vs tid, (μ i).v = .pointer (some ⟨b, 0, none⟩) ∧ w.heap[b]? = some (.cells vs tid (0, 0)) ∧ CR w M (.arr n e) l vs.toList
  | .var cs _ => ∃ b vs tid, (μ i).v = .pointer (some ⟨b, 0, none⟩) ∧ w.heap[b]? = some (.cells vs tid (0, 0)) ∧ VRs w M μ U cs vs.toList ∧ ∀ u ∈ vs.toList, u.oneCell' = true
  | .map k v m => ∃ r es c, (μ i).v = .map (some r) ∧ w.heap[r]? = some (.map es c) ∧ EntR w M k v m es.toList
  | .iter s pos => ∃ r, (μ i).v = .pointer (some ⟨r, 0, none⟩) ∧ w.heap[r]? = some (.stringIter s pos)
  | .dead => True

/-- The block that an object may change. -/
def mutB : AObj → Value → Option Nat
  | .row _ _ _ true, v => v.ownBlock
  | .arr _ _ _, v => addrOf v
  | .var _ true, v => addrOf v
  | .map _ _ _, v => addrOf v
  | .iter _ _, v => addrOf v
  | _, _ => none
/-- The blocks that may be changed: others', and one's own objects'. -/
def MM (Mo : Nat → Prop) (μ : Mu) (H : Heap) : Nat → Prop := fun b => Mo b ∨ ∃ i, mutB (hget H i) (μ i).v = some b

/-- The world has grown, and nothing else about it has turned. -/
structure Grew (w w' : World) : Prop where
  le : w.heap.size ≤ w'.heap.size
  os : w'.os = w.os
  output : w'.output = w.output
  tape : w'.tape = w.tape
  drawn : w.drawn ≤ w'.drawn
theorem Grew.refl (w : World) : Grew w w := ⟨Nat.le_refl _, rfl, rfl, rfl, Nat.le_refl _⟩
theorem Grew.trans {a b c : World} (h : Grew a b) (k : Grew b c) : Grew a c := ⟨Nat.le_trans h.le k.le, k.os.trans h.os, k.output.trans h.output, k.tape.trans h.tape, Nat.le_trans h.drawn k.drawn⟩

structure HS (w0 : World) (B0 Mo : Nat → Prop) (w : World) (μ : Mu) (U : Nat → Prop) (H : Heap) : Prop where
  obj : ∀ i, objOK w (MM Mo μ H) μ U i (hget H i)
  inj : ∀ i j b, mutB (hget H i) (μ i).v = some b → mutB (hget H j) (μ j).v = some b → i = j
  out : ∀ i b, mutB (hget H i) (μ i).v = some b → ¬ Mo b ∧ b < w.heap.size ∧ (B0 b ∨ w0.heap.size ≤ b)
  ro : ∀ i cs, hget H i = .var cs false → ∃ b, addrOf (μ i).v = some b ∧ b < w.heap.size ∧ ∀ j, mutB (hget H j) (μ j).v ≠ some b
  use : ∀ i, hget H i = .dead ∨ U i
  mo : ∀ b, Mo b → b < w0.heap.size
  grow : Grew w0 w
  keep : ∀ b, b < w0.heap.size → ¬ B0 b → w.heap[b]? = w0.heap[b]?

/-- An object as it was, gone, or changed no more. -/
def LeO (o o' : AObj) : Prop := o' = o ∨ o' = .dead ∨ ∃ tid e l b, o = .row tid e l b ∧ o' = .row tid e l false

theorem EntR_mono {w w' : World} {M M' : Nat → Prop} (hx : Ext w M w' M') {k v : Ty} : ∀ (m : List (k.den × v.den)) (es : List MapEntry), EntR w M k v m es → EntR w' M' k v m es
  | [], es, h => h
  | p :: r, es, h => by
    obtain ⟨e, es', h1, h2, h3⟩ := h
    exact ⟨e, es', h1, ⟨CR_mono hx _ _ _ h2.1, VR_mono ⟨hx, fun _ _ => rfl, fun _ h => h⟩ _ _ h2.2⟩, EntR_mono hx r _ h3⟩

section
variable {w w' : World} {M M' : Nat → Prop} {μ μ' : Mu} {U U' : Nat → Prop}
theorem ownsRow_same {base : Nat} {e : TypeId} {size : Nat} {v : Value} {n : Nat} {xs : List Value} (h : w.ownsRow base e size v n xs)
    (hb : ∀ b, v.ownBlock = some b → w'.heap[b]? = w.heap[b]?) : w'.ownsRow base e size v n xs := by
  refine ⟨h.1, ?_⟩
  rcases h.2 with hn | ⟨g, cap, cur, rfl, hbs, hgg, rest⟩
  · exact .inl hn
  · exact .inr ⟨g, cap, cur, rfl, hbs, by rw [hb g rfl]; exact hgg, rest⟩
theorem ptr_addr {v : Value} {b : Nat} (h : v = .pointer (some ⟨b, 0, none⟩)) : addrOf v = some b := by rw [h]; rfl

theorem objOK_mono (hx : Next w M μ U w' M' μ' U') {i : Nat} (hi : μ' i = μ i) {o : AObj} (hb : ∀ b, mutB o (μ i).v = some b → w'.heap[b]? = w.heap[b]?)
    (hr : ∀ cs, o = .var cs false → ∀ b, addrOf (μ i).v = some b → w'.heap[b]? = w.heap[b]?) (h : objOK w M μ U i o) : objOK w' M' μ' U' i o := by
  cases o with
  | row tid e l live =>
    cases live with
    | true =>
      obtain ⟨hn, xs, h1, h2⟩ := h
      refine ⟨by rw [hi]; exact hn, xs, ?_, h2.mono fun x c _ hc => CR_mono hx.ext _ _ _ hc⟩
      rw [hi]
      exact ownsRow_same h1 hb
    | false => exact ⟨by rw [hi]; exact h.1, by rw [hi]; exact CR_mono hx.ext _ _ _ h.2.1, by rw [hi]; exact h.2.2⟩
  | arr n e l =>
    obtain ⟨hn, b, vs, tid, h1, h2, h3⟩ := h
    exact ⟨by rw [hi]; exact hn, b, vs, tid, by rw [hi]; exact h1, by rw [hb b (ptr_addr h1)]; exact h2, CR_mono hx.ext _ _ _ h3⟩
  | var cs wr =>
    obtain ⟨b, vs, tid, h1, h2, h3, h4⟩ := h
    refine ⟨b, vs, tid, by rw [hi]; exact h1, ?_, VRs_mono hx _ _ h3, h4⟩
    cases wr with
    | true => rw [hb b (ptr_addr h1)]; exact h2
    | false => rw [hr cs rfl b (ptr_addr h1)]; exact h2
  | map k v m =>
    obtain ⟨r, es, c, h1, h2, h3⟩ := h
    exact ⟨r, es, c, by rw [hi]; exact h1, by rw [hb r (by simp [mutB, addrOf, h1])]; exact h2, EntR_mono hx.ext _ _ h3⟩
  | iter s pos =>
    obtain ⟨r, h1, h2⟩ := h
    exact ⟨r, by rw [hi]; exact h1, by rw [hb r (ptr_addr h1)]; exact h2⟩
  | dead => trivial

theorem ownsRow_off {base : Nat} {e : TypeId} {size : Nat} {v : Value} {n : Nat} {xs : List Value} (h : w.ownsRow base e size v n xs) : ∀ ad m c, v = .slice (some ad) m c → ad.off = 0 ∧ ad.spot = none := by
  intro ad m c hv
  rcases h.2 with ⟨h1, _⟩ | ⟨g, cap, cur, h1, _⟩
  · rw [h1] at hv; cases hv
  · rw [h1] at hv; cases hv; exact ⟨rfl, rfl⟩
/-- A row that is changed no more, as data. -/
theorem row_data {tid : TypeId} {e : Ty} {l : List e.den} {v : Value} {xs : List Value} (h : w.ownsRow 0 tid e.sz v l.length xs) (hl : CRL (CR w M e) l xs)
    (hm : ∀ b, v.ownBlock = some b → ¬ M b) : CR w M (.slice e) l [v] := by
  rcases h.2 with ⟨h1, h2⟩ | ⟨g, cap, cur, rfl, _, hg, hn, hc, hs, ht⟩
  · exact ⟨none, 0, by rw [h1, h2], by omega, rfl⟩
  · refine ⟨some ⟨g, 0, none⟩, cap, rfl, hn, rfl, xs, hl, fun j u hj => ⟨?_, hm g rfl⟩⟩
    exact h.cells (g := g) rfl j u hj
end

def upd (μ : Mu) (i : Nat) (x : Hd) : Mu := fun j => if j = i then x else μ j

/-- THE STEP: object i is laid or changed; others stay, go, or are changed no more. 'C': the blocks that are changed or taken over. -/
theorem HS.step {w0 : World} {B0 Mo : Nat → Prop} {w : World} {μ : Mu} {U : Nat → Prop} {H : Heap} (h : HS w0 B0 Mo w μ U H) (i : Nat) (o' : AObj) (H' : Heap) (w' : World) (x : Hd) (C : Nat → Prop)
    (hH : hget H' i = o') (hO : ∀ j, j ≠ i → LeO (hget H j) (hget H' j))
    (hC : ∀ k, C k → ∃ j, mutB (hget H j) (μ j).v = some k ∧ (j = i ∨ hget H' j = .dead))
    (hk : ∀ k, k < w.heap.size → ¬ C k → w'.heap[k]? = w.heap[k]?) (hs : Grew w w')
    (hb : ∀ b, mutB o' x.v = some b → (C b ∨ w.heap.size ≤ b) ∧ b < w'.heap.size) (hr : ∀ cs, o' ≠ .var cs false)
    (hU : U i → x = μ i)
    (ho : ∀ M', Ext w (MM Mo μ H) w' M' → (∀ j b, mutB (hget H j) (μ j).v = some b → ¬ C b → mutB o' x.v ≠ some b → (j = i ∨ mutB (hget H' j) (μ j).v = none) → ¬ M' b) → objOK w' M' (upd μ i x) (fun j => U j ∨ j = i) i o') :
    HS w0 B0 Mo w' (upd μ i x) (fun j => U j ∨ j = i) H' ∧ Next w (MM Mo μ H) μ U w' (MM Mo (upd μ i x) H') (upd μ i x) (fun j => U j ∨ j = i) := by
  have hui : upd μ i x i = x := by simp [upd]
  have huj : ∀ j, j ≠ i → upd μ i x j = μ j := fun j hj => by simp [upd, hj]
  have hmut : ∀ j b, j ≠ i → mutB (hget H' j) (μ j).v = some b → mutB (hget H j) (μ j).v = some b := fun j b hj hm => by
    rcases hO j hj with h1 | h1 | ⟨tid, e, l, c, h1, h2⟩
    · rw [h1] at hm; exact hm
    · rw [h1] at hm; cases hm
    · rw [h2] at hm; cases hm
  have hCM : ∀ k, C k → MM Mo μ H k := fun k hc => let ⟨j, hj, _⟩ := hC k hc; .inr ⟨j, hj⟩
  have hnC : ∀ j b, j ≠ i → hget H' j ≠ .dead → mutB (hget H j) (μ j).v = some b → ¬ C b := fun j b hj hd hm hc => by
    obtain ⟨j0, h1, h2⟩ := hC b hc
    have := h.inj j j0 b hm h1
    subst this
    exact h2.elim hj hd
  have hdead : ∀ j b, mutB (hget H' j) (μ j).v = some b → hget H' j ≠ .dead := fun j b hm hd => by rw [hd] at hm; cases hm
  have hM' : ∀ k, k < w.heap.size → MM Mo (upd μ i x) H' k → MM Mo μ H k := fun k hlt hm => by
    rcases hm with hm | ⟨j, hj⟩
    · exact .inl hm
    · by_cases hji : j = i
      · subst hji
        rw [hui, hH] at hj
        rcases (hb k hj).1 with h1 | h1
        · exact hCM k h1
        · omega
      · rw [huj j hji] at hj
        exact .inr ⟨j, hmut j k hji hj⟩
  have hext : Ext w (MM Mo μ H) w' (MM Mo (upd μ i x) H') := fun a v hc hm => by
    have hlt := World.block_lt_of_cell? w a hc
    refine ⟨?_, fun hm' => hm (hM' _ hlt hm')⟩
    rw [World.cell?_of_block (hk a.block hlt fun hcc => hm (hCM _ hcc))]
    exact hc
  have hnext : Next w (MM Mo μ H) μ U w' (MM Mo (upd μ i x) H') (upd μ i x) (fun j => U j ∨ j = i) :=
    ⟨hext, fun j hj => by by_cases hji : j = i; · subst hji; rw [hui]; exact hU hj
                          · exact huj j hji, fun j hj => .inl hj⟩
  refine ⟨⟨fun j => ?_, fun j1 j2 b h1 h2 => ?_, fun j b hj => ?_, fun j cs hj => ?_, fun j => ?_, h.mo, h.grow.trans hs, fun b hlt hnb => ?_⟩, hnext⟩
  · by_cases hji : j = i
    · subst hji; rw [hH]
      refine ho _ hext fun j0 b hm hnc hne hn hmm => ?_
      rcases hmm with hmm | ⟨j1, hj1⟩
      · exact (h.out j0 b hm).1 hmm
      · by_cases hj1i : j1 = j
        · subst hj1i; rw [hui, hH] at hj1; exact hne hj1
        · rw [huj j1 hj1i] at hj1
          have := h.inj j1 j0 b (hmut j1 b hj1i hj1) hm
          subst this
          exact hn.elim hj1i fun hn => by rw [hn] at hj1; cases hj1
    · rcases hO j hji with h1 | h1 | ⟨tid, e, l, c, h1, h2⟩
      · rw [h1]
        refine objOK_mono hnext (huj j hji) (fun b hb' => ?_) (fun cs hcs b hb' => ?_) (h.obj j)
        · exact hk b (h.out j b hb').2.1 (hnC j b hji (by rw [h1]; intro hd; rw [hd] at hb'; cases hb') hb')
        · obtain ⟨b', hb1, hb2, hb3⟩ := h.ro j cs hcs
          rw [hb1] at hb'; cases hb'
          exact hk b hb2 fun hc => by obtain ⟨j0, h3, _⟩ := hC b hc; exact hb3 j0 h3
      · rw [h1]; trivial
      · rw [h2]
        have h3 := h.obj j
        rw [h1] at h3
        cases c with
        | false => exact ⟨by rw [huj j hji]; exact h3.1, by rw [huj j hji]; exact CR_mono hext _ _ _ h3.2.1, by rw [huj j hji]; exact h3.2.2⟩
        | true =>
          obtain ⟨hn, xs, h4, h5⟩ := h3
          refine ⟨by rw [huj j hji]; exact hn, ?_, by rw [huj j hji]; exact ownsRow_off h4⟩
          rw [huj j hji]
          have hmj : ∀ b, (μ j).v.ownBlock = some b → mutB (hget H j) (μ j).v = some b := fun b hb' => by rw [h1]; exact hb'
          have hnc : ∀ b, (μ j).v.ownBlock = some b → ¬ C b := fun b hb' => hnC j b hji (by rw [h2]; intro hd; cases hd) (hmj b hb')
          refine row_data (ownsRow_same h4 fun b hb' => hk b (h.out j b (hmj b hb')).2.1 (hnc b hb')) (h5.mono fun y c _ hc => CR_mono hext _ _ _ hc) fun b hb' hm => ?_
          rcases hm with hm | ⟨j', hj'⟩
          · exact (h.out j b (hmj b hb')).1 hm
          · by_cases hji' : j' = i
            · subst hji'
              rw [hui, hH] at hj'
              rcases (hb b hj').1 with h6 | h6
              · exact hnc b hb' h6
              · have := (h.out j b (hmj b hb')).2.1; omega
            · rw [huj j' hji'] at hj'
              have := h.inj j j' b (hmj b hb') (hmut j' b hji' hj')
              subst this
              rw [h2] at hj'; cases hj'
  · have key : ∀ j b, j ≠ i → mutB (hget H' i) x.v = some b → mutB (hget H' j) (μ j).v = some b → False := fun j b hji h3 h4 => by
      rw [hH] at h3
      have h5 := hmut j b hji h4
      rcases (hb b h3).1 with h6 | h6
      · exact hnC j b hji (hdead j b h4) h5 h6
      · have := (h.out j b h5).2.1; omega
    by_cases e1 : j1 = i <;> by_cases e2 : j2 = i
    · rw [e1, e2]
    · subst e1; rw [hui] at h1; rw [huj j2 e2] at h2; exact (key j2 b e2 h1 h2).elim
    · subst e2; rw [hui] at h2; rw [huj j1 e1] at h1; exact (key j1 b e1 h2 h1).elim
    · rw [huj j1 e1] at h1; rw [huj j2 e2] at h2
      exact h.inj j1 j2 b (hmut j1 b e1 h1) (hmut j2 b e2 h2)
  · by_cases hji : j = i
    · subst hji
      rw [hui, hH] at hj
      obtain ⟨h1, h2⟩ := hb b hj
      rcases h1 with h1 | h1
      · obtain ⟨j0, h3, _⟩ := hC b h1
        exact ⟨(h.out j0 b h3).1, h2, (h.out j0 b h3).2.2⟩
      · exact ⟨fun hm => by have := h.mo b hm; have := h.grow.le; omega, h2, .inr (Nat.le_trans h.grow.le h1)⟩
    · rw [huj j hji] at hj
      have h1 := h.out j b (hmut j b hji hj)
      exact ⟨h1.1, Nat.lt_of_lt_of_le h1.2.1 hs.le, h1.2.2⟩
  · by_cases hji : j = i
    · subst hji; rw [hH] at hj; exact (hr cs hj).elim
    · rcases hO j hji with h1 | h1 | ⟨tid, e, l, c, h1, h2⟩
      · rw [h1] at hj
        obtain ⟨b, hb1, hb2, hb3⟩ := h.ro j cs hj
        refine ⟨b, by rw [huj j hji]; exact hb1, Nat.lt_of_lt_of_le hb2 hs.le, fun j' hj' => ?_⟩
        by_cases hji' : j' = i
        · subst hji'
          rw [hui, hH] at hj'
          rcases (hb b hj').1 with h6 | h6
          · obtain ⟨j0, h3, _⟩ := hC b h6; exact hb3 j0 h3
          · omega
        · rw [huj j' hji'] at hj'; exact hb3 j' (hmut j' b hji' hj')
      · rw [h1] at hj; cases hj
      · rw [h2] at hj; cases hj
  · by_cases hji : j = i
    · exact .inr (.inr hji)
    · rcases h.use j with h1 | h1
      · rcases hO j hji with h2 | h2 | ⟨tid, e, l, c, h2, h3⟩
        · exact .inl (h2.trans h1)
        · exact .inl h2
        · rw [h1] at h2; cases h2
      · exact .inr (.inl h1)
  · have hnc : ¬ C b := fun hc => by
      obtain ⟨j0, h3, _⟩ := hC b hc
      rcases (h.out j0 b h3).2.2 with h4 | h4
      · exact hnb h4
      · omega
    rw [hk b (Nat.lt_of_lt_of_le hlt h.grow.le) hnc]
    exact h.keep b hlt hnb
end Go.Tat

namespace Go.Tat
set_option linter.unusedVariables false

theorem castD_spec {a b : Ty} {x : a.den} {y : b.den} (h : castD a b x = some y) : ∃ e : a = b, y = e ▸ x := by
  unfold castD at h
  split at h
  · rename_i hb
    have e := Ty.eq_of_beq hb
    subst e
    simp at h
    exact ⟨rfl, h.symm⟩
  · cases h
theorem oneB_eq (v : Value) : oneB v = v.oneCell' := by cases v <;> rfl

/-! ### Heaps -/
theorem hget_cons (k : Nat) (o : AObj) (r : Heap) (i : Nat) : hget ((k, o) :: r) i = if k = i then o else hget r i := by
  simp only [hget]
  by_cases h : k = i
  · subst h; simp
  · have : Nat.beq k i = false := by
      cases hb : Nat.beq k i with
      | false => rfl
      | true => exact (h (Nat.eq_of_beq_eq_true hb)).elim
    simp [this, h]
theorem memN_iff {l : List Nat} {i : Nat} : memN l i = true ↔ i ∈ l := by
  induction l with
  | nil => simp [memN]
  | cons x r ih =>
    simp only [memN, Bool.or_eq_true, ih, List.mem_cons]
    constructor
    · rintro (h | h)
      · exact .inl (Nat.eq_of_beq_eq_true h).symm
      · exact .inr h
    · rintro (h | h)
      · exact .inl (by rw [h]; exact Nat.beq_refl x)
      · exact .inr h
theorem hget_freeze (H G : Heap) : ∀ (ids : List Nat) (j : Nat), hget (freeze H ids ++ G) j = hget G j ∨ (j ∈ ids ∧ ∃ tid e l b, hget H j = .row tid e l b ∧ hget (freeze H ids ++ G) j = .row tid e l false)
  | [], j => .inl rfl
  | i :: r, j => by
    simp only [freeze]
    cases hi : hget H i with
    | row tid e l b =>
      simp only []
      rw [List.cons_append, hget_cons]
      by_cases hij : i = j
      · subst hij; rw [if_pos rfl]; exact .inr ⟨by simp, tid, e, l, b, hi, rfl⟩
      · rw [if_neg hij]
        exact (hget_freeze H G r j).imp id fun ⟨h1, h2⟩ => ⟨by simp [h1], h2⟩
    | _ => exact (hget_freeze H G r j).imp id fun ⟨h1, h2⟩ => ⟨by simp [h1], h2⟩
theorem hget_freeze_mem (H G : Heap) : ∀ (ids : List Nat) (j : Nat), j ∈ ids → ∀ tid e l b, hget H j = .row tid e l b → hget (freeze H ids ++ G) j = .row tid e l false
  | i :: r, j, hj, tid, e, l, b, h => by
    simp only [freeze]
    by_cases hij : i = j
    · subst hij; simp only [h]; rw [List.cons_append, hget_cons, if_pos rfl]
    · have h1 := hget_freeze_mem H G r j (by simpa [Ne.symm hij] using hj) tid e l b h
      cases hi : hget H i with
      | row => simp only []; rw [List.cons_append, hget_cons, if_neg hij]; exact h1
      | _ => exact h1
theorem hget_kill (G : Heap) : ∀ (ids : List Nat) (j : Nat), hget (kill ids ++ G) j = if j ∈ ids then .dead else hget G j
  | [], j => by simp [kill]
  | i :: r, j => by
    simp only [kill]
    rw [List.cons_append, hget_cons, hget_kill G r j]
    by_cases hij : i = j
    · subst hij; simp
    · simp [hij, Ne.symm hij]
theorem LeO.refl (o : AObj) : LeO o o := .inl rfl
theorem LeO_freeze (H : Heap) (ids : List Nat) (j : Nat) : LeO (hget H j) (hget (freeze H ids ++ H) j) := by
  rcases hget_freeze H H ids j with h | ⟨_, tid, e, l, b, h1, h2⟩
  · exact .inl h
  · exact .inr (.inr ⟨tid, e, l, b, h1, h2⟩)

section
variable {w : World} {M M' : Nat → Prop} {μ : Mu} {U : Nat → Prop} {H : Heap}
theorem VR_d (t : Ty) (x : t.den) (u : Value) : VR w M μ U (.d t x) u ↔ (match t.agg with
    | true => ∃ vs, u = .agg vs ∧ CR w M t x vs.toList
    | false => CR w M t x [u]) := by unfold VR; exact Iff.rfl
theorem VR_d0 {t : Ty} {x : t.den} {u : Value} (ht : t.agg = false) : VR w M μ U (.d t x) u ↔ CR w M t x [u] := by rw [VR_d, ht]
theorem VR_d1 {t : Ty} {x : t.den} {u : Value} (ht : t.agg = true) : VR w M μ U (.d t x) u ↔ ∃ vs, u = .agg vs ∧ CR w M t x vs.toList := by rw [VR_d, ht]
theorem VR_int {k : IntKind} {x : Int} {u : Value} : VR w M μ U (.d (.int k) x) u ↔ u = .int k x := by
  rw [VR_d0 rfl]; unfold CR; simp
theorem VR_bool {x : Bool} {u : Value} : VR w M μ U (.d .bool x) u ↔ u = .bool x := by
  rw [VR_d0 rfl]; unfold CR; simp
theorem VR_str {x : ByteArray} {u : Value} : VR w M μ U (.d .str x) u ↔ u = .string x := by
  rw [VR_d0 rfl]; unfold CR; simp
theorem VR_any_data {μ' : Mu} {U' : Nat → Prop} {t : Ty} {x : t.den} {u : Value} (h : VR w M μ U (.d t x) u) : VR w M μ' U' (.d t x) u := by rwa [VR_d] at h ⊢
theorem VR_data_mono {w' : World} {μ' : Mu} {U' : Nat → Prop} (hx : Ext w M w' M') {t : Ty} {x : t.den} {u : Value} (h : VR w M μ U (.d t x) u) : VR w' M' μ' U' (.d t x) u := by
  rw [VR_d] at h ⊢
  cases ht : t.agg with
  | true => simp only [ht] at h ⊢; obtain ⟨vs, h1, h2⟩ := h; exact ⟨vs, h1, CR_mono hx _ _ _ h2⟩
  | false => simp only [ht] at h ⊢; exact CR_mono hx _ _ _ h

/-- What a world's data need when some rows become data. -/
def Frees (H : Heap) (μ : Mu) (ids : List Nat) (M' : Nat → Prop) : Prop := ∀ i ∈ ids, ∀ tid e l, hget H i = .row tid e l true → ∀ b, (μ i).v.ownBlock = some b → ¬ M' b

/-- Without the blocks of rows that become data. -/
def Mfz (H : Heap) (μ : Mu) (ids : List Nat) (M : Nat → Prop) : Nat → Prop := fun b => M b ∧ ¬ ∃ i ∈ ids, ∃ tid e l, hget H i = .row tid e l true ∧ (μ i).v.ownBlock = some b
theorem Frees_Mfz (H : Heap) (μ : Mu) (ids : List Nat) (M : Nat → Prop) : Frees H μ ids (Mfz H μ ids M) := fun i hi tid e l hg b hb hm => hm.2 ⟨i, hi, tid, e, l, hg, hb⟩
theorem Ext_Mfz (w : World) (H : Heap) (μ : Mu) (ids : List Nat) (M : Nat → Prop) : Ext w M w (Mfz H μ ids M) := Ext.sub w fun b h => h.1
theorem Ext_of_Mfz {w' : World} {ids : List Nat} (hx : Ext w M w' M') (hf : Frees H μ ids M') (hk : ∀ i ∈ ids, ∀ tid e l, hget H i = .row tid e l true → ∀ b, (μ i).v.ownBlock = some b → w'.heap[b]? = w.heap[b]?) : Ext w (Mfz H μ ids M) w' M' := fun ad v hc hm => by
  by_cases h : M ad.block
  · by_cases h2 : ∃ i ∈ ids, ∃ tid e l, hget H i = .row tid e l true ∧ (μ i).v.ownBlock = some ad.block
    · obtain ⟨i, hi, tid, e, l, hg, hb⟩ := h2
      exact ⟨by rw [World.cell?_of_block (hk i hi tid e l hg _ hb)]; exact hc, hf i hi tid e l hg _ hb⟩
    · exact (hm ⟨h, h2⟩).elim
  · exact hx ad v hc h

theorem cellTo_sound (ho : ∀ i, objOK w M μ U i (hget H i)) (hM : Ext w M w M') {t : Ty} {v : AV} {u : Value} {x : t.den} {ids : List Nat}
    (hv : VR w M μ U v u) (h : cellTo H t v = some (x, ids)) (hi : Frees H μ ids M') : VR w M' μ U (.d t x) u := by
  cases v with
  | d s y =>
    simp only [cellTo] at h
    split at h
    · rename_i z hz
      obtain ⟨rfl, rfl⟩ := castD_spec hz
      cases h
      exact VR_data_mono hM hv
    · cases h
  | nil =>
    cases t <;> simp only [cellTo] at h <;> try cases h
    rw [VR_d0 rfl]
    unfold VR at hv
    exact ⟨none, 0, by rw [hv]; rfl, Nat.le_refl _, rfl⟩
  | own i =>
    cases t <;> simp only [cellTo] at h <;> try cases h
    split at h
    · rename_i tid e' l live hg
      split at h
      · rename_i z hz
        obtain ⟨he, rfl⟩ := castD_spec hz
        cases he
        cases h
        rw [VR_d0 rfl]
        unfold VR at hv
        have h1 := ho i
        rw [hg] at h1
        rw [hv.2.1]
        cases live with
        | true =>
          obtain ⟨hn, xs, h2, h3⟩ := h1
          exact row_data h2 (h3.mono fun x c _ hc => CR_mono hM _ _ _ hc) fun b hb => hi i (by simp) _ _ _ hg b hb
        | false => exact CR_mono hM _ _ _ h1.2.1
      · cases h
    · cases h
  | _ => simp [cellTo] at h

theorem VRs_one {v : AV} {us : List Value} (h : VRs w M μ U [v] us) : ∃ u, us = [u] ∧ VR w M μ U v u := by
  unfold VRs at h
  obtain ⟨u, r, h1, h2, h3⟩ := h
  unfold VRs at h3
  exact ⟨u, by rw [h1, h3], h2⟩

theorem joinTy_sound (ho : ∀ i, objOK w M μ U i (hget H i)) (hM : Ext w M w M') : ∀ (t : Ty) {cs : List AV} {us : List Value} {x : t.den} {ids : List Nat},
    VRs w M μ U cs us → joinTy H t cs = some (x, ids) → Frees H μ ids M' → CR w M' t x us
  | .prod a b, cs, us, x, ids, hv, h, hi => by
    simp only [joinTy] at h
    split at h
    · rename_i y i z j h1 h2
      cases h
      refine ⟨us.take a.sz, us.drop a.sz, (List.take_append_drop _ _).symm, joinTy_sound ho hM a (VRs_take _ hv) h1 fun k hk => hi k (by simp [hk]), joinTy_sound ho hM b (VRs_drop _ hv) h2 fun k hk => hi k (by simp [hk])⟩
    · cases h
  | .box a, cs, us, x, ids, hv, h, hi => joinTy_sound (t := a) ho hM hv h hi
  | .arr _ _, cs, us, x, ids, hv, h, hi => by simp [joinTy] at h
  | .int k, cs, us, x, ids, hv, h, hi => by
    simp only [joinTy] at h
    split at h
    · obtain ⟨u, rfl, h1⟩ := VRs_one hv
      exact (VR_d0 rfl).1 (cellTo_sound ho hM h1 h hi)
    · cases h
  | .bool, cs, us, x, ids, hv, h, hi => by
    simp only [joinTy] at h
    split at h
    · obtain ⟨u, rfl, h1⟩ := VRs_one hv
      exact (VR_d0 rfl).1 (cellTo_sound ho hM h1 h hi)
    · cases h
  | .str, cs, us, x, ids, hv, h, hi => by
    simp only [joinTy] at h
    split at h
    · obtain ⟨u, rfl, h1⟩ := VRs_one hv
      exact (VR_d0 rfl).1 (cellTo_sound ho hM h1 h hi)
    · cases h
  | .slice e, cs, us, x, ids, hv, h, hi => by
    simp only [joinTy] at h
    split at h
    · obtain ⟨u, rfl, h1⟩ := VRs_one hv
      exact (VR_d0 rfl).1 (cellTo_sound ho hM h1 h hi)
    · cases h

theorem toD_sound (ho : ∀ i, objOK w M μ U i (hget H i)) (hM : Ext w M w M') {t : Ty} {v : AV} {u : Value} {x : t.den} {ids : List Nat}
    (hv : VR w M μ U v u) (h : toD H t v = some (x, ids)) (hi : Frees H μ ids M') : VR w M' μ U (.d t x) u := by
  unfold toD at h
  split at h
  · rename_i cs
    cases ht : t.agg with
    | false => rw [ht] at h; simp at h
    | true =>
      rw [ht] at h
      unfold VR at hv
      obtain ⟨vs, h1, h2, _⟩ := hv
      exact (VR_d1 ht).2 ⟨vs, h1, joinTy_sound ho hM t h2 h hi⟩
  · exact cellTo_sound ho hM hv h hi

theorem cellTo_rows {t : Ty} {v : AV} {x : t.den} {ids : List Nat} (h : cellTo H t v = some (x, ids)) : ∀ i ∈ ids, ∃ tid e l b, hget H i = .row tid e l b := by
  cases v with
  | d s y => simp only [cellTo] at h; split at h <;> cases h; intro i hi; cases hi
  | nil => cases t <;> simp only [cellTo] at h <;> cases h; intro i hi; cases hi
  | own i =>
    cases t <;> simp only [cellTo] at h <;> try cases h
    split at h
    · rename_i tid e' l live hg
      split at h
      · cases h; intro j hj; simp at hj; subst hj; exact ⟨_, _, _, _, hg⟩
      · cases h
    · cases h
  | _ => simp [cellTo] at h
theorem joinTy_rows : ∀ (t : Ty) {cs : List AV} {x : t.den} {ids : List Nat}, joinTy H t cs = some (x, ids) → ∀ i ∈ ids, ∃ tid e l b, hget H i = .row tid e l b
  | .prod a b, cs, x, ids, h => by
    simp only [joinTy] at h
    split at h
    · rename_i y i z j h1 h2
      cases h
      intro k hk
      rcases List.mem_append.1 hk with hk | hk
      · exact joinTy_rows a h1 k hk
      · exact joinTy_rows b h2 k hk
    · cases h
  | .box a, cs, x, ids, h => joinTy_rows (t := a) h
  | .arr _ _, cs, x, ids, h => by simp [joinTy] at h
  | .int k, cs, x, ids, h => by simp only [joinTy] at h; split at h; exact cellTo_rows h; cases h
  | .bool, cs, x, ids, h => by simp only [joinTy] at h; split at h; exact cellTo_rows h; cases h
  | .str, cs, x, ids, h => by simp only [joinTy] at h; split at h; exact cellTo_rows h; cases h
  | .slice e, cs, x, ids, h => by simp only [joinTy] at h; split at h; exact cellTo_rows h; cases h
theorem toD_rows {t : Ty} {v : AV} {x : t.den} {ids : List Nat} (h : toD H t v = some (x, ids)) : ∀ i ∈ ids, ∃ tid e l b, hget H i = .row tid e l b := by
  unfold toD at h
  split at h
  · cases ht : t.agg with
    | false => rw [ht] at h; cases h
    | true => rw [ht] at h; exact joinTy_rows t h
  · exact cellTo_rows h

theorem splitTy_len : ∀ (t : Ty) (x : t.den), (splitTy t x).length = t.sz
  | .int k, x => rfl
  | .bool, x => rfl
  | .str, x => rfl
  | .slice e, x => rfl
  | .arr n e, x => by simp [splitTy, Ty.sz]
  | .prod a b, x => by simp [splitTy, Ty.sz, splitTy_len a, splitTy_len b]
  | .box a, x => by simpa [splitTy, Ty.sz] using splitTy_len a x
theorem VRs_undef : ∀ (us : List Value), VRs w M μ U (List.replicate us.length .undef) us
  | [] => by simp [VRs]
  | u :: r => by rw [List.length_cons, List.replicate_succ]; unfold VRs; exact ⟨u, r, rfl, by simp [VR], VRs_undef r⟩
theorem splitTy_sound : ∀ (t : Ty) {x : t.den} {us : List Value}, CR w M t x us → VRs w M μ U (splitTy t x) us
  | .int k, x, us, h => by rw [show us = _ from h]; simp [splitTy, VRs, VR_int]
  | .bool, x, us, h => by rw [show us = _ from h]; simp [splitTy, VRs, VR_bool]
  | .str, x, us, h => by rw [show us = _ from h]; simp [splitTy, VRs, VR_str]
  | .slice e, x, us, h => by
    have h0 := h
    obtain ⟨a, c, h1, h2⟩ := h
    rw [h1] at h0 ⊢
    simp only [splitTy, VRs]
    exact ⟨_, _, rfl, (VR_d0 rfl).2 h0, rfl⟩
  | .arr n e, x, us, h => by
    have := CR_len w M _ _ _ h
    simp only [splitTy]
    rw [show n * e.sz = us.length from this.symm]
    exact VRs_undef us
  | .prod a b, x, us, h => by
    obtain ⟨v1, v2, h1, h2, h3⟩ := h
    rw [h1]
    exact VRs_append (splitTy_sound a h2) (splitTy_sound b h3)
  | .box a, x, us, h => splitTy_sound (t := a) h

theorem VR_d_cells {t : Ty} {x : t.den} {u : Value} (h : VR w M μ U (.d t x) u) : CR w M t x u.cells.toList := by
  cases ht : t.agg with
  | true => obtain ⟨vs, h1, h2⟩ := (VR_d1 ht).1 h; rw [h1]; exact h2
  | false =>
    have h2 := (VR_d0 ht).1 h
    have h3 : u.oneCell' = true := CR_one w M _ _ _ h2 u (by simp)
    have : u.cells = #[u] := by cases u <;> simp_all [Value.cells, Value.oneCell']
    rw [this]; exact h2
theorem VR_one_cells {v : AV} {u : Value} (h1 : u.oneCell' = true) (hv : VR w M μ U v u) : VRs w M μ U [v] u.cells.toList ∧ ∀ c ∈ u.cells.toList, c.oneCell' = true := by
  have : u.cells = #[u] := by cases u <;> simp_all [Value.cells, Value.oneCell']
  rw [this]
  exact ⟨by unfold VRs; exact ⟨u, [], rfl, hv, by simp [VRs]⟩, by simpa using h1⟩
theorem cellsOf_sound {v : AV} {u : Value} {cs : List AV} 
    (hv : VR w M μ U v u) (h : cellsOf v = some cs) : VRs w M μ U cs u.cells.toList ∧ ∀ c ∈ u.cells.toList, c.oneCell' = true := by
  cases v with
  | agg l =>
    simp only [cellsOf] at h; cases h
    unfold VR at hv; obtain ⟨vs, h1, h2, h3⟩ := hv
    rw [h1]; exact ⟨h2, h3⟩
  | d t x =>
    simp only [cellsOf] at h; cases h
    cases ht : t.agg with
    | true =>
      obtain ⟨vs, h1, h2⟩ := (VR_d1 ht).1 hv
      rw [h1]; exact ⟨splitTy_sound t h2, CR_one w M _ _ _ h2⟩
    | false =>
      have h2 := (VR_d0 ht).1 hv
      have h3 : u.oneCell' = true := CR_one w M _ _ _ h2 u (by simp)
      have : u.cells = #[u] := by cases u <;> simp_all [Value.cells, Value.oneCell']
      rw [this]; exact ⟨splitTy_sound t h2, by simpa using h3⟩
  | tup l => simp [cellsOf] at h
  | undef => simp [cellsOf] at h
  | raw r =>
    simp only [cellsOf] at h
    cases ho : oneB r with
    | false => rw [ho] at h; simp at h
    | true =>
      rw [ho] at h; simp at h; subst h
      have : u = r := by unfold VR at hv; exact hv
      subst this
      exact VR_one_cells (by rw [← oneB_eq]; exact ho) hv
  | nil => simp only [cellsOf] at h; cases h; exact VR_one_cells (by unfold VR at hv; rw [hv]; rfl) hv
  | own i => simp only [cellsOf] at h; cases h; exact VR_one_cells (by unfold VR at hv; exact hv.2.2) hv
  | ptr i off => simp only [cellsOf] at h; cases h; exact VR_one_cells (by unfold VR at hv; obtain ⟨_, b, _, h⟩ := hv; rw [h]; rfl) hv
  | aptr i => simp only [cellsOf] at h; cases h; exact VR_one_cells (by unfold VR at hv; obtain ⟨_, b, _, h⟩ := hv; rw [h]; rfl) hv
  | rp i k e t p => simp only [cellsOf] at h; cases h; exact VR_one_cells (by unfold VR at hv; obtain ⟨_, _, b, _, h⟩ := hv; rw [h]; rfl) hv
  | dp t x => simp only [cellsOf] at h; cases h; exact VR_one_cells (by unfold VR at hv; obtain ⟨ad, vs, h, _⟩ := hv; rw [h]; rfl) hv
  | fn f a b => simp only [cellsOf] at h; cases h; exact VR_one_cells (by unfold VR at hv; obtain ⟨x, y, h, _⟩ := hv; rw [h]; rfl) hv
  | map i => simp only [cellsOf] at h; cases h; exact VR_one_cells (by unfold VR at hv; exact hv.2.2) hv
  | iter i => simp only [cellsOf] at h; cases h; exact VR_one_cells (by unfold VR at hv; exact hv.2.2) hv
theorem ofConst1_sound (u : Value) : VR w M μ U (ofConst1 u) u := by
  unfold ofConst1
  split
  · exact VR_int.2 rfl
  · exact VR_bool.2 rfl
  · exact VR_str.2 rfl
  · unfold VR; rfl
  · unfold VR; rfl
theorem ofConsts_sound : ∀ (us : List Value), VRs w M μ U (us.map ofConst1) us
  | [] => by simp [VRs]
  | u :: r => by rw [List.map_cons]; unfold VRs; exact ⟨u, r, rfl, ofConst1_sound u, ofConsts_sound r⟩
theorem ofConst_sound (u : Value) : VR w M μ U (ofConst u) u := by
  unfold ofConst
  split
  · rename_i cs
    cases h : cs.toList.all oneB with
    | true =>
      simp only [cond_true]
      unfold VR
      exact ⟨cs, rfl, ofConsts_sound _, fun c hc => by rw [← oneB_eq]; exact List.all_eq_true.1 h c hc⟩
    | false => simp only [cond_false]; unfold VR; rfl
  · exact ofConst1_sound u
theorem evalA_sound {σ : Slots} {a : Act} (hσ : ∀ s, VR w M μ U (look σ s) (a.tmps.getD s undef)) (x : Operand) : VR w M μ U (evalA σ x) (a.eval x) := by
  cases x with
  | tmp t => exact hσ t
  | const v => exact ofConst_sound v
  | global g => simp [evalA, VR]
  | func f =>
    simp only [evalA, Act.eval]
    unfold VR
    exact ⟨#[], #[], rfl, by simp [VRs], by simp [VRs]⟩
end
end Go.Tat

namespace Go.Tat
set_option linter.unusedVariables false

def udOK (P : Program) (T : TE) : UD → TypeDesc → Prop
  | .int k, d => d = .int k
  | .bool, d => d = .bool
  | .str, d => d = .string
  | .ptr e, d => d = .pointer e
  | .slice e, d => d = .slice e
  | .arr n e, d => d = .array n e
  | .map k v, d => d = .map k v
  | .strct fs, d => ∃ fields : Array Field, d = .struct fields ∧ fields.toList.map (fun f => (f.offset, T.sz f.type, f.type)) = offsOf T fs 0 ∧ ∀ f ∈ fields.toList, ∃ i, P.info? f.type = some i ∧ i.size = T.sz f.type
  | .func, d => ∃ a b c, d = .func a b c
  | .other, _ => True
/-- A type's plain data. -/
structure TyOK (P : Program) (T : TE) (t : TypeId) (u : Ty) : Prop where
  sz : T.sz t = u.sz
  agg : aggT T t = some u.agg
  pos : 0 < u.sz
  bpos : 0 < T.bytes t
  zero : ∃ i z, P.info? t = some i ∧ i.zero = some z ∧ i.size = u.sz ∧ i.bytes = T.bytes t ∧ ∀ w M μ U, VR w M μ U (.d u u.zero) z
  field : ∀ fs f v q, T.ud t = .strct fs → fieldOf fs.length f u = some ⟨v, q⟩ → ∃ ft, nthF (offsOf T fs 0) f = some (q.off, v.sz, ft) ∧ aggT T ft = some v.agg
  eq : u.eqOk = true → ∀ (op : BinOp) (x y : Operand) (a b : u.den) (va vb : Value) (w : World) (M : Nat → Prop) (μ : Mu) (U : Nat → Prop), VR w M μ U (.d u a) va → VR w M μ U (.d u b) vb →
    (eqGuard op t x y va vb).run P w = .ok () w ∧ (Op.equal t va vb).run P w = .ok (u.eqB a b) w
structure TEok (P : Program) (T : TE) : Prop where
  info : ∀ t, T.ud t ≠ .other → ∃ i d, P.info? t = some i ∧ P.underlying t = some d ∧ udOK P T (T.ud t) d ∧ i.size = T.sz t ∧ i.bytes = T.bytes t
  zc : ∀ t cs, T.zc t = some cs → ∃ i z, P.info? t = some i ∧ i.zero = some z ∧ cs = z.cells.toList.map ofConst1 ∧ cs.length = T.sz t ∧ ∀ u ∈ z.cells.toList, u.oneCell' = true
  ty : ∀ t u, T.ty t = some u → TyOK P T t u
  arr : ∀ t n e u, T.ud t = .arr n e → T.ty e = some u → ∃ i z, P.info? t = some i ∧ i.zero = some z ∧ ∀ w M, CR w M (.arr n u) (List.replicate n u.zero) z.cells.toList

section
variable {P : Program} {T : TE} (hT : TEok P T)
include hT
theorem TEok.und {t : TypeId} {d : UD} (h : T.ud t = d) (hd : d ≠ .other) : ∃ d', P.underlying t = some d' ∧ udOK P T d d' := by
  obtain ⟨i, d', _, h2, h3, _⟩ := hT.info t (by rw [h]; exact hd)
  exact ⟨d', h2, h ▸ h3⟩
theorem TEok.size {t : TypeId} (h : T.ud t ≠ .other) : ∃ i, P.info? t = some i ∧ i.size = T.sz t := by
  obtain ⟨i, d', h1, _, _, h2, _⟩ := hT.info t h
  exact ⟨i, h1, h2⟩
theorem TEok.isAgg {t : TypeId} {b : Bool} (h : aggT T t = some b) (w : World) : (isAgg t).run P w = .ok b w := by
  unfold aggT at h
  unfold Go.isAgg
  have key : ∀ d, P.underlying t = some d → (match d with | .struct _ | .array _ _ => true | _ => false) = b → (do match ← underlying t with | .struct _ | .array _ _ => pure true | _ => pure false : Sem Bool).run P w = .ok b w := fun d hd hb => by
    rw [Sem.run_bind, run_underlying hd]
    simp only [Result.andThen_ok]
    cases d <;> simp_all
  split at h
  · rename_i fs hu
    obtain ⟨d, h1, fields, rfl, _⟩ := hT.und hu (by simp)
    exact key _ h1 (by simpa using h)
  · rename_i n e hu
    obtain ⟨d, h1, h2⟩ := hT.und hu (by simp)
    rw [show d = .array n e from h2] at h1
    exact key _ h1 (by simpa using h)
  · cases h
  · rename_i h1 h2 h3
    obtain ⟨i, d, _, hd, hu, _⟩ := hT.info t h3
    refine key d hd ?_
    cases hb : T.ud t with
    | strct fs => exact (h1 _ hb).elim
    | arr n e => exact (h2 _ _ hb).elim
    | other => exact (h3 hb).elim
    | func => rw [hb] at hu; obtain ⟨a, b, c, rfl⟩ := hu; simpa using h
    | _ => rw [hb] at hu; simp only [udOK] at hu; rw [hu]; simpa using h
omit hT in
theorem TEok.aggOther {t : TypeId} {b : Bool} (h : aggT T t = some b) : T.ud t ≠ .other := by
  intro h1; rw [aggT, h1] at h; cases h
end

/-- WHAT AN OPERATION LEAVES. -/
def Good (w0 : World) (B0 Mo : Nat → Prop) (w : World) (μ : Mu) (U : Nat → Prop) (H : Heap) (nx : Nat) (r : R) (v : Value) (w' : World) : Prop :=
  ∃ μ' U', VR w' (MM Mo μ' (r.ups ++ H)) μ' U' r.v v ∧ HS w0 B0 Mo w' μ' U' (r.ups ++ H) ∧ Next w (MM Mo μ H) μ U w' (MM Mo μ' (r.ups ++ H)) μ' U' ∧
    (∀ i, U' i → U i ∨ (nx ≤ i ∧ i < r.nx)) ∧ nx ≤ r.nx
def OpOK (P : Program) (a : Act) (o : Oper) (w : World) (G : Value → World → Prop) : Prop :=
  o.wp P a w (fun a' w' => ∃ v, a' = a.put o.dst v ∧ G v w') (fun _ _ _ => False)

section
variable {P : Program} {T : TE} {w0 : World} {B0 Mo : Nat → Prop} {w : World} {μ : Mu} {U : Nat → Prop} {H : Heap} {nx : Nat}
theorem Good.same (hs : HS w0 B0 Mo w μ U H) {v : AV} {u : Value} (hv : VR w (MM Mo μ H) μ U v u) (rd : List Nat) : Good w0 B0 Mo w μ U H nx ⟨v, [], rd, nx⟩ u w :=
  ⟨μ, U, hv, hs, Next.refl, fun i h => .inl h, Nat.le_refl _⟩
theorem OpOK.of_run {a : Act} {o : Oper} {G : Value → World → Prop} {v : Value} {w' : World} (h : (execOp a.eval o).run P w = .ok (.value v) w') (hg : G v w') : OpOK P a o w G := by
  unfold OpOK Oper.wp
  rw [h]
  exact ⟨v, rfl, hg⟩
theorem OpOK.of_skip {a : Act} {o : Oper} {G : Value → World → Prop} {w' : World} (h : (execOp a.eval o).run P w = .ok .skip w') (hg : G undef w') : OpOK P a o w G := by
  unfold OpOK Oper.wp
  rw [h]
  exact ⟨undef, rfl, hg⟩
theorem run_v {s : Sem Value} {v : Value} {w' : World} (h : s.run P w = .ok v w') : (do pure (Go.Next.value (← s)) : Sem Go.Next).run P w = .ok (.value v) w' := by
  rw [Sem.run_bind, h]; rfl
theorem run_u {s : Sem Unit} {w' : World} (h : s.run P w = .ok () w') : (do s; pure Go.Next.skip : Sem Go.Next).run P w = .ok .skip w' := by
  rw [Sem.run_bind, h]; rfl

theorem run_intArith {op : BinOp} {k : IntKind} {x y : Int} {r : R} (hr : (binInt op k x y nx).run some = some r) (h : op = .add ∨ op = .sub ∨ op = .mul) :
    ∃ z, (Op.intArith op k x y).run P w = .ok (.int k z) w ∧ r = ⟨.d (.int k) z, [], [], nx⟩ := by
  rcases h with rfl | rfl | rfl <;> (simp only [binInt, DT.val, DT.run, Option.some.injEq] at hr; exact ⟨_, rfl, hr.symm⟩)

def intSem (op : BinOp) (k : IntKind) (x y : Int) : Sem Value :=
  match op with
  | .add | .sub | .mul => Op.intArith op k x y
  | .quo | .rem => Op.intDiv op k x y
  | .and | .or | .xor | .andNot => Op.intBits op k x y
  | _ => Op.intCmp op x y
theorem binOp_int {op : BinOp} {k : IntKind} {x y : Int} {t : TypeId} (hop : isShift op = false) : binOp op t (.int k x) (.int k y) = intSem op k x y := by
  cases op
  case shl => cases hop
  case shr => cases hop
  all_goals (clear hop; simp [binOp, intSem])
theorem binInt_sound {op : BinOp} {k : IntKind} {x y : Int} {t : TypeId} {r : R} (hop : isShift op = false) (hr : (binInt op k x y nx).run some = some r) :
    ∃ v, (binOp op t (.int k x) (.int k y)).run P w = .ok v w ∧ VR w (MM Mo μ H) μ U r.v v ∧ r = ⟨r.v, [], [], nx⟩ := by
  rw [binOp_int hop]
  cases op
  case shl => cases hop
  case shr => cases hop
  all_goals (clear hop; simp only [binInt, DT.val, DT.run] at hr; try cases hr)
  all_goals first
    | exact ⟨_, rfl, VR_int.2 rfl, rfl⟩
    | exact ⟨_, rfl, VR_bool.2 rfl, rfl⟩
    | (cases hy : decide (y = 0) <;> simp only [hy, cond_true, cond_false] at hr <;> cases hr
       have hy' : ¬ y = 0 := of_decide_eq_false hy
       refine ⟨_, ?_, VR_int.2 rfl, rfl⟩
       simp [intSem, Op.intDiv, hy'])
theorem shiftInt_sound {op : BinOp} {k k' : IntKind} {x y : Int} {t : TypeId} {r : R} (hr : (shiftInt op k x y nx).run some = some r) :
    ∃ v, (binOp op t (.int k x) (.int k' y)).run P w = .ok v w ∧ VR w (MM Mo μ H) μ U r.v v ∧ r = ⟨r.v, [], [], nx⟩ := by
  cases op
  all_goals (simp only [shiftInt, DT.val, DT.run] at hr; try cases hr)
  all_goals
    cases hy : decide (y < 0) <;> simp only [hy, cond_true, cond_false] at hr <;> cases hr
    have hy' : ¬ y < 0 := of_decide_eq_false hy
    refine ⟨_, ?_, VR_int.2 rfl, rfl⟩
    simp [binOp, Op.shift, hy']
theorem binStr_sound {op : BinOp} {x y : ByteArray} {t : TypeId} {r : R} (hr : (binStr op x y nx).run some = some r) :
    ∃ v, (binOp op t (.string x) (.string y)).run P w = .ok v w ∧ VR w (MM Mo μ H) μ U r.v v ∧ r = ⟨r.v, [], [], nx⟩ := by
  cases op
  all_goals (simp only [binStr, DT.val, DT.guard, DT.run] at hr; try cases hr)
  case add =>
    cases hy : decide (x.size + y.size ≤ 9223372036854775807) <;> simp only [hy, cond_true, cond_false] at hr <;> cases hr
    have hy' := of_decide_eq_true hy
    refine ⟨_, ?_, VR_str.2 rfl, rfl⟩
    have : ¬ (((x.size + y.size : Nat) : Int) > IntKind.i64.max) := by
      have : IntKind.i64.max = 9223372036854775807 := by decide
      rw [this]; omega
    simp only [binOp, Op.stringOp]
    rw [if_neg this]; rfl
  all_goals exact ⟨_, rfl, VR_bool.2 rfl, rfl⟩
end
end Go.Tat

namespace Go.Tat
set_option linter.unusedVariables false
section
variable {P : Program} {T : TE} {E : FuncId → List Entry} {w0 : World} {B0 Mo : Nat → Prop} {w : World} {μ : Mu} {U : Nat → Prop} {H : Heap} {nx : Nat} {ρ : Operand → AV} {a : Act} {o : Oper} {r : R}

theorem op_move {x : Operand} (hs : HS w0 B0 Mo w μ U H) (hρ : ∀ x, VR w (MM Mo μ H) μ U (ρ x) (a.eval x)) (ho : o.op = .move x ∨ o.op = .assign x)
    (h : (opG T E ρ H nx o).run some = some r) : OpOK P a o w (Good w0 B0 Mo w μ U H nx r) := by
  rcases ho with ho | ho <;>
  · simp only [opG, ho, DT.val, DT.run, Option.some.injEq] at h
    subst h
    exact OpOK.of_run (v := a.eval x) (w' := w) (by simp [execOp, ho]) (Good.same hs (hρ x) _)

theorem op_pick {c x y : Operand} (hs : HS w0 B0 Mo w μ U H) (hρ : ∀ x, VR w (MM Mo μ H) μ U (ρ x) (a.eval x)) (ho : o.op = .pick c x y)
    (h : (opG T E ρ H nx o).run some = some r) : OpOK P a o w (Good w0 B0 Mo w μ U H nx r) := by
  simp only [opG, ho] at h
  split at h
  · rename_i b hb
    have h1 := hρ c
    rw [hb, VR_bool] at h1
    simp only [DT.val, DT.run] at h
    cases b
    · simp at h; subst h
      exact OpOK.of_run (v := a.eval y) (w' := w) (by simp [execOp, ho, h1, asBool]) (Good.same hs (hρ y) _)
    · simp at h; subst h
      exact OpOK.of_run (v := a.eval x) (w' := w) (by simp [execOp, ho, h1, asBool]) (Good.same hs (hρ x) _)
  · cases h

theorem op_extract {t : Operand} {i : Nat} (hs : HS w0 B0 Mo w μ U H) (hρ : ∀ x, VR w (MM Mo μ H) μ U (ρ x) (a.eval x)) (ho : o.op = .extract t i)
    (h : (opG T E ρ H nx o).run some = some r) : OpOK P a o w (Good w0 B0 Mo w μ U H nx r) := by
  simp only [opG, ho] at h
  split at h
  · rename_i vs hb
    have h1 := hρ t
    rw [hb] at h1
    unfold VR at h1
    obtain ⟨us, h2, h3⟩ := h1
    cases hlt : Nat.blt i vs.length with
    | false => rw [hlt] at h; cases h
    | true =>
    rw [hlt] at h
    have hlt' : i < us.toList.length := by rw [← VRs_len _ _ h3]; exact Nat.blt_eq.mp hlt
    cases hu : us.toList[i]? with
    | none => rw [List.getElem?_eq_none_iff] at hu; omega
    | some u =>
      simp only [cond_true, DT.val, DT.run, Option.some.injEq] at h
      subst h
      have : us[i]? = some u := by simpa using hu
      exact OpOK.of_run (v := u) (w' := w) (by simp [execOp, ho, h2, Instr.extract, this]) (Good.same hs (VRs_nth i h3 u hu) _)
  · cases h

theorem op_nilCheck {x : Operand} (hs : HS w0 B0 Mo w μ U H) (hρ : ∀ x, VR w (MM Mo μ H) μ U (ρ x) (a.eval x)) (ho : o.op = .nilCheck x)
    (h : (opG T E ρ H nx o).run some = some r) : OpOK P a o w (Good w0 B0 Mo w μ U H nx r) := by
  have key : (∃ b, a.eval x = .pointer (some b)) → r = ⟨ρ x, [], [], nx⟩ → OpOK P a o w (Good w0 B0 Mo w μ U H nx r) := fun ⟨b, hb⟩ hr => by
    subst hr
    exact OpOK.of_run (v := a.eval x) (w' := w) (by simp [execOp, ho, hb]) (Good.same hs (hρ x) _)
  have h1 := hρ x
  simp only [opG, ho] at h
  split at h
  · rename_i id off hb
    rw [hb] at h1 key; unfold VR at h1
    obtain ⟨_, b, _, h2⟩ := h1
    exact key ⟨_, h2⟩ (by simpa [DT.val, DT.run] using h.symm)
  · rename_i id hb
    rw [hb] at h1 key; unfold VR at h1
    obtain ⟨_, b, _, h2⟩ := h1
    exact key ⟨_, h2⟩ (by simpa [DT.val, DT.run] using h.symm)
  · rename_i id i e u p hb
    rw [hb] at h1 key; unfold VR at h1
    obtain ⟨_, _, b, _, h2⟩ := h1
    exact key ⟨_, h2⟩ (by simpa [DT.val, DT.run] using h.symm)
  · rename_i u v hb
    rw [hb] at h1 key; unfold VR at h1
    obtain ⟨ad, vs, h2, _⟩ := h1
    exact key ⟨_, h2⟩ (by simpa [DT.val, DT.run] using h.symm)
  · cases h

theorem VRs_map (hρ : ∀ x, VR w (MM Mo μ H) μ U (ρ x) (a.eval x)) : ∀ (l : List Operand), VRs w (MM Mo μ H) μ U (l.map ρ) (l.map a.eval)
  | [] => by simp [VRs]
  | x :: r => by simp only [List.map_cons]; unfold VRs; exact ⟨_, _, rfl, hρ x, VRs_map hρ r⟩

theorem op_makeFunc {f : Fn} {x y : Array Operand} (hs : HS w0 B0 Mo w μ U H) (hρ : ∀ x, VR w (MM Mo μ H) μ U (ρ x) (a.eval x)) (ho : o.op = .makeFunc f x y)
    (h : (opG T E ρ H nx o).run some = some r) : OpOK P a o w (Good w0 B0 Mo w μ U H nx r) := by
  simp only [opG, ho] at h
  split at h
  · rename_i f
    simp only [DT.val, DT.run, Option.some.injEq] at h
    subst h
    refine OpOK.of_run (v := .func (.func f) (x.map a.eval) (y.map a.eval)) (w' := w) (by simp [execOp, ho, Instr.makeFunc]) (Good.same hs ?_ _)
    unfold VR
    exact ⟨_, _, rfl, by simpa using VRs_map hρ x.toList, by simpa using VRs_map hρ y.toList⟩
  · cases h

theorem op_unOp {u : UnOp} {t : TypeId} {x : Operand} (hs : HS w0 B0 Mo w μ U H) (hρ : ∀ x, VR w (MM Mo μ H) μ U (ρ x) (a.eval x)) (ho : o.op = .unOp u t x)
    (h : (opG T E ρ H nx o).run some = some r) : OpOK P a o w (Good w0 B0 Mo w μ U H nx r) := by
  have h1 := hρ x
  simp only [opG, ho] at h
  split at h
  · rename_i b hb
    rw [hb, VR_bool] at h1
    simp only [DT.val, DT.run, Option.some.injEq] at h; subst h
    exact OpOK.of_run (v := .bool (!b)) (w' := w) (by simp [execOp, ho, h1, Op.unary]) (Good.same hs (VR_bool.2 rfl) _)
  · rename_i k n hb
    rw [hb, VR_int] at h1
    simp only [DT.val, DT.run, Option.some.injEq] at h; subst h
    exact OpOK.of_run (v := .int k (k.wrap (0 - n))) (w' := w) (by simp [execOp, ho, h1, Op.unary, Op.intArith]) (Good.same hs (VR_int.2 rfl) _)
  · rename_i k n hb
    rw [hb, VR_int] at h1
    simp only [DT.val, DT.run, Option.some.injEq] at h; subst h
    exact OpOK.of_run (v := .int k (k.wrap ((BitVec.ofInt k.bits (if k.signed then -1 else k.max) ^^^ BitVec.ofInt k.bits n).toNat : Int))) (w' := w)
      (by simp only [execOp, ho, h1, Op.unary, Op.intBits]; rfl) (Good.same hs (VR_int.2 rfl) _)
  · cases h

theorem eqGuard_one {op : BinOp} {t : TypeId} {x y : Operand} {va vb : Value} (h1 : va.oneCell' = true) (h2 : va ≠ .nilIface) : (eqGuard op t x y va vb).run P w = .ok () w := by
  cases op <;> first | rfl | (cases va <;> first | (exact (h2 rfl).elim) | (simp [Value.oneCell'] at h1; done) | (simp [eqGuard]))

theorem op_binOp {b : BinOp} {t t' : TypeId} {x y : Operand} (hT : TEok P T) (hs : HS w0 B0 Mo w μ U H) (hρ : ∀ x, VR w (MM Mo μ H) μ U (ρ x) (a.eval x)) (ho : o.op = .binOp b t x y t')
    (h : (opG T E ρ H nx o).run some = some r) : OpOK P a o w (Good w0 B0 Mo w μ U H nx r) := by
  have h1 := hρ x
  have h2 := hρ y
  simp only [opG, ho] at h
  have fin : ∀ v, (eqGuard b t x y (a.eval x) (a.eval y)).run P w = .ok () w → (binOp b t (a.eval x) (a.eval y)).run P w = .ok v w → VR w (MM Mo μ H) μ U r.v v → r = ⟨r.v, [], r.rd, nx⟩ → OpOK P a o w (Good w0 B0 Mo w μ U H nx r) := fun v hg hv hr he => by
    rw [he]
    refine OpOK.of_run (v := v) (w' := w) ?_ (Good.same hs hr _)
    simp only [execOp, ho]
    simp [hg, hv]
  split at h
  · rename_i k m k' n hx hy
    rw [hx, VR_int] at h1
    rw [hy, VR_int] at h2
    cases hsh : isShift b with
    | true =>
      rw [hsh] at h; simp only [cond_true] at h
      obtain ⟨v, hv, hr, he⟩ := shiftInt_sound (P := P) (w := w) (Mo := Mo) (H := H) (μ := μ) (U := U) (k' := k') (t := t) h
      rw [← h1, ← h2] at hv
      exact fin v (eqGuard_one (by rw [h1]; rfl) (by rw [h1]; simp)) hv hr (by rw [he])
    | false =>
      rw [hsh] at h; simp only [cond_false] at h
      cases hk : Nat.beq (ikN k) (ikN k') with
      | false => rw [hk] at h; cases h
      | true =>
        have hkk := ikN_inj hk
        subst hkk
        rw [hk] at h; simp only [cond_true] at h
        obtain ⟨v, hv, hr, he⟩ := binInt_sound (P := P) (w := w) (Mo := Mo) (H := H) (μ := μ) (U := U) (t := t) hsh h
        rw [← h1, ← h2] at hv
        exact fin v (eqGuard_one (by rw [h1]; rfl) (by rw [h1]; simp)) hv hr (by rw [he])
  · rename_i m n hx hy
    rw [hx, VR_str] at h1
    rw [hy, VR_str] at h2
    obtain ⟨v, hv, hr, he⟩ := binStr_sound (P := P) (w := w) (Mo := Mo) (H := H) (μ := μ) (U := U) (t := t) h
    rw [← h1, ← h2] at hv
    exact fin v (eqGuard_one (by rw [h1]; rfl) (by rw [h1]; simp)) hv hr (by rw [he])
  · rename_i hn1 hn2
    unfold binEq at h
    split at h
    · rename_i u hu
      cases hq0 : (u.eqOk && u.eqNo) with
      | false => rw [hq0] at h; cases h
      | true =>
        have hq : u.eqOk = true := by simp at hq0; exact hq0.1
        have hqn : u.eqNo = true := by simp at hq0; exact hq0.2
        rw [hq0] at h; simp only [cond_true] at h
        split at h
        · rename_i va i vb j hva hvb
          have hob := hs.obj
          have e1 := toD_sound (M' := fun _ => False) hob (fun ad v hc _ => ⟨hc, id⟩) h1 hva (fun _ _ _ _ _ _ _ _ hf => hf)
          have e2 := toD_sound (M' := fun _ => False) hob (fun ad v hc _ => ⟨hc, id⟩) h2 hvb (fun _ _ _ _ _ _ _ _ hf => hf)
          obtain ⟨hg, hv⟩ := (hT.ty t u hu).eq hq b x y va vb _ _ w _ _ _ e1 e2
          have hcase : (∃ z, a.eval x = .bool z) ∨ (∃ z, a.eval x = .agg z) := by
            cases u with
            | bool => exact .inl ⟨_, VR_bool.1 e1⟩
            | box u => obtain ⟨vs, h3, _⟩ := (VR_d1 rfl).1 e1; exact .inr ⟨_, h3⟩
            | _ => cases hqn
          cases b with
          | eql =>
            simp only [DT.run, Option.some.injEq] at h; subst h
            refine fin (.bool (u.eqB va vb)) hg ?_ (VR_bool.2 rfl) rfl
            rcases hcase with ⟨z, hz⟩ | ⟨z, hz⟩ <;> (rw [hz] at hv ⊢; simp [binOp, hv])
          | neq =>
            simp only [DT.run, Option.some.injEq] at h; subst h
            refine fin (.bool (!u.eqB va vb)) hg ?_ (VR_bool.2 rfl) rfl
            rcases hcase with ⟨z, hz⟩ | ⟨z, hz⟩ <;> (rw [hz] at hv ⊢; simp [binOp, hv])
          | _ => cases h
        · cases h
    · cases h
end
end Go.Tat

namespace Go.Tat
set_option linter.unusedVariables false
section
variable {P : Program} {T : TE} {E : FuncId → List Entry} {w0 : World} {B0 Mo : Nat → Prop} {w : World} {μ : Mu} {U : Nat → Prop} {H : Heap} {nx : Nat} {ρ : Operand → AV} {a : Act} {o : Oper} {r : R}

theorem nthF_eq : ∀ (l : List (Nat × Nat × TypeId)) (f : Nat), nthF l f = l[f]?
  | [], f => by cases f <;> rfl
  | x :: r, 0 => rfl
  | x :: r, f + 1 => by simp only [nthF, nthF_eq r f]; simp
theorem TEok.fieldAt (hT : TEok P T) {t : TypeId} {fs : List TypeId} {f off n : Nat} {ft : TypeId} (h : T.ud t = .strct fs) (hf : nthF (offsOf T fs 0) f = some (off, n, ft)) :
    ∃ (fields : Array Field) (fd : Field) (i : TypeInfo), P.underlying t = some (.struct fields) ∧ fields[f]? = some fd ∧ fd.offset = off ∧ fd.type = ft ∧ P.info? ft = some i ∧ i.size = n := by
  obtain ⟨d, h1, fields, rfl, h2, h3⟩ := hT.und h (by simp)
  rw [nthF_eq, ← h2, List.getElem?_map] at hf
  cases hfd : fields.toList[f]? with
  | none => rw [hfd] at hf; cases hf
  | some fd =>
    rw [hfd] at hf
    simp at hf
    obtain ⟨e1, e2, e3⟩ := hf
    obtain ⟨i, h4, h5⟩ := h3 fd (List.mem_of_getElem? hfd)
    exact ⟨fields, fd, i, h1, by simpa using hfd, e1, e3, by rw [← e3]; exact h4, by rw [h5, e2]⟩
theorem run_typeInfo {t : TypeId} {i : TypeInfo} (h : P.info? t = some i) : (typeInfo t).run P w = .ok i w := by simp [typeInfo, program, Sem.run, h]
theorem run_sizeOf {t : TypeId} {i : TypeInfo} (h : P.info? t = some i) : (sizeOf t).run P w = .ok i.size w := by simp [sizeOf, run_typeInfo h]
theorem run_zeroValue {t : TypeId} {i : TypeInfo} {z : Value} (h : P.info? t = some i) (hz : i.zero = some z) : (zeroValue t).run P w = .ok z w := by simp [zeroValue, run_typeInfo h, hz]
theorem tyIs_ok (hT : TEok P T) {t : TypeId} {u : Ty} (h : tyIs T t u = true) : TyOK P T t u := by
  unfold tyIs at h
  split at h
  · rename_i v hv
    rw [Ty.eq_of_beq h]
    exact hT.ty t v hv
  · cases h
theorem TyOK.size {t : TypeId} {u : Ty} (h : TyOK P T t u) : (sizeOf t).run P w = .ok u.sz w := by
  obtain ⟨i, z, h1, _, h2, _⟩ := h.zero
  rw [run_sizeOf h1, h2]
theorem asIntOf_of {x : AV} {v : Value} {i : Int} (hv : VR w (MM Mo μ H) μ U x v) (h : intD x = some i) : ∃ k, v = .int k i := by
  cases x with
  | d t y =>
    cases t with
    | int k => simp [intD] at h; subst h; exact ⟨k, VR_int.1 hv⟩
    | _ => simp [intD] at h
  | _ => simp [intD] at h
theorem part_agg (hT : TEok P T) {t : TypeId} {i : TypeInfo} {cs : Array Value} {off : Nat} (h : aggT T t = some true) (hi : P.info? t = some i) :
    (part t cs off).run P w = .ok (.agg (cs.extract off (off + i.size))) w := by
  unfold part
  rw [Sem.run_bind, hT.isAgg h w]
  simp [run_sizeOf hi]
theorem part_one (hT : TEok P T) {t : TypeId} {cs : Array Value} {off : Nat} {v : Value} (h : aggT T t = some false) (hv : cs[off]? = some v) :
    (part t cs off).run P w = .ok v w := by
  unfold part
  rw [Sem.run_bind, hT.isAgg h w]
  simp [hv]

theorem run_fieldPlace {ad : Addr} {fd : Field} {i : TypeInfo} (h : P.info? fd.type = some i) (hn : i.size ≠ 0) : (fieldPlace ad fd).run P w = .ok (ad.add fd.offset) w := by
  simp [fieldPlace, run_sizeOf h, hn]

theorem op_field {t : TypeId} {x : Operand} {f : Nat} (hT : TEok P T) (hs : HS w0 B0 Mo w μ U H) (hρ : ∀ x, VR w (MM Mo μ H) μ U (ρ x) (a.eval x)) (ho : o.op = .field t x f)
    (h : (opG T E ρ H nx o).run some = some r) : OpOK P a o w (Good w0 B0 Mo w μ U H nx r) := by
  have h1 := hρ x
  simp only [opG, ho] at h
  have fin : ∀ v, (Instr.field t (a.eval x) f).run P w = .ok v w → VR w (MM Mo μ H) μ U r.v v → r = ⟨r.v, [], r.rd, nx⟩ → OpOK P a o w (Good w0 B0 Mo w μ U H nx r) := fun v hv hr he => by
    rw [he]
    exact OpOK.of_run (v := v) (w' := w) (by simp only [execOp, ho]; exact run_v hv) (Good.same hs hr _)
  split at h
  · rename_i fs hud
    split at h
    · rename_i cs hx
      rw [hx] at h1; unfold VR at h1
      obtain ⟨vs, h2, h3, h4⟩ := h1
      split at h
      · rename_i off n ft hf
        obtain ⟨fields, fd, i, e1, e2, e3, e4, e5, e6⟩ := hT.fieldAt hud hf
        have hrun : (Instr.field t (a.eval x) f).run P w = (part ft vs off).run P w := by
          rw [h2]; simp only [Instr.field, Sem.run_bind, run_underlying e1, Result.andThen_ok, e2, asAgg]
          simp [e3, e4]
        split at h
        · rename_i hag
          cases hle : Nat.ble (off + n) cs.length with
          | false => rw [hle] at h; cases h
          | true =>
            rw [hle] at h
            simp only [cond_true, DT.val, DT.run, Option.some.injEq] at h; subst h
            refine fin (.agg (vs.extract off (off + i.size))) (by rw [hrun]; exact part_agg hT hag e5) ?_ rfl
            unfold VR
            refine ⟨_, rfl, ?_, fun u hu => h4 u ?_⟩
            · have := VRs_take n (VRs_drop off h3)
              rw [e6]
              simpa [List.take_drop, Nat.add_comm, Array.toList_extract, List.extract] using this
            · simp only [Array.toList_extract, List.extract] at hu
              exact List.mem_of_mem_drop (List.mem_of_mem_take hu)
        · rename_i hag
          cases hle : Nat.blt off cs.length with
          | false => rw [hle] at h; cases h
          | true =>
            rw [hle] at h
            simp only [cond_true, DT.val, DT.run, Option.some.injEq] at h; subst h
            have hlt : off < vs.toList.length := by rw [← VRs_len _ _ h3]; exact Nat.blt_eq.mp hle
            have hg : vs[off]? = some vs.toList[off] := by
              have := List.getElem?_eq_getElem hlt; simpa using this
            exact fin vs.toList[off] (by rw [hrun]; exact part_one hT hag hg) (VRs_nth off h3 _ (List.getElem?_eq_getElem hlt)) rfl
        · cases h
      · cases h
    · rename_i u v hx
      rw [hx] at h1
      split at h
      · rename_i wt q hf
        cases hty : tyIs T t u with
        | false => rw [hty] at h; cases h
        | true =>
          rw [hty] at h
          simp only [cond_true, DT.val, DT.run, Option.some.injEq] at h; subst h
          have hok := tyIs_ok hT hty
          obtain ⟨ft, hnf, hag⟩ := hok.field fs f wt q hud hf
          obtain ⟨fields, fd, i, e1, e2, e3, e4, e5, e6⟩ := hT.fieldAt hud hnf
          have huagg : u.agg = true := by
            have h5 := hok.agg
            rw [aggT, hud] at h5; simpa using h5.symm
          obtain ⟨vs, h2, h3⟩ := (VR_d1 huagg).1 h1
          have hrun : (Instr.field t (a.eval x) f).run P w = (part ft vs q.off).run P w := by
            rw [h2]; simp only [Instr.field, Sem.run_bind, run_underlying e1, Result.andThen_ok, e2, asAgg]
            simp [e3, e4]
          have hp := CR_path q h3
          have hlen := CR_len w _ _ _ _ hp
          cases hb : wt.agg with
          | true =>
            rw [hb] at hag
            refine fin (.agg (vs.extract q.off (q.off + i.size))) (by rw [hrun]; exact part_agg hT hag e5) ?_ rfl
            refine (VR_d1 hb).2 ⟨_, rfl, ?_⟩
            rw [e6]
            simpa [List.take_drop, Nat.add_comm, Array.toList_extract, List.extract] using hp
          | false =>
            rw [hb] at hag
            have hsz : wt.sz = 1 := by cases wt <;> first | rfl | cases hb
            rw [hsz] at hp hlen
            have hlt : q.off < vs.toList.length := by simp at hlen ⊢; omega
            have hg : vs[q.off]? = some vs.toList[q.off] := by
              have := List.getElem?_eq_getElem hlt; simpa using this
            refine fin vs.toList[q.off] (by rw [hrun]; exact part_one hT hag hg) ((VR_d0 hb).2 ?_) rfl
            rw [List.drop_eq_getElem_cons hlt] at hp
            simpa using hp
      · cases h
    · cases h
  · cases h

theorem op_fieldAddr {t : TypeId} {x : Operand} {f : Nat} (hT : TEok P T) (hs : HS w0 B0 Mo w μ U H) (hρ : ∀ x, VR w (MM Mo μ H) μ U (ρ x) (a.eval x)) (ho : o.op = .fieldAddr t x f)
    (h : (opG T E ρ H nx o).run some = some r) : OpOK P a o w (Good w0 B0 Mo w μ U H nx r) := by
  have h1 := hρ x
  simp only [opG, ho] at h
  have fin : ∀ v, (Instr.fieldAt t (a.eval x) f).run P w = .ok v w → VR w (MM Mo μ H) μ U r.v v → r = ⟨r.v, [], r.rd, nx⟩ → OpOK P a o w (Good w0 B0 Mo w μ U H nx r) := fun v hv hr he => by
    rw [he]
    exact OpOK.of_run (v := v) (w' := w) (by simp only [execOp, ho]; exact run_v hv) (Good.same hs hr _)
  have hrun : ∀ (fs : List TypeId) (off n : Nat) (ft : TypeId) (ad : Addr), T.ud t = .strct fs → nthF (offsOf T fs 0) f = some (off, n, ft) → 0 < n → a.eval x = .pointer (some ad) →
      (Instr.fieldAt t (a.eval x) f).run P w = .ok (.pointer (some (ad.add off))) w := fun fs off n ft ad hud hf hn hx => by
    obtain ⟨fields, fd, i, e1, e2, e3, e4, e5, e6⟩ := hT.fieldAt hud hf
    rw [hx]
    simp only [Instr.fieldAt, Sem.run_bind, run_underlying e1, Result.andThen_ok, e2, Instr.sureAddr]
    simp [run_fieldPlace (P := P) (w := w) (ad := ad) (fd := fd) (i := i) (by rw [e4]; exact e5) (by omega), e3]
  split at h
  · rename_i fs hud
    split at h
    · rename_i id off hx
      rw [hx] at h1; unfold VR at h1
      obtain ⟨hu, b, hb, hv⟩ := h1
      split at h
      · rename_i o' n ft hf
        cases hn : Nat.blt 0 n with
        | false => rw [hn] at h; cases h
        | true =>
          rw [hn] at h
          simp only [cond_true, DT.val, DT.run, Option.some.injEq] at h; subst h
          refine fin _ (hrun _ _ _ _ _ hud hf (Nat.blt_eq.mp hn) hv) ?_ rfl
          unfold VR
          exact ⟨hu, b, hb, by rw [Addr.mk_add]⟩
      · cases h
    · rename_i u v hx
      rw [hx] at h1; unfold VR at h1
      obtain ⟨ad, vs, e0, hsp, hcr, hcl⟩ := h1
      split at h
      · rename_i wt q hf
        cases hty : (tyIs T t u && Nat.blt 0 wt.sz) with
        | false => rw [hty] at h; cases h
        | true =>
          rw [hty] at h
          simp only [cond_true, DT.val, DT.run, Option.some.injEq] at h; subst h
          simp only [Bool.and_eq_true] at hty
          have hok := tyIs_ok hT hty.1
          obtain ⟨ft, hnf, hag⟩ := hok.field fs f wt q hud hf
          refine fin _ (hrun _ _ _ _ _ hud hnf (Nat.blt_eq.mp hty.2) e0) ?_ rfl
          unfold VR
          refine ⟨_, _, rfl, Addr.add_spot _ _ hsp, CR_path q hcr, fun j y hj => ?_⟩
          rw [Addr.add_add, Addr.add_block]
          rw [List.getElem?_take] at hj
          split at hj
          · rw [List.getElem?_drop] at hj; exact hcl _ y hj
          · cases hj
      · cases h
    · rename_i id i e u p hx
      rw [hx] at h1; unfold VR at h1
      obtain ⟨hu, hlt, b, hb, hv⟩ := h1
      split at h
      · rename_i wt q hf
        cases hty : (tyIs T t u && Nat.blt 0 wt.sz) with
        | false => rw [hty] at h; cases h
        | true =>
          rw [hty] at h
          simp only [cond_true, DT.val, DT.run, Option.some.injEq] at h; subst h
          simp only [Bool.and_eq_true] at hty
          have hok := tyIs_ok hT hty.1
          obtain ⟨ft, hnf, hag⟩ := hok.field fs f wt q hud hf
          refine fin _ (hrun _ _ _ _ _ hud hnf (Nat.blt_eq.mp hty.2) hv) ?_ rfl
          unfold VR
          exact ⟨hu, hlt, b, hb, by rw [Addr.mk_add, Path.off_comp, Nat.add_assoc]⟩
      · cases h
    · cases h
  · cases h
end
end Go.Tat

namespace Go.Tat
set_option linter.unusedVariables false
section
variable {P : Program} {T : TE} {E : FuncId → List Entry} {w0 : World} {B0 Mo : Nat → Prop} {w : World} {M : Nat → Prop} {μ : Mu} {U : Nat → Prop} {H : Heap} {nx : Nat} {ρ : Operand → AV} {a : Act} {o : Oper} {r : R}

theorem run_loadVar_agg (hT : TEok P T) {t : TypeId} {i : TypeInfo} {ad : Addr} {us : List Value} (h : aggT T t = some true) (hi : P.info? t = some i) (hn : i.size = us.length)
    (hc : ∀ (j : Nat) u, us[j]? = some u → w.cell? (ad.add j) = some u) : (loadVar t ad).run P w = .ok (.agg us.toArray) w := by
  unfold loadVar
  rw [Sem.run_bind, hT.isAgg h w]
  simp only [Result.andThen_ok, if_true, Sem.run_bind, run_sizeOf hi, hn]
  rw [run_loadCells_list (P := P) w ad us hc]
  rfl
theorem run_loadVar_one (hT : TEok P T) {t : TypeId} {ad : Addr} {u : Value} (h : aggT T t = some false) (hc : w.cell? ad = some u) : (loadVar t ad).run P w = .ok u w := by
  unfold loadVar
  rw [Sem.run_bind, hT.isAgg h w]
  simp [hc]
theorem Addr.add_zero (ad : Addr) : ad.add 0 = ad := rfl
/-- A value of a type is read where its cells lie. -/
theorem run_loadVar_data (hT : TEok P T) {t : TypeId} {u : Ty} {x : u.den} {ad : Addr} {us : List Value} (hk : TyOK P T t u) (hx : CR w M u x us)
    (hc : ∀ (j : Nat) v, us[j]? = some v → w.cell? (ad.add j) = some v) : ∃ v, (loadVar t ad).run P w = .ok v w ∧ VR w M μ U (.d u x) v := by
  have hlen := CR_len w _ _ _ _ hx
  have hag := hk.agg
  cases hb : u.agg with
  | true =>
    rw [hb] at hag
    obtain ⟨i, z, h1, _, h2, _⟩ := hk.zero
    exact ⟨_, run_loadVar_agg hT hag h1 (by rw [h2, hlen]) hc, (VR_d1 hb).2 ⟨_, rfl, by simpa using hx⟩⟩
  | false =>
    rw [hb] at hag
    have hsz : u.sz = 1 := by cases u <;> first | rfl | cases hb
    rw [hsz] at hlen
    obtain ⟨v, rfl⟩ := List.length_eq_one_iff.1 hlen
    exact ⟨v, run_loadVar_one hT hag (by have := hc 0 v rfl; rwa [Addr.add_zero] at this), (VR_d0 hb).2 hx⟩

theorem row_cells {id : Nat} {tid : TypeId} {e : Ty} {l : List e.den} {live : Bool} {b : Nat} (h : objOK w M μ U id (.row tid e l live)) (hb : addrOf (μ id).v = some b) :
    (μ id).n = l.length ∧ ∃ xs, CRL (CR w M e) l xs ∧ ∀ (j : Nat) u, xs[j]? = some u → w.cell? ⟨b, j, none⟩ = some u := by
  cases live with
  | true =>
    obtain ⟨hn, xs, h1, h2⟩ := h
    refine ⟨hn, xs, h2, fun j u hj => ?_⟩
    have hob : (μ id).v.ownBlock = some b := by
      rcases h1.2 with ⟨h3, _⟩ | ⟨g, cap, cur, h3, _⟩
      · rw [h3] at hb; cases hb
      · rw [h3] at hb ⊢; exact hb
    have := h1.cells hob j u hj
    rwa [Addr.mk_add, Nat.zero_add] at this
  | false =>
    obtain ⟨hn, ⟨ao, c, h1, h2, h3⟩, h4⟩ := h
    simp only [List.cons.injEq, and_true] at h1
    cases ao with
    | none => rw [h1] at hb; cases hb
    | some ad =>
      obtain ⟨hs, xs, h5, h6⟩ := h3
      obtain ⟨ho, _⟩ := h4 ad _ c h1
      refine ⟨hn, xs, h5, fun j u hj => ?_⟩
      have h7 := (h6 j u hj).1
      have hb' : ad.block = b := by rw [h1] at hb; simpa [addrOf] using hb
      rw [Addr.eta hs, ho, hb', Addr.mk_add, Nat.zero_add] at h7
      exact h7
theorem arr_cells {id n : Nat} {e : Ty} {l : List e.den} {b : Nat} (h : objOK w M μ U id (.arr n e l)) (hb : addrOf (μ id).v = some b) :
    (μ id).n = l.length ∧ ∃ xs, CRL (CR w M e) l xs ∧ ∀ (j : Nat) u, xs[j]? = some u → w.cell? ⟨b, j, none⟩ = some u := by
  obtain ⟨hn, b', vs, tid, h1, h2, h3⟩ := h
  rw [h1] at hb; cases hb
  refine ⟨hn, vs.toList, h3.2, fun j u hj => ?_⟩
  rw [cell_of_row w b' j vs tid (0, 0) h2]
  simpa using hj
/-- A part of an element is read. -/
theorem elem_part {e u : Ty} {l : List e.den} {xs : List Value} {k b : Nat} (p : Path e u) (h : CRL (CR w M e) l xs) (hk : k < l.length)
    (hc : ∀ (j : Nat) u, xs[j]? = some u → w.cell? ⟨b, j, none⟩ = some u) :
    ∃ us, CR w M u (p.get (List.getD l k e.zero)) us ∧ ∀ (j : Nat) v, us[j]? = some v → w.cell? ((⟨b, k * e.sz + p.off, none⟩ : Addr).add j) = some v := by
  have hx : l[k]? = some (List.getD l k e.zero) := by simp [List.getD, List.getElem?_eq_getElem hk]
  have h1 := h.at (n := e.sz) (fun x c hx => CR_len w M e x c hx) hx
  refine ⟨_, CR_path p h1, fun j v hj => ?_⟩
  rw [Addr.mk_add]
  rw [List.getElem?_take] at hj
  split at hj
  · rw [List.getElem?_drop, List.getElem?_take] at hj
    split at hj
    · rw [List.getElem?_drop] at hj
      have := hc _ v hj
      rwa [← Nat.add_assoc] at this
    · cases hj
  · cases hj

theorem op_load {t : TypeId} {x : Operand} (hT : TEok P T) (hs : HS w0 B0 Mo w μ U H) (hρ : ∀ x, VR w (MM Mo μ H) μ U (ρ x) (a.eval x)) (ho : o.op = .load t x)
    (h : (opG T E ρ H nx o).run some = some r) : OpOK P a o w (Good w0 B0 Mo w μ U H nx r) := by
  have h1 := hρ x
  simp only [opG, ho] at h
  have fin : ∀ v ad, a.eval x = .pointer (some ad) → (loadVar t ad).run P w = .ok v w → VR w (MM Mo μ H) μ U r.v v → r = ⟨r.v, [], r.rd, nx⟩ → OpOK P a o w (Good w0 B0 Mo w μ U H nx r) := fun v ad hx hv hr he => by
    rw [he]
    exact OpOK.of_run (v := v) (w' := w) (by simp only [execOp, ho]; exact run_v (by rw [hx]; simpa [Instr.loadAt, Instr.sureAddr] using hv)) (Good.same hs hr _)
  split at h
  · rename_i id off hx
    rw [hx] at h1; unfold VR at h1
    obtain ⟨hu, b, hb, hv⟩ := h1
    split at h
    · rename_i cs wr hg
      have h2 := hs.obj id
      rw [hg] at h2
      obtain ⟨b', vs, tid, h3, h4, h5, h6⟩ := h2
      rw [hb] at h3; cases h3
      have hcell : ∀ j, w.cell? ⟨b, j, none⟩ = vs[j]? := fun j => cell_of_row w b j vs tid (0, 0) h4
      split at h
      · rename_i hag
        cases hle : Nat.ble (off + T.sz t) cs.length with
        | false => rw [hle] at h; cases h
        | true =>
          rw [hle] at h
          simp only [cond_true, DT.run, Option.some.injEq] at h; subst h
          have hle' : off + T.sz t ≤ vs.toList.length := by rw [← VRs_len _ _ h5]; exact Nat.ble_eq.mp hle
          obtain ⟨i, e1, e2⟩ := hT.size (TEok.aggOther hag)
          refine fin _ _ hv (run_loadVar_agg hT (us := (vs.toList.drop off).take (T.sz t)) hag e1 (by rw [e2]; simp at hle' ⊢; omega) fun j u hj => ?_) ?_ rfl
          · rw [Addr.mk_add, hcell]
            rw [List.getElem?_take] at hj
            split at hj
            · rw [List.getElem?_drop] at hj; simpa using hj
            · cases hj
          · unfold VR
            refine ⟨_, rfl, ?_, fun u hu' => h6 u ?_⟩
            · simpa using VRs_take (T.sz t) (VRs_drop off h5)
            · exact List.mem_of_mem_drop (List.mem_of_mem_take (by simpa using hu'))
      · rename_i hag
        cases hle : Nat.blt off cs.length with
        | false => rw [hle] at h; cases h
        | true =>
          rw [hle] at h
          simp only [cond_true, DT.run, Option.some.injEq] at h; subst h
          have hlt : off < vs.toList.length := by rw [← VRs_len _ _ h5]; exact Nat.blt_eq.mp hle
          have hg : vs[off]? = some vs.toList[off] := by
            have := List.getElem?_eq_getElem hlt; simpa using this
          exact fin vs.toList[off] _ hv (run_loadVar_one hT hag (by rw [hcell]; exact hg)) (VRs_nth off h5 _ (List.getElem?_eq_getElem hlt)) rfl
      · cases h
    · cases h
  · rename_i u v hx
    rw [hx] at h1; unfold VR at h1
    obtain ⟨ad, vs, e0, hsp, hcr, hcl⟩ := h1
    cases hty : tyIs T t u with
    | false => rw [hty] at h; cases h
    | true =>
      rw [hty] at h
      simp only [cond_true, DT.val, DT.run, Option.some.injEq] at h; subst h
      obtain ⟨y, h2, h3⟩ := run_loadVar_data (μ := μ) (U := U) hT (tyIs_ok hT hty) hcr fun j u hj => (hcl j u hj).1
      exact fin y ad e0 h2 h3 rfl
  · rename_i id k e u p hx
    rw [hx] at h1; unfold VR at h1
    obtain ⟨hu, hlt, b, hb, hv⟩ := h1
    cases hty : tyIs T t u with
    | false => rw [hty] at h; cases h
    | true =>
      rw [hty] at h
      simp only [Bool.not_true, cond_false] at h
      have h2 := hs.obj id
      split at h
      · rename_i tid e' l live hg
        split at h
        · rename_i y hy
          obtain ⟨he, rfl⟩ := castD_spec hy
          cases he
          simp only [DT.run, Option.some.injEq] at h; subst h
          rw [hg] at h2
          obtain ⟨hn, xs, h3, h4⟩ := row_cells h2 hb
          obtain ⟨us, h5, h6⟩ := elem_part p h3 (by rw [← hn]; exact hlt) h4
          obtain ⟨y, h7, h8⟩ := run_loadVar_data (μ := μ) (U := U) hT (tyIs_ok hT hty) h5 h6
          exact fin y _ hv h7 h8 rfl
        · cases h
      · rename_i n e' l hg
        split at h
        · rename_i y hy
          obtain ⟨he, rfl⟩ := castD_spec hy
          cases he
          simp only [DT.run, Option.some.injEq] at h; subst h
          rw [hg] at h2
          obtain ⟨hn, xs, h3, h4⟩ := arr_cells h2 hb
          obtain ⟨us, h5, h6⟩ := elem_part p h3 (by rw [← hn]; exact hlt) h4
          obtain ⟨y, h7, h8⟩ := run_loadVar_data (μ := μ) (U := U) hT (tyIs_ok hT hty) h5 h6
          exact fin y _ hv h7 h8 rfl
        · cases h
      · cases h
  · cases h
end
end Go.Tat

namespace Go.Tat
set_option linter.unusedVariables false
section
variable {P : Program} {T : TE} {E : FuncId → List Entry} {w0 : World} {B0 Mo : Nat → Prop} {w : World} {M : Nat → Prop} {μ : Mu} {U : Nat → Prop} {H : Heap} {nx : Nat} {ρ : Operand → AV} {a : Act} {o : Oper} {r : R}

theorem guard_some {b : Bool} {x : DT} {r : R} (h : (DT.guard b x).run some = some r) : b = true ∧ x.run some = some r := by
  cases b
  · cases h
  · exact ⟨rfl, h⟩

theorem run_indexAt_slice {t e : TypeId} {ad : Addr} {n c sz : Nat} {k : IntKind} {i : Int} (hu : P.underlying t = some (.slice e)) (hs : (sizeOf e).run P w = .ok sz w) (h0 : 0 ≤ i) (h1 : i < n) :
    (Instr.indexAt t (.slice (some ad) n c) (.int k i)).run P w = .ok (.pointer (some (ad.add (i.toNat * sz)))) w := by
  simp [Instr.indexAt, asIntOf, run_underlying hu, hs, h0, h1]
theorem run_indexAt_arr {t e : TypeId} {ad : Addr} {n sz : Nat} {k : IntKind} {i : Int} (hu : P.underlying t = some (.array n e)) (hs : (sizeOf e).run P w = .ok sz w) (h0 : 0 ≤ i) (h1 : i < n) :
    (Instr.indexAt t (.pointer (some ad)) (.int k i)).run P w = .ok (.pointer (some (ad.add (i.toNat * sz)))) w := by
  simp [Instr.indexAt, asIntOf, run_underlying hu, hs, h0, h1, Instr.sureAddr]

theorem op_indexAddr {t : TypeId} {x i : Operand} (hT : TEok P T) (hs : HS w0 B0 Mo w μ U H) (hρ : ∀ x, VR w (MM Mo μ H) μ U (ρ x) (a.eval x)) (ho : o.op = .indexAddr t x i)
    (h : (opG T E ρ H nx o).run some = some r) : OpOK P a o w (Good w0 B0 Mo w μ U H nx r) := by
  have h1 := hρ x
  simp only [opG, ho] at h
  have fin : ∀ v, (Instr.indexAt t (a.eval x) (a.eval i)).run P w = .ok v w → VR w (MM Mo μ H) μ U r.v v → r = ⟨r.v, [], r.rd, nx⟩ → OpOK P a o w (Good w0 B0 Mo w μ U H nx r) := fun v hv hr he => by
    rw [he]
    exact OpOK.of_run (v := v) (w' := w) (by simp only [execOp, ho]; exact run_v hv) (Good.same hs hr _)
  split at h
  · cases h
  · rename_i iv hi
    obtain ⟨k, hk⟩ := asIntOf_of (hρ i) hi
    split at h
    · rename_i e l e' hx hud
      cases hty : tyIs T e' e with
      | false => rw [hty] at h; cases h
      | true =>
        rw [hty] at h
        simp only [cond_true] at h
        obtain ⟨hg, h⟩ := guard_some h
        simp only [DT.val, DT.run, Option.some.injEq] at h; subst h
        simp only [Bool.and_eq_true, decide_eq_true_eq] at hg
        rw [hx] at h1
        obtain ⟨ao, c, h2, h3, h4⟩ := (VR_d0 rfl).1 h1
        simp only [List.cons.injEq, and_true] at h2
        obtain ⟨d, hd1, hd2⟩ := hT.und hud (by simp)
        rw [show d = .slice e' from hd2] at hd1
        cases ao with
        | none =>
          simp only at h4
          have hl : List.length l = 0 := by omega
          rw [hl] at hg; omega
        | some ad =>
          obtain ⟨hsp, xs, h5, h6⟩ := h4
          rw [h2, hk] at fin
          refine fin _ (run_indexAt_slice hd1 (tyIs_ok hT hty).size hg.1 hg.2) ?_ rfl
          have hlt : iv.toNat < List.length l := by omega
          have hx : l[iv.toNat]? = some (List.getD l iv.toNat e.zero) := by simp [List.getD, List.getElem?_eq_getElem hlt]
          unfold VR
          refine ⟨_, _, rfl, Addr.add_spot _ _ hsp, h5.at (n := e.sz) (fun x c hx => CR_len w _ e x c hx) hx, fun j u hj => ?_⟩
          rw [Addr.add_add, Addr.add_block]
          rw [List.getElem?_take] at hj
          split at hj
          · rw [List.getElem?_drop] at hj; exact h6 _ u hj
          · cases hj
    · rename_i id e' hx hud
      split at h
      · rename_i tid e l live hg0
        cases hty : tyIs T e' e with
        | false => rw [hty] at h; cases h
        | true =>
          rw [hty] at h
          simp only [cond_true] at h
          obtain ⟨hg, h⟩ := guard_some h
          simp only [DT.run, Option.some.injEq] at h; subst h
          simp only [Bool.and_eq_true, decide_eq_true_eq] at hg
          rw [hx] at h1; unfold VR at h1
          obtain ⟨hu, hv, _⟩ := h1
          have h2 := hs.obj id
          rw [hg0] at h2
          obtain ⟨d, hd1, hd2⟩ := hT.und hud (by simp)
          rw [show d = .slice e' from hd2] at hd1
          have key : (μ id).n = l.length ∧ ∃ b c, (μ id).v = .slice (some ⟨b, 0, none⟩) l.length c := by
            cases live with
            | true =>
              obtain ⟨hn, xs, h3, _⟩ := h2
              rcases h3.2 with ⟨_, h4⟩ | ⟨g, cap, cur, h4, _⟩
              · rw [h4] at hg; omega
              · exact ⟨hn, g, cap, h4⟩
            | false =>
              obtain ⟨hn, ⟨ao, c, h3, h4, h5⟩, h6⟩ := h2
              simp only [List.cons.injEq, and_true] at h3
              cases ao with
              | none =>
                simp only at h5
                have : List.length l = 0 := by omega
                rw [this] at hg; omega
              | some ad =>
                obtain ⟨h7, h8⟩ := h6 _ _ _ h3
                exact ⟨hn, ad.block, c, by rw [h3, Addr.eta h8, h7]⟩
          obtain ⟨hn, b, c, hb⟩ := key
          rw [hv, hb, hk] at fin
          refine fin _ (run_indexAt_slice hd1 (tyIs_ok hT hty).size hg.1 hg.2) ?_ rfl
          unfold VR
          exact ⟨hu, by rw [hn]; omega, b, by rw [hb]; rfl, by rw [Addr.mk_add]; simp [Path.off]⟩
      · cases h
    · rename_i id n e' hx hud
      split at h
      · rename_i m e l hg0
        cases hty : (tyIs T e' e && Nat.beq n m) with
        | false => rw [hty] at h; cases h
        | true =>
          rw [hty] at h
          simp only [cond_true] at h
          obtain ⟨hg, h⟩ := guard_some h
          simp only [DT.run, Option.some.injEq] at h; subst h
          simp only [Bool.and_eq_true, decide_eq_true_eq] at hg hty
          have hnm : n = m := Nat.eq_of_beq_eq_true hty.2
          subst hnm
          rw [hx] at h1; unfold VR at h1
          obtain ⟨hu, b, hb, hv⟩ := h1
          have h2 := hs.obj id
          rw [hg0] at h2
          obtain ⟨hn, b', vs, tid, h3, h4, h5⟩ := h2
          rw [hb] at h3; cases h3
          have hln : List.length l = n := h5.1
          obtain ⟨d, hd1, hd2⟩ := hT.und hud (by simp)
          rw [show d = .array n e' from hd2] at hd1
          rw [hv, hk] at fin
          refine fin _ (run_indexAt_arr hd1 (tyIs_ok hT hty.1).size hg.1 (by rw [← hln]; exact hg.2)) ?_ rfl
          unfold VR
          exact ⟨hu, by rw [hn]; omega, b, by rw [hb]; rfl, by rw [Addr.mk_add]; simp [Path.off]⟩
      · cases h
    · cases h

theorem op_index {t : TypeId} {x i : Operand} (hT : TEok P T) (hs : HS w0 B0 Mo w μ U H) (hρ : ∀ x, VR w (MM Mo μ H) μ U (ρ x) (a.eval x)) (ho : o.op = .index t x i)
    (h : (opG T E ρ H nx o).run some = some r) : OpOK P a o w (Good w0 B0 Mo w μ U H nx r) := by
  have h1 := hρ x
  simp only [opG, ho] at h
  split at h
  · rename_i s iv hx hi hud
    obtain ⟨k, hk⟩ := asIntOf_of (hρ i) hi
    obtain ⟨hg, h⟩ := guard_some h
    simp only [DT.val, DT.run, Option.some.injEq] at h; subst h
    simp only [Bool.and_eq_true, decide_eq_true_eq] at hg
    rw [hx, VR_str] at h1
    obtain ⟨d, hd1, hd2⟩ := hT.und hud (by simp)
    rw [show d = .string from hd2] at hd1
    have hlt : iv.toNat < s.size := by omega
    have hb : s[iv.toNat]? = some s[iv.toNat] := by simp [getElem?_def, hlt]
    have hbt : bt s iv = ((s[iv.toNat] : UInt8).toNat : Int) := by
      have hlt' : iv.toNat < s.data.size := hlt
      have e : s.data.getD iv.toNat 0 = s[iv.toNat] := by
        rw [Array.getD_eq_getD_getElem?, Array.getElem?_eq_getElem hlt']; rfl
      simp only [bt, e]
    refine OpOK.of_run (v := .int .u8 (bt s iv)) (w' := w) ?_ (Good.same hs (VR_int.2 rfl) _)
    simp only [execOp, ho]
    refine run_v ?_
    rw [h1, hk]
    simp [Instr.index, asIntOf, run_underlying hd1, hg.1, hb, hbt]
  · cases h
end
end Go.Tat

namespace Go.Tat
set_option linter.unusedVariables false
section
variable {P : Program} {T : TE} {E : FuncId → List Entry} {w0 : World} {B0 Mo : Nat → Prop} {w : World} {M : Nat → Prop} {μ : Mu} {U : Nat → Prop} {H : Heap} {nx : Nat} {ρ : Operand → AV} {a : Act} {o : Oper} {r : R}

theorem run_builtin {c : Call} {b : Builtin} (hc : c.callee = .builtin b) (ho : o.op = .call c) {s : Sem Value} {v : Value} {w' : World}
    (hb : ∀ cs, builtin b c.argTypes o.type cs (c.args.map a.eval) = (do pure (Go.Next.value (← s)))) (hs : s.run P w = .ok v w') :
    (execOp a.eval o).run P w = .ok (.value v) w' := by
  simp only [execOp, ho, resolve, hc, invoke]
  simp only [Sem.run_bind, Sem.run_pure, Result.andThen_ok]
  rw [hb]
  exact run_v hs

theorem args_one {c : Call} {x : AV} (h : c.args.toList.map ρ = [x]) : ∃ y, c.args = #[y] ∧ ρ y = x := by
  obtain ⟨l, hl⟩ : ∃ l, c.args.toList = l := ⟨_, rfl⟩
  rw [hl] at h
  match l, h with
  | [y], h => exact ⟨y, by rw [← Array.toArray_toList (xs := c.args), hl], by simpa using h⟩
theorem args_two {c : Call} {x y : AV} (h : c.args.toList.map ρ = [x, y]) : ∃ u v, c.args = #[u, v] ∧ ρ u = x ∧ ρ v = y := by
  obtain ⟨l, hl⟩ : ∃ l, c.args.toList = l := ⟨_, rfl⟩
  rw [hl] at h
  match l, h with
  | [u, v], h => exact ⟨u, v, by rw [← Array.toArray_toList (xs := c.args), hl], by simp at h; exact h⟩
theorem types_one {c : Call} {t : TypeId} (h : c.argTypes.toList = [t]) : c.argTypes = #[t] := by rw [← Array.toArray_toList (xs := c.argTypes), h]
theorem types_two {c : Call} {t u : TypeId} (h : c.argTypes.toList = [t, u]) : c.argTypes = #[t, u] := by rw [← Array.toArray_toList (xs := c.argTypes), h]

theorem op_len {c : Call} (hT : TEok P T) (hs : HS w0 B0 Mo w μ U H) (hρ : ∀ x, VR w (MM Mo μ H) μ U (ρ x) (a.eval x)) (hc : c.callee = .builtin .len) (ho : o.op = .call c)
    (h : (opG T E ρ H nx o).run some = some r) : OpOK P a o w (Good w0 B0 Mo w μ U H nx r) := by
  simp only [opG, ho, hc, builtinC] at h
  have fin : ∀ x t n, c.args = #[x] → c.argTypes = #[t] → (Builtin.len_ #[t] o.type #[a.eval x]).run P w = .ok (.int .i64 n) w → r = ⟨.d (.int .i64) n, [], r.rd, nx⟩ → OpOK P a o w (Good w0 B0 Mo w μ U H nx r) := fun x t n hx ht hv he => by
    rw [he]
    exact OpOK.of_run (v := .int .i64 n) (w' := w) (run_builtin hc ho (s := Builtin.len_ c.argTypes o.type #[a.eval x]) (by intro cs; rw [hx]; simp [builtin]) (by rw [ht]; exact hv)) (Good.same hs (VR_int.2 rfl) _)
  cases hts : c.argTypes.toList with
  | nil => rw [hts] at h; cases h
  | cons t r1 =>
  cases r1 with
  | cons => rw [hts] at h; cases h
  | nil =>
  cases hxs : c.args.toList.map ρ with
  | nil => rw [hts, hxs] at h; cases h
  | cons x r2 =>
  cases r2 with
  | cons => rw [hts, hxs] at h; cases h
  | nil =>
  rw [hts, hxs] at h
  simp only [lenC] at h
  obtain ⟨y, hy, hyx⟩ := args_one hxs
  have hts := types_one hts
  have h1 := hρ y
  rw [hyx] at h1
  have hsl : ∀ e, T.ud t = .slice e → P.underlying t = some (.slice e) := fun e hud => by
    obtain ⟨d, hd1, hd2⟩ := hT.und hud (by simp)
    rw [show d = .slice e from hd2] at hd1; exact hd1
  split at h
  · rename_i s hud
    simp only [DT.val, DT.run, Option.some.injEq] at h; subst h
    rw [VR_str] at h1
    obtain ⟨d, hd1, hd2⟩ := hT.und hud (by simp)
    rw [show d = .string from hd2] at hd1
    exact fin y t _ hy hts (by rw [h1]; simp [Builtin.len_, run_underlying hd1, goInt]) rfl
  · rename_i e' e l hud
    simp only [DT.val, DT.run, Option.some.injEq] at h; subst h
    obtain ⟨ao, c', h2, _⟩ := (VR_d0 rfl).1 h1
    simp only [List.cons.injEq, and_true] at h2
    exact fin y t _ hy hts (by rw [h2]; simp [Builtin.len_, run_underlying (hsl _ hud), goInt]) rfl
  · rename_i e' hud
    simp only [DT.val, DT.run, Option.some.injEq] at h; subst h
    unfold VR at h1
    exact fin y t _ hy hts (by rw [h1]; simp [Builtin.len_, run_underlying (hsl _ hud), goInt]) rfl
  · rename_i e' id hud
    split at h
    · rename_i tid e l live hg
      simp only [DT.run, Option.some.injEq] at h; subst h
      unfold VR at h1
      obtain ⟨_, h2, _⟩ := h1
      have h3 := hs.obj id
      rw [hg] at h3
      have : ∃ ao c', (μ id).v = .slice ao l.length c' := by
        cases live with
        | true =>
          obtain ⟨_, xs, h4, _⟩ := h3
          rcases h4.2 with ⟨h5, h6⟩ | ⟨g, cap, cur, h5, _⟩
          · exact ⟨none, 0, by rw [h5, h6]⟩
          · exact ⟨_, _, h5⟩
        | false =>
          obtain ⟨_, ⟨ao, c', h4, _⟩, _⟩ := h3
          simp only [List.cons.injEq, and_true] at h4
          exact ⟨ao, c', h4⟩
      obtain ⟨ao, c', h5⟩ := this
      exact fin y t _ hy hts (by rw [h2, h5]; simp [Builtin.len_, run_underlying (hsl _ hud), goInt]) rfl
    · cases h
  · cases h

theorem op_minmax {c : Call} (mx : Bool) (hs : HS w0 B0 Mo w μ U H) (hρ : ∀ x, VR w (MM Mo μ H) μ U (ρ x) (a.eval x)) (hc : c.callee = .builtin (cond mx .max .min)) (ho : o.op = .call c)
    (h : (opG T E ρ H nx o).run some = some r) : OpOK P a o w (Good w0 B0 Mo w μ U H nx r) := by
  have h' : (minC mx nx (c.args.toList.map ρ)).run some = some r := by
    simp only [opG, ho, hc, builtinC] at h
    cases mx <;> exact h
  cases hxs : c.args.toList.map ρ with
  | nil => rw [hxs] at h'; cases h'
  | cons x r1 =>
  cases r1 with
  | nil => rw [hxs] at h'; cases h'
  | cons y r2 =>
  cases r2 with
  | cons => rw [hxs] at h'; cases h'
  | nil =>
  rw [hxs] at h'
  simp only [minC] at h'
  obtain ⟨u, v, hargs, hu, hv⟩ := args_two hxs
  have h1 := hρ u
  have h2 := hρ v
  rw [hu] at h1
  rw [hv] at h2
  split at h'
  · rename_i k m k' n
    simp only [DT.val, DT.run, Option.some.injEq] at h'; subst h'
    rw [VR_int] at h1 h2
    cases mx with
    | true =>
      refine OpOK.of_run (v := .int k (max m n)) (w' := w) (run_builtin hc ho (s := Builtin.max_ c.argTypes o.type #[a.eval u, a.eval v]) (by intro cs; rw [hargs]; simp [builtin]) ?_) (Good.same hs (VR_int.2 rfl) _)
      rw [h1, h2]
      simp only [Builtin.max_, List.foldlM, Builtin.max2]
      simp
      split <;> omega
    | false =>
      refine OpOK.of_run (v := .int k (min m n)) (w' := w) (run_builtin hc ho (s := Builtin.min_ c.argTypes o.type #[a.eval u, a.eval v]) (by intro cs; rw [hargs]; simp [builtin]) ?_) (Good.same hs (VR_int.2 rfl) _)
      rw [h1, h2]
      simp only [Builtin.min_, List.foldlM, Builtin.min2]
      simp
      split <;> omega
  · cases h'
end
end Go.Tat

namespace Go.Tat
set_option linter.unusedVariables false
section
variable {P : Program} {T : TE} {E : FuncId → List Entry} {w0 : World} {B0 Mo : Nat → Prop} {w : World} {M : Nat → Prop} {μ : Mu} {U : Nat → Prop} {H : Heap} {nx : Nat} {ρ : Operand → AV} {a : Act} {o : Oper} {r : R}

/-- A slice's elements, where they lie. -/
theorem elemsOf_sound (ho : ∀ i, objOK w M μ U i (hget H i)) {e : Ty} {v : AV} {u : Value} {l : List e.den} {ids : List Nat} (hv : VR w M μ U v u) (h : elemsOf H e v = some (l, ids)) :
    ∃ ao c xs, u = .slice ao l.length c ∧ CRL (CR w M e) l xs ∧ (ao = none → l = [] ∧ c = 0) ∧ (∀ ad, ao = some ad → ∀ (j : Nat) y, xs[j]? = some y → w.cell? (ad.add j) = some y) := by
  have key : ∀ l : List e.den, CR w M (.slice e) l [u] → ∃ ao c xs, u = .slice ao l.length c ∧ CRL (CR w M e) l xs ∧ (ao = none → l = [] ∧ c = 0) ∧ (∀ ad, ao = some ad → ∀ (j : Nat) y, xs[j]? = some y → w.cell? (ad.add j) = some y) := fun l hcr => by
    obtain ⟨ao, c, h1, h2, h3⟩ := hcr
    simp only [List.cons.injEq, and_true] at h1
    cases ao with
    | none =>
      simp only at h3
      have h4 : l = [] := List.eq_nil_of_length_eq_zero (by omega)
      subst h4
      exact ⟨none, c, [], h1, CRL.nil, fun _ => ⟨rfl, h3⟩, fun ad hh => by cases hh⟩
    | some ad =>
      obtain ⟨hsp, xs, h4, h5⟩ := h3
      exact ⟨some ad, c, xs, h1, h4, (fun hh => nomatch hh), fun ad' hh j y hj => by cases hh; exact (h5 j y hj).1⟩
  unfold elemsOf at h
  split at h
  · cases h
    unfold VR at hv
    exact ⟨none, 0, [], hv, CRL.nil, fun _ => ⟨rfl, rfl⟩, fun ad hh => by cases hh⟩
  · rename_i id
    split at h
    · rename_i tid e' l' live hg
      split at h
      · rename_i y hy
        obtain ⟨he, rfl⟩ := castD_spec hy
        cases he
        cases h
        have h1 := ho id
        rw [hg] at h1
        unfold VR at hv
        rw [hv.2.1]
        cases live with
        | false => have := key l' (by rw [hv.2.1]; exact h1.2.1); rw [hv.2.1] at this; exact this
        | true =>
          obtain ⟨_, xs, h2, h3⟩ := h1
          rcases h2.2 with ⟨h4, h5⟩ | ⟨g, cap, cur, h4, _⟩
          · have h6 : l' = [] := List.eq_nil_of_length_eq_zero h5
            subst h6
            exact ⟨none, 0, [], by rw [h4]; rfl, CRL.nil, fun _ => ⟨rfl, rfl⟩, fun ad hh => by cases hh⟩
          · exact ⟨_, _, xs, h4, h3, (fun hh => nomatch hh), fun ad hh j y hj => by cases hh; exact h2.cells (g := g) (by rw [h4]; rfl) j y hj⟩
      · cases h
    · cases h
  · rename_i u' l'
    split at h
    · rename_i y hy
      obtain ⟨rfl, rfl⟩ := castD_spec hy
      cases h
      exact key _ ((VR_d0 rfl).1 hv)
    · cases h
  · cases h

theorem CRL_int {k : IntKind} : ∀ {l : List Int} {xs : List Value}, CRL (CR w M (.int k)) (l : List (Ty.int k).den) xs → xs = l.map (Value.int k)
  | [], xs, h => by have := CRL.len h; simpa using this
  | x :: l, xs, h => by
    obtain ⟨c, ys, h1, h2, h3⟩ := h.uncons
    rw [h1, CRL_int h3, show c = _ from h2]; rfl

theorem push_ints : ∀ (l : List Int) (s : ByteArray), l.foldl (fun s n => s.push (UInt8.ofNat n.toNat)) s = ⟨s.data ++ (l.map fun n => UInt8.ofNat n.toNat).toArray⟩
  | [], s => by simp
  | b :: r, s => by
    rw [List.foldl_cons, push_ints r]
    congr 1
    apply Array.ext'
    simp [ByteArray.push]

theorem op_convert {t s : TypeId} {x : Operand} (hT : TEok P T) (hs : HS w0 B0 Mo w μ U H) (hρ : ∀ x, VR w (MM Mo μ H) μ U (ρ x) (a.eval x)) (ho : o.op = .convert s t x)
    (h : (opG T E ρ H nx o).run some = some r) : OpOK P a o w (Good w0 B0 Mo w μ U H nx r) := by
  have h1 := hρ x
  simp only [opG, ho] at h
  have fin : ∀ v, (convert s t (a.eval x)).run P w = .ok v w → VR w (MM Mo μ H) μ U r.v v → r = ⟨r.v, [], r.rd, nx⟩ → OpOK P a o w (Good w0 B0 Mo w μ U H nx r) := fun v hv hr he => by
    rw [he]
    exact OpOK.of_run (v := v) (w' := w) (by simp only [execOp, ho]; exact run_v hv) (Good.same hs hr _)
  split at h
  · rename_i k k' n hud hx
    rw [hx, VR_int] at h1
    split at h
    · rename_i k'' hus
      simp only [DT.val, DT.run, Option.some.injEq] at h; subst h
      obtain ⟨d, hd1, hd2⟩ := hT.und hud (by simp)
      rw [show d = .int k from hd2] at hd1
      obtain ⟨d', hd3, hd4⟩ := hT.und hus (by simp)
      rw [show d' = .int k'' from hd4] at hd3
      exact fin (.int k (k.wrap n)) (by rw [h1]; simp [convert, run_underlying hd1, run_underlying hd3, Conv.intToInt]) (VR_int.2 rfl) rfl
    · cases h
  · rename_i v hud
    obtain ⟨d, hd1, hd2⟩ := hT.und hud (by simp)
    rw [show d = .string from hd2] at hd1
    split at h
    · rename_i hus
      obtain ⟨d', hd3, hd4⟩ := hT.und hus (by simp)
      rw [show d' = .string from hd4] at hd3
      split at h
      · rename_i z hx
        rw [hx, VR_str] at h1
        simp only [DT.val, DT.run, Option.some.injEq] at h; subst h
        exact fin (.string z) (by rw [h1]; simp [convert, run_underlying hd1, run_underlying hd3]) (VR_str.2 rfl) rfl
      · cases h
    · rename_i e hus
      obtain ⟨d', hd3, hd4⟩ := hT.und hus (by simp)
      rw [show d' = .slice e from hd4] at hd3
      split at h
      · rename_i hue
        obtain ⟨d2, hd5, hd6⟩ := hT.und hue (by simp)
        rw [show d2 = .int .u8 from hd6] at hd5
        split at h
        · rename_i l ids hel
          simp only [DT.run, Option.some.injEq] at h; subst h
          obtain ⟨ao, c, xs, h2, h3, h4, h5⟩ := elemsOf_sound hs.obj h1 hel
          refine fin _ ?_ (VR_str.2 rfl) rfl
          rw [h2]
          have hxs := CRL_int h3
          cases ao with
          | none =>
            obtain ⟨h6, _⟩ := h4 rfl
            subst h6
            simp [convert, run_underlying hd1, run_underlying hd3, run_underlying hd5, Conv.bytesToString]
            rfl
          | some ad =>
            have hl := run_loadCells_list (P := P) w ad xs (h5 ad rfl)
            rw [hxs, List.length_map] at hl
            have hb := run_bytesToString (P := P) w ad l.length c l hl
            simp only [convert, Sem.run_bind, run_underlying hd1, run_underlying hd3, run_underlying hd5, Result.andThen_ok, hb]
            rw [push_ints]
            congr 3
            simp
        · cases h
      · cases h
    · cases h
  · cases h
end
end Go.Tat

namespace Go.Tat
set_option linter.unusedVariables false
section
variable {P : Program} {T : TE} {E : FuncId → List Entry} {w0 : World} {B0 Mo : Nat → Prop} {w : World} {M : Nat → Prop} {μ : Mu} {U : Nat → Prop} {H : Heap} {nx : Nat} {ρ : Operand → AV} {a : Act} {o : Oper} {r : R}

theorem ba_beq (a b : ByteArray) : (a == b) = true ↔ a = b := by
  cases a with | mk x => cases b with | mk y =>
  show (x == y) = true ↔ _
  rw [beq_iff_eq]
  exact ⟨fun h => by rw [h], fun h => by cases h; rfl⟩
theorem ba_comm (a b : ByteArray) : (a == b) = (b == a) := by
  rw [Bool.eq_iff_iff, ba_beq, ba_beq]; exact eq_comm
/-- What a key's kind means. -/
theorem keyIs_same {d : UD} {k : Ty} {desc : TypeDesc} (h : keyIs d k = true) (hu : udOK P T d desc) {x y : k.den} {u v : Value} (hx : CR w M k x [u]) (hy : CR w M k y [v]) :
    Instr.sameNow desc u v = some (k.eqB y x) := by
  cases d <;> cases k <;> simp only [keyIs] at h <;> (try cases h)
  · rename_i k k'
    have := ikN_inj h
    subst this
    rw [show desc = _ from hu]
    have h1 : u = .int k x := by unfold CR at hx; simpa using hx
    have h2 : v = .int k y := by unfold CR at hy; simpa using hy
    subst h1; subst h2
    simp only [Instr.sameNow, Ty.eqB, if_true, Option.some.injEq]
    exact BEq.comm
  · rw [show desc = _ from hu]
    have h1 : u = .bool x := by unfold CR at hx; simpa using hx
    have h2 : v = .bool y := by unfold CR at hy; simpa using hy
    subst h1; subst h2
    simp only [Instr.sameNow, Ty.eqB, Option.some.injEq]
    exact BEq.comm
  · rw [show desc = _ from hu]
    have h1 : u = .string x := by unfold CR at hx; simpa using hx
    have h2 : v = .string y := by unfold CR at hy; simpa using hy
    subst h1; subst h2
    simp only [Instr.sameNow, Ty.eqB, Option.some.injEq]
    exact ba_comm _ _
theorem keyIs_eq {d : UD} {k : Ty} (h : keyIs d k = true) {x y : k.den} : k.eqB y x = true → y = x := by
  cases d <;> cases k <;> simp only [keyIs] at h <;> (try cases h)
  · exact fun h => LawfulBEq.eq_of_beq (α := Int) h
  · exact fun h => LawfulBEq.eq_of_beq (α := Bool) h
  · exact fun h => (ba_beq _ _).1 h
theorem keyIs_free {d : UD} {k : Ty} (h : keyIs d k = true) {x : k.den} {us : List Value} {w' : World} {M' : Nat → Prop} (hx : CR w M k x us) : CR w' M' k x us := by
  cases d <;> cases k <;> simp only [keyIs] at h <;> (try cases h) <;> exact hx
theorem keyIs_other {d : UD} {k : Ty} (h : keyIs d k = true) : d ≠ .other := by intro e; subst e; cases k <;> cases h
theorem keyIs_agg {d : UD} {k : Ty} (h : keyIs d k = true) : k.agg = false := by cases d <;> cases k <;> first | rfl | cases h
theorem keyIs_check {d : UD} {k : Ty} {desc : TypeDesc} {kt : TypeId} (h : keyIs d k = true) (hu : udOK P T d desc) (hk : P.underlying kt = some desc) (e : Bool) (v : Value) : (Instr.checkKey e 10000 kt v).run P w = .ok () w := by
  have : desc = .bool ∨ desc = .string ∨ ∃ k, desc = .int k := by
    cases d <;> cases k <;> simp only [keyIs] at h <;> (try cases h)
    · exact .inr (.inr ⟨_, hu⟩)
    · exact .inl hu
    · exact .inr (.inl hu)
  rcases this with rfl | rfl | ⟨k, rfl⟩ <;> (unfold Instr.checkKey; simp [run_underlying hk])

theorem findNow_sound {d : UD} {k v : Ty} {desc : TypeDesc} (h : keyIs d k = true) (hu : udOK P T d desc) {x : k.den} {u : Value} (hx : CR w M k x [u]) :
    ∀ (m : List (k.den × v.den)) (es : List MapEntry) (i : Nat), EntR w M k v m es →
      (mget k v m x = none ∧ Instr.findNow desc u es i = some none ∧ (∀ e : MapEntry, ∀ y, VR w M (fun _ => ⟨undef, 0⟩) (fun _ => False) (.d v y) e.val → CR w M k x [e.key] → EntR w M k v (mput k v m x y) (es ++ [e]))) ∨
      (∃ y j val, mget k v m x = some y ∧ Instr.findNow desc u es i = some (some (i + j, val)) ∧ VR w M (fun _ => ⟨undef, 0⟩) (fun _ => False) (.d v y) val ∧
        ∃ e, es[j]? = some e ∧ CR w M k x [e.key] ∧ ∀ y' val' key', VR w M (fun _ => ⟨undef, 0⟩) (fun _ => False) (.d v y') val' → CR w M k x [key'] → EntR w M k v (mput k v m x y') (es.modify j fun e => { e with key := key', val := val' }))
  | [], es, i, he => by
    rw [show es = [] from he]
    exact .inl ⟨rfl, rfl, fun e y hy hk => ⟨e, [], rfl, ⟨hk, hy⟩, rfl⟩⟩
  | p :: m, es, i, he => by
    obtain ⟨e, es', rfl, ⟨hk, hv⟩, hr⟩ := he
    have hsame := keyIs_same (T := T) (P := P) h hu hx hk
    cases hb : k.eqB p.1 x with
    | true =>
      refine .inr ⟨p.2, 0, e.val, by simp [mget, hb], by simp [Instr.findNow, hsame, hb], hv, e, rfl, ?_, fun y' val' key' hy' hk' => ?_⟩
      · have hxe : p.1 = x := keyIs_eq h hb
        rw [← hxe]; exact hk
      · have hxe : p.1 = x := keyIs_eq h hb
        simp only [mput, hb, cond_true, List.modify_zero_cons]
        exact ⟨_, _, rfl, ⟨by rw [hxe]; exact hk', hy'⟩, hr⟩
    | false =>
      rcases findNow_sound h hu hx m es' (i + 1) hr with ⟨h1, h2, h3⟩ | ⟨y, j, val, h1, h2, h3, e', h4, h5, h6⟩
      · refine .inl ⟨by simp [mget, hb, h1], by simp [Instr.findNow, hsame, hb, h2], fun e' y hy hk' => ?_⟩
        simp only [mput, hb, cond_false, List.cons_append]
        exact ⟨_, _, rfl, ⟨hk, hv⟩, h3 e' y hy hk'⟩
      · refine .inr ⟨y, j + 1, val, by simp [mget, hb, h1], ?_, h3, e', by simpa using h4, h5, fun y' val' key' hy' hk' => ?_⟩
        · simp only [Instr.findNow, hsame, hb, h2]
          congr 3; omega
        · simp only [mput, hb, cond_false, List.modify_succ_cons]
          exact ⟨_, _, rfl, ⟨hk, hv⟩, h6 y' val' key' hy' hk'⟩

theorem run_getObj_map {r : Nat} {es : Array MapEntry} {c : Nat} (h : w.heap[r]? = some (.map es c)) : (getObj r).run P w = .ok (.map es c) w := by
  simp [getObj, Sem.run, h]

theorem op_lookup {t : TypeId} {m k : Operand} {ok : Bool} (hT : TEok P T) (hs : HS w0 B0 Mo w μ U H) (hρ : ∀ x, VR w (MM Mo μ H) μ U (ρ x) (a.eval x)) (ho : o.op = .lookup t m k ok)
    (h : (opG T E ρ H nx o).run some = some r) : OpOK P a o w (Good w0 B0 Mo w μ U H nx r) := by
  have h1 := hρ m
  simp only [opG, ho] at h
  split at h
  · rename_i id kt vt hm hud
    split at h
    · rename_i ka vb es hg
      split at h
      · rename_i x i hx
        cases hk : (keyIs (T.ud kt) ka && tyIs T vt vb) with
        | false => rw [hk] at h; cases h
        | true =>
          rw [hk] at h
          simp only [cond_true] at h
          simp only [Bool.and_eq_true] at hk
          obtain ⟨d, hd1, hd2⟩ := hT.und hud (by simp)
          rw [show d = .map kt vt from hd2] at hd1
          obtain ⟨dk, hk1, hk2⟩ := hT.und (t := kt) rfl (keyIs_other hk.1)
          rw [hm] at h1; unfold VR at h1
          have h2 := hs.obj id
          rw [hg] at h2
          obtain ⟨ra, ens, c, h3, h4, h5⟩ := h2
          have hkey := toD_sound (M' := fun _ => False) hs.obj (fun ad v hc _ => ⟨hc, fun hf => hf⟩) (hρ k) hx (fun _ _ _ _ _ _ _ _ hf => hf)
          have hkc := keyIs_free (w' := w) (M' := MM Mo μ H) hk.1 ((VR_d0 (keyIs_agg hk.1)).1 hkey)
          have hval := tyIs_ok hT hk.2
          obtain ⟨iz, z, hz1, hz2, _, _, hz3⟩ := hval.zero
          have hchk := keyIs_check (w := w) hk.1 hk2 hk1 ens.isEmpty (a.eval k)
          have fin : ∀ (y : vb.den) (u : Value) (b : Bool), (Instr.lookup t (a.eval m) (a.eval k) ok).run P w = .ok (if ok then .tuple #[u, .bool b] else u) w →
              VR w (MM Mo μ H) μ U (.d vb y) u → optD (mget ka vb es x) vb.zero = y → optB (mget ka vb es x) = b → OpOK P a o w (Good w0 B0 Mo w μ U H nx r) := fun y u b hr hy e1 e2 => by
            rw [e1, e2] at h
            cases ok with
            | false =>
              simp only [DT.run, Option.some.injEq] at h; subst h
              exact OpOK.of_run (v := u) (w' := w) (by simp only [execOp, ho]; exact run_v hr) (Good.same hs hy _)
            | true =>
              simp only [DT.run, Option.some.injEq] at h; subst h
              refine OpOK.of_run (v := .tuple #[u, .bool b]) (w' := w) (by simp only [execOp, ho]; exact run_v hr) (Good.same hs ?_ _)
              unfold VR
              exact ⟨_, rfl, by simp only [VRs]; exact ⟨_, _, rfl, hy, _, _, rfl, VR_bool.2 rfl, rfl⟩⟩
          rw [h1.2.1, h3] at fin
          rcases findNow_sound (T := T) (P := P) hk.1 hk2 hkc es ens.toList 0 h5 with ⟨e1, e2, _⟩ | ⟨y, j, val, e1, e2, e3, _⟩
          · exact fin vb.zero z false (by
              simp [Instr.lookup, run_underlying hd1, run_getObj_map h4, hchk, Instr.findKey, run_underlying hk1, e2, run_zeroValue hz1 hz2]) (hz3 _ _ _ _) (by rw [e1]; rfl) (by rw [e1]; rfl)
          · exact fin y val true (by
              simp [Instr.lookup, run_underlying hd1, run_getObj_map h4, hchk, Instr.findKey, run_underlying hk1, e2]) (VR_any_data e3) (by rw [e1]; rfl) (by rw [e1]; rfl)
      · cases h
    · cases h
  · cases h

/-! ### Structs that are built -/
theorem fold_set : ∀ (l : List Value) (off k : Nat) (cells : Array Value), off + k + l.length ≤ cells.size →
    ((l.zipIdx k).foldl (fun cs (x : Value × Nat) => cs.setIfInBounds (off + x.2) x.1) cells).toList = cells.toList.take (off + k) ++ l ++ cells.toList.drop (off + k + l.length)
  | [], off, k, cells, h => by simp
  | v :: l, off, k, cells, h => by
    simp only [List.zipIdx_cons, List.foldl_cons]
    simp only [List.length_cons] at h
    rw [fold_set l off (k + 1) _ (by simp; omega)]
    have hlt : off + k < cells.toList.length := by simp; omega
    simp only [Array.toList_setIfInBounds, List.length_cons]
    rw [show off + (k + 1) = off + k + 1 by omega]
    rw [List.take_add_one, List.getElem?_set_self (by simpa using hlt), List.take_set_of_le (Nat.le_refl _), List.drop_set_of_lt (by omega)]
    simp [Nat.add_assoc, Nat.add_comm 1]
end
end Go.Tat

namespace Go.Tat
set_option linter.unusedVariables false
section
variable {P : Program} {T : TE} {E : FuncId → List Entry} {w0 : World} {B0 Mo : Nat → Prop} {w : World} {M : Nat → Prop} {μ : Mu} {U : Nat → Prop} {H : Heap} {nx : Nat} {ρ : Operand → AV} {a : Act} {o : Oper} {r : R}

theorem fill_sound {fs : List (Nat × Nat × TypeId)} {place : Nat → Option (Nat × Nat)} (hp : ∀ f o n t, nthF fs f = some (o, n, t) → place f = some (o, n)) (hρ : ∀ x, VR w M μ U (ρ x) (a.eval x)) :
    ∀ (ps : List (Nat × Operand)) (cs cs' : List AV) (zs : Array Value), VRs w M μ U cs zs.toList → (∀ u ∈ zs.toList, u.oneCell' = true) → fillA fs (ps.map fun p => (p.1, ρ p.2)) cs = some cs' →
      ∃ zs', Instr.fill place zs (ps.map fun p => (p.1, a.eval p.2)) = some zs' ∧ VRs w M μ U cs' zs'.toList ∧ (∀ u ∈ zs'.toList, u.oneCell' = true)
  | [], cs, cs', zs, hz, h1, h => by simp only [List.map_nil, fillA, Option.some.injEq] at h; subst h; exact ⟨zs, rfl, hz, h1⟩
  | (f, x) :: ps, cs, cs', zs, hz, h1, h => by
    simp only [List.map_cons, fillA] at h
    split at h
    · rename_i off n ft new hf hc
      cases hb : (Nat.beq new.length n && Nat.ble (off + n) cs.length) with
      | false => rw [hb] at h; cases h
      | true =>
        rw [hb] at h; simp only [cond_true] at h
        simp only [Bool.and_eq_true] at hb
        obtain ⟨hv, ho⟩ := cellsOf_sound (hρ x) hc
        have hn : new.length = n := Nat.eq_of_beq_eq_true hb.1
        have hl : (a.eval x).cells.toList.length = n := by rw [← VRs_len _ _ hv, hn]
        have hle : off + n ≤ zs.toList.length := by rw [← VRs_len _ _ hz]; exact Nat.ble_eq.mp hb.2
        have hsz : (a.eval x).cells.size = n := by simpa using hl
        simp only [List.map_cons, Instr.fill, hp f off n ft hf]
        rw [if_neg (by simp at hle; simp [hsz]; omega)]
        have hfold := fold_set (a.eval x).cells.toList off 0 zs (by simp at hle; simp [hsz]; omega)
        refine fill_sound hp hρ ps _ cs' _ ?_ ?_ h
        · have : (Array.foldl (fun cs (x : Value × Nat) => cs.setIfInBounds (off + x.2) x.1) zs (a.eval x).cells.zipIdx).toList = zs.toList.take off ++ (a.eval x).cells.toList ++ zs.toList.drop (off + (a.eval x).cells.toList.length) := by
            rw [← Array.foldl_toList, Array.toList_zipIdx]; simpa using hfold
          rw [this]
          exact VRs_set off (by rw [hn, VRs_len _ _ hz]; exact hle) hz hv
        · intro u hu
          have : (Array.foldl (fun cs (x : Value × Nat) => cs.setIfInBounds (off + x.2) x.1) zs (a.eval x).cells.zipIdx).toList = zs.toList.take off ++ (a.eval x).cells.toList ++ zs.toList.drop (off + (a.eval x).cells.toList.length) := by
            rw [← Array.foldl_toList, Array.toList_zipIdx]; simpa using hfold
          rw [this] at hu
          simp only [List.mem_append] at hu
          rcases hu with (hu | hu) | hu
          · exact h1 u (List.mem_of_mem_take hu)
          · exact ho u hu
          · exact h1 u (List.mem_of_mem_drop hu)
    · cases h

theorem run_mapM {α β : Type} (f : α → Sem β) (g : α → β) : ∀ (l : List α), (∀ x ∈ l, (f x).run P w = .ok (g x) w) → (l.mapM f).run P w = .ok (l.map g) w
  | [], _ => by simp
  | x :: r, h => by
    rw [List.mapM_cons]
    simp only [Sem.run_bind, h x (by simp), Result.andThen_ok, run_mapM f g r fun y hy => h y (by simp [hy]), Sem.run_pure, List.map_cons]
theorem run_mapMA {α β : Type} (f : α → Sem β) (g : α → β) (l : Array α) (h : ∀ x ∈ l.toList, (f x).run P w = .ok (g x) w) : (l.mapM f).run P w = .ok (l.map g) w := by
  rw [Array.mapM_eq_mapM_toList]
  simp only [Sem.run_map, run_mapM f g l.toList h, Result.andThen_ok]
  congr 1
  apply Array.ext'
  simp

theorem op_build {t : TypeId} {ps : Array (Nat × Operand)} (hT : TEok P T) (hs : HS w0 B0 Mo w μ U H) (hρ : ∀ x, VR w (MM Mo μ H) μ U (ρ x) (a.eval x)) (ho : o.op = .build t ps)
    (h : (opG T E ρ H nx o).run some = some r) : OpOK P a o w (Good w0 B0 Mo w μ U H nx r) := by
  simp only [opG, ho] at h
  split at h
  · rename_i fs z hud hz
    split at h
    · rename_i cs hcs
      simp only [DT.val, DT.run, Option.some.injEq] at h; subst h
      obtain ⟨d, hd1, fields, rfl, hf1, hf2⟩ := hT.und hud (by simp)
      obtain ⟨iz, zv, hz1, hz2, hz3, hz4, hz5⟩ := hT.zc t z hz
      have hpl : ∀ f o n ft, nthF (offsOf T fs 0) f = some (o, n, ft) → (fields.map fun f => (f.offset, T.sz f.type))[f]? = some (o, n) := fun f o n ft hn => by
        rw [nthF_eq, ← hf1, List.getElem?_map] at hn
        cases hfd : fields.toList[f]? with
        | none => rw [hfd] at hn; cases hn
        | some fd =>
          rw [hfd] at hn; simp at hn
          have : fields[f]? = some fd := by simpa using hfd
          simp [this, hn.1, hn.2.1]
      obtain ⟨zs', e1, e2, e3⟩ := fill_sound (a := a) hpl hρ ps.toList z cs zv.cells (by rw [hz3]; exact ofConsts_sound _) hz5 hcs
      have hmap := run_mapMA (P := P) (w := w) (fun f : Field => (do pure (f.offset, ← sizeOf f.type) : Sem (Nat × Nat))) (fun f => (f.offset, T.sz f.type)) fields (fun f hf => by
        obtain ⟨i, h1, h2⟩ := hf2 f hf
        simp [run_sizeOf h1, h2])
      refine OpOK.of_run (v := .agg zs') (w' := w) ?_ (Good.same hs ?_ _)
      · simp only [execOp, ho]
        refine run_v ?_
        have e1' : Instr.fill (fun i => (fields.map fun f => (f.offset, T.sz f.type))[i]?) zv.cells (ps.map fun x => (x.1, a.eval x.2)).toList = some zs' := by rw [Array.toList_map]; exact e1
        simp only [Instr.build, Sem.run_bind, run_zeroValue hz1 hz2, Result.andThen_ok, run_underlying hd1, hmap]
        rw [e1']
        rfl
      · unfold VR; exact ⟨zs', rfl, e2, e3⟩
    · cases h
  · cases h
end
end Go.Tat

namespace Go.Tat
set_option linter.unusedVariables false
section
variable {P : Program} {T : TE} {E : FuncId → List Entry} {w0 : World} {B0 Mo : Nat → Prop} {w : World} {M : Nat → Prop} {μ : Mu} {U : Nat → Prop} {H : Heap} {nx : Nat} {ρ : Operand → AV} {a : Act} {o : Oper} {r : R}

theorem Good.new (hs : HS w0 B0 Mo w μ U H) (hf : ¬ U nx) (o' : AObj) (x : Hd) (w' : World) (ids rd : List Nat) (v : AV) (u : Value)
    (hk : ∀ k, k < w.heap.size → w'.heap[k]? = w.heap[k]?) (hz : w'.heap.size = w.heap.size + 1)
    (hb : ∀ b, mutB o' x.v = some b → b = w.heap.size) (hr : ∀ cs, o' ≠ .var cs false)
    (ho : ∀ M' μ' U', Next w (MM Mo μ H) μ U w' M' μ' U' → Ext w (Mfz H μ ids (MM Mo μ H)) w' M' → μ' nx = x → U' nx → objOK w' M' μ' U' nx o')
    (hv : ∀ M' μ' U', μ' nx = x → U' nx → VR w' M' μ' U' v u) (hio : w'.os = w.os ∧ w'.output = w.output ∧ w'.tape = w.tape ∧ w.drawn ≤ w'.drawn := by exact ⟨rfl, rfl, rfl, Nat.le_refl _⟩) :
    Good w0 B0 Mo w μ U H nx ⟨v, (nx, o') :: freeze H ids, rd, nx + 1⟩ u w' := by
  have hH : hget ((nx, o') :: freeze H ids ++ H) nx = o' := by rw [List.cons_append, hget_cons, if_pos rfl]
  have hO : ∀ j, j ≠ nx → LeO (hget H j) (hget ((nx, o') :: freeze H ids ++ H) j) := fun j hj => by
    rw [List.cons_append, hget_cons, if_neg (Ne.symm hj)]; exact LeO_freeze H ids j
  have hun : upd μ nx x nx = x := by simp [upd]
  obtain ⟨h1, h2⟩ := hs.step nx o' ((nx, o') :: freeze H ids ++ H) w' x (fun _ => False) hH hO (fun _ hc => hc.elim) (fun k hlt _ => hk k hlt) ⟨by omega, hio.1, hio.2.1, hio.2.2.1, hio.2.2.2⟩
    (fun b hbb => ⟨.inr (by rw [hb b hbb]; exact Nat.le_refl _), by rw [hb b hbb]; omega⟩) hr (fun hu => (hf hu).elim)
    (fun M' hext hfree => ho M' _ _ ⟨hext, fun j hj => by
      have : j ≠ nx := fun e => hf (e ▸ hj)
      simp [upd, this], fun j hj => .inl hj⟩ (Ext_of_Mfz hext (fun j hj tid e l hg b hbb => by
        have hjn : j ≠ nx := fun e => by
          rcases hs.use j with h1 | h1
          · rw [h1] at hg; cases hg
          · exact hf (e ▸ h1)
        have hm : mutB (hget H j) (μ j).v = some b := by rw [hg]; exact hbb
        refine hfree j b hm (fun h => h) (fun he => ?_) (.inr ?_)
        · have := hb b he; have := (hs.out j b hm).2.1; omega
        · rw [List.cons_append, hget_cons, if_neg (Ne.symm hjn), hget_freeze_mem H H ids j hj tid e l true hg]; rfl) (fun j hj tid e l hg b hbb => hk b (hs.out j b (by rw [hg]; exact hbb)).2.1)) hun (.inr rfl))
  exact ⟨upd μ nx x, fun j => U j ∨ j = nx, hv _ _ _ hun (.inr rfl), h1, h2, fun j hj => hj.imp id fun e => by subst e; exact ⟨Nat.le_refl _, Nat.lt_succ_self _⟩, Nat.le_succ _⟩

theorem run_newVar {t : TypeId} {v : Value} : (newVar t v).run P w = .ok ⟨w.heap.size, 0, none⟩ (w.alloc (.cells v.cells t)) := by
  simp [newVar, newRow, newObj, Sem.run]
theorem alloc_size (o : Obj) : (w.alloc o).heap.size = w.heap.size + 1 := by simp

theorem op_alloc {t : TypeId} (hT : TEok P T) (hs : HS w0 B0 Mo w μ U H) (hf : ∀ i, nx ≤ i → i < r.nx → ¬ U i) (ho : o.op = .alloc t)
    (h : (opG T E ρ H nx o).run some = some r) : OpOK P a o w (Good w0 B0 Mo w μ U H nx r) := by
  simp only [opG, ho] at h
  have hrun : ∀ i z, P.info? t = some i → i.zero = some z → (execOp a.eval o).run P w = .ok (.value (.pointer (some ⟨w.heap.size, 0, none⟩))) (w.alloc (.cells z.cells t)) := fun i z h1 h2 => by
    simp only [execOp, ho]
    refine run_v ?_
    simp [Instr.alloc, run_zeroValue h1 h2, run_newVar]
  split at h
  · rename_i n e hud
    split at h
    · rename_i u hu
      simp only [DT.run, Option.some.injEq] at h; subst h
      have hf := hf nx (Nat.le_refl _) (Nat.lt_succ_self _)
      obtain ⟨i, z, h1, h2, h3⟩ := hT.arr t n e u hud hu
      refine OpOK.of_run (hrun i z h1 h2) (Good.new hs hf _ ⟨.pointer (some ⟨w.heap.size, 0, none⟩), n⟩ _ [] [] _ _ (fun k hk => heap_alloc_old w _ k hk) (alloc_size _) (fun b hb => by simpa [mutB, addrOf] using hb.symm)
        (fun cs hc => by cases hc) (fun M' μ' U' hx hfr he hu' => ?_) (fun M' μ' U' he hu' => ?_))
      · exact ⟨by rw [he]; simp, w.heap.size, z.cells, t, by rw [he], heap_alloc_new w _, h3 _ _⟩
      · unfold VR; exact ⟨hu', _, by rw [he], rfl⟩
    · cases h
  · split at h
    · rename_i cs hcs
      simp only [DT.run, Option.some.injEq] at h; subst h
      have hf := hf nx (Nat.le_refl _) (Nat.lt_succ_self _)
      obtain ⟨i, z, h1, h2, h3, h4, h5⟩ := hT.zc t cs hcs
      refine OpOK.of_run (hrun i z h1 h2) (Good.new hs hf _ ⟨.pointer (some ⟨w.heap.size, 0, none⟩), 0⟩ _ [] [] _ _ (fun k hk => heap_alloc_old w _ k hk) (alloc_size _) (fun b hb => by simpa [mutB, addrOf] using hb.symm)
        (fun cs hc => by cases hc) (fun M' μ' U' hx hfr he hu' => ?_) (fun M' μ' U' he hu' => ?_))
      · exact ⟨w.heap.size, z.cells, t, by rw [he], heap_alloc_new w _, by rw [h3]; exact ofConsts_sound _, h5⟩
      · unfold VR; exact ⟨hu', _, by rw [he], rfl⟩
    · cases h

theorem op_box {t : TypeId} {x : Operand} (hT : TEok P T) (hs : HS w0 B0 Mo w μ U H) (hρ : ∀ x, VR w (MM Mo μ H) μ U (ρ x) (a.eval x)) (hf : ∀ i, nx ≤ i → i < r.nx → ¬ U i) (ho : o.op = .box t x)
    (h : (opG T E ρ H nx o).run some = some r) : OpOK P a o w (Good w0 B0 Mo w μ U H nx r) := by
  simp only [opG, ho] at h
  split at h
  · cases h
  · split at h
    · rename_i cs hcs
      cases hb : Nat.beq cs.length (T.sz t) with
      | false => rw [hb] at h; cases h
      | true =>
        rw [hb] at h
        simp only [cond_true, DT.run, Option.some.injEq] at h; subst h
        have hf := hf nx (Nat.le_refl _) (Nat.lt_succ_self _)
        obtain ⟨h1, h2⟩ := cellsOf_sound (hρ x) hcs
        refine OpOK.of_run (v := .pointer (some ⟨w.heap.size, 0, none⟩)) (w' := w.alloc (.cells (a.eval x).cells t)) (by simp only [execOp, ho]; exact run_v (by simp [Instr.box, run_newVar]))
          (Good.new hs hf _ ⟨.pointer (some ⟨w.heap.size, 0, none⟩), 0⟩ _ [] [] _ _ (fun k hk => heap_alloc_old w _ k hk) (alloc_size _) (fun b hb => by simpa [mutB, addrOf] using hb.symm)
          (fun cs hc => by cases hc) (fun M' μ' U' hx hfr he hu' => ?_) (fun M' μ' U' he hu' => ?_))
        · exact ⟨w.heap.size, _, t, by rw [he], heap_alloc_new w _, VRs_mono hx _ _ h1, h2⟩
        · unfold VR; exact ⟨hu', _, by rw [he], rfl⟩
    · cases h

theorem op_makeMap {t : TypeId} {x : Option Operand} (hT : TEok P T) (hs : HS w0 B0 Mo w μ U H) (hρ : ∀ x, VR w (MM Mo μ H) μ U (ρ x) (a.eval x)) (hf : ∀ i, nx ≤ i → i < r.nx → ¬ U i) (ho : o.op = .makeMap t x)
    (h : (opG T E ρ H nx o).run some = some r) : OpOK P a o w (Good w0 B0 Mo w μ U H nx r) := by
  have fin : ∀ k v : Ty, (execOp a.eval o).run P w = .ok (.value (.map (some w.heap.size))) (w.alloc (.map #[] 0)) → r = ⟨.map nx, [(nx, .map k v [])], [], nx + 1⟩ → OpOK P a o w (Good w0 B0 Mo w μ U H nx r) := fun k v hr he => by
    subst he
    have hf := hf nx (Nat.le_refl _) (Nat.lt_succ_self _)
    refine OpOK.of_run hr (Good.new hs hf _ ⟨.map (some w.heap.size), 0⟩ _ [] [] _ _ (fun k hk => heap_alloc_old w _ k hk) (alloc_size _) (fun b hb => by simpa [mutB, addrOf] using hb.symm)
      (fun cs hc => by cases hc) (fun M' μ' U' hx hfr he hu' => ?_) (fun M' μ' U' he hu' => ?_))
    · exact ⟨w.heap.size, #[], 0, by rw [he], heap_alloc_new w _, rfl⟩
    · unfold VR; exact ⟨hu', by rw [he], rfl⟩
  simp only [opG, ho] at h
  split at h
  · rename_i kt vt hud
    split at h
    · rename_i k v hk hv
      simp only [DT.run, Option.some.injEq] at h
      exact fin k v (by simp only [execOp, ho]; exact run_v (by simp [Instr.makeMap, newObj, Sem.run])) h.symm
    · cases h
  · rename_i y kt vt hud
    split at h
    · rename_i n k v hn hk hv
      simp only [DT.run, Option.some.injEq] at h
      obtain ⟨d, hd1, hd2⟩ := hT.und hud (by simp)
      rw [show d = .map kt vt from hd2] at hd1
      obtain ⟨ki, hki⟩ := asIntOf_of (hρ y) hn
      exact fin k v (by simp only [execOp, ho]; exact run_v (by simp [Instr.makeMap, newObj, Sem.run, run_underlying hd1, hki, asInt, asIntOf])) h.symm
    · cases h
  · cases h

theorem op_range {t : TypeId} {x : Operand} (hT : TEok P T) (hs : HS w0 B0 Mo w μ U H) (hρ : ∀ x, VR w (MM Mo μ H) μ U (ρ x) (a.eval x)) (hf : ∀ i, nx ≤ i → i < r.nx → ¬ U i) (ho : o.op = .range t x)
    (h : (opG T E ρ H nx o).run some = some r) : OpOK P a o w (Good w0 B0 Mo w μ U H nx r) := by
  simp only [opG, ho] at h
  split at h
  · rename_i s hx hud
    simp only [DT.run, Option.some.injEq] at h; subst h
    have hf := hf nx (Nat.le_refl _) (Nat.lt_succ_self _)
    obtain ⟨d, hd1, hd2⟩ := hT.und hud (by simp)
    rw [show d = .string from hd2] at hd1
    have h1 := hρ x
    rw [hx, VR_str] at h1
    refine OpOK.of_run (v := .pointer (some ⟨w.heap.size, 0, none⟩)) (w' := w.alloc (.stringIter s 0))
      (by simp only [execOp, ho]; exact run_v (by rw [h1]; simp [Instr.range, newObj, Sem.run, run_underlying hd1]))
      (Good.new hs hf _ ⟨.pointer (some ⟨w.heap.size, 0, none⟩), 0⟩ _ [] [] _ _ (fun k hk => heap_alloc_old w _ k hk) (alloc_size _) (fun b hb => by simpa [mutB, addrOf] using hb.symm)
      (fun cs hc => by cases hc) (fun M' μ' U' hx hfr he hu' => ?_) (fun M' μ' U' he hu' => ?_))
    · exact ⟨w.heap.size, by rw [he], heap_alloc_new w _⟩
    · unfold VR; exact ⟨hu', by rw [he], rfl⟩
  · cases h

theorem run_askRoom {n : Nat} : (askRoom n).run P w = .ok () w := by
  unfold askRoom
  split <;> simp [mark, Sem.run]
theorem range_map_mod (z : Array Value) (hz : 0 < z.size) (n : Nat) : ((Array.range (n * z.size)).map (z[· % z.size]!)).toList = (List.replicate n z.toList).flatten := by
  induction n with
  | zero => simp
  | succ n ih =>
    rw [Array.toList_map] at *
    have hr : (Array.range ((n + 1) * z.size)).toList = (Array.range (n * z.size)).toList ++ (List.range z.size).map (n * z.size + ·) := by
      rw [Array.toList_range, Array.toList_range, Nat.add_mul, Nat.one_mul, List.range_add]
    rw [hr, List.map_append, ih, List.map_map, List.replicate_succ', List.flatten_append]
    congr 1
    simp only [List.flatten_cons, List.flatten_nil, List.append_nil]
    apply List.ext_getElem
    · simp
    · intro i h1 h2
      simp at h1 h2 ⊢
      rw [Nat.mod_eq_of_lt h1]; simp [h1]

theorem ms_aux (n : Int) (b : Nat) (h0 : 0 ≤ n) (h1 : n ≤ 140737488355328) (h2 : n * b ≤ 140737488355328) :
    ∃ m : Nat, n = m ∧ m ≤ 140737488355328 ∧ ¬ ((b : Int) * m > 2 ^ 48) ∧ IntKind.i64.wrap n = n := by
  refine ⟨n.toNat, by omega, by omega, ?_, by rw [IntKind.wrap_i64]; omega⟩
  rw [Int.mul_comm, Int.toNat_of_nonneg h0]; omega
theorem run_makeSlice {t e : TypeId} {i : TypeInfo} {z : Value} {u : Ty} {m : Nat} (hd1 : P.underlying t = some (.slice e)) (hz1 : P.info? e = some i) (hz2 : i.zero = some z) (hz3 : i.size = u.sz) (hpos : 0 < u.sz) (hzs : z.cells.size = u.sz)
    (hb : ¬ ((i.bytes : Int) * m > 2 ^ 48)) (hw : IntKind.i64.wrap m = m) :
    (Instr.makeSlice t (.int .i64 m) (.int .i64 m)).run P w = .ok (.slice (some ⟨w.heap.size, 0, none⟩) m m) (w.alloc (.cells (List.replicate m z.cells.toList).flatten.toArray e)) := by
  have hm0 : ¬ ((m : Int) < 0) := by omega
  have hrow : (Array.map (fun x => z.cells[x % z.cells.size]!) (Array.range (m * u.sz))) = (List.replicate m z.cells.toList).flatten.toArray := by
    apply Array.ext'
    rw [← hzs, range_map_mod z.cells (by rw [hzs]; exact hpos) m]
  simp only [Instr.makeSlice, Sem.run_bind, run_underlying hd1, Result.andThen_ok, asInt, asIntOf, Sem.run_pure, run_typeInfo hz1, hw]
  have htl : ((decide ((m : Int) < 0) || decide ((i.bytes : Int) * (m : Int) > 2 ^ 48)) || decide ((m : Int) < 0) || decide ((m : Int) > (m : Int))) = false := by
    simp only [hm0, hb, decide_false, Bool.or_false, Bool.false_or]; simp
  rw [if_neg (by rw [htl]; simp)]
  simp only [Sem.run_bind, run_askRoom, Result.andThen_ok, run_sizeOf hz1, hz3, Int.toNat_natCast]
  by_cases hm : m * u.sz = 0
  · have : m = 0 := by
      rcases Nat.eq_zero_or_pos m with h | h
      · exact h
      · have := Nat.mul_pos h hpos; omega
    subst this
    have hr0 : Array.range 0 = #[] := by apply Array.ext'; simp
    simp [newRow, newObj, Sem.run, hr0]
  · rw [if_neg hm]
    simp only [Sem.run_bind, run_zeroValue hz1 hz2, Result.andThen_ok, Sem.run_pure]
    rw [hrow]
    simp [newRow, newObj, Sem.run]
theorem ownsRow_new {cs : List Value} {n sz : Nat} {e : TypeId} (hl : cs.length = n * sz) (hn : n ≤ maxLen) : (w.alloc (.cells cs.toArray e)).ownsRow 0 e sz (.slice (some ⟨w.heap.size, 0, none⟩) n n) n cs :=
  ⟨hl, .inr ⟨w.heap.size, n, cs.toArray, rfl, Nat.zero_le _, heap_alloc_new w _, Nat.le_refl _, hn, by simpa using hl, by rw [← hl]; simp⟩⟩

theorem op_makeSlice {t : TypeId} {x y : Operand} (hT : TEok P T) (hs : HS w0 B0 Mo w μ U H) (hρ : ∀ x, VR w (MM Mo μ H) μ U (ρ x) (a.eval x)) (hf : ∀ i, nx ≤ i → i < r.nx → ¬ U i) (ho : o.op = .makeSlice t x y)
    (h : (opG T E ρ H nx o).run some = some r) : OpOK P a o w (Good w0 B0 Mo w μ U H nx r) := by
  simp only [opG, ho] at h
  split at h
  · rename_i e n c hud hx hy
    split at h
    · rename_i u hu
      obtain ⟨hg, h⟩ := guard_some h
      simp only [DT.run, Option.some.injEq] at h; subst h
      have hf1 := hf nx (Nat.le_refl _) (Nat.lt_succ_self _)
      simp only [Bool.and_eq_true, decide_eq_true_eq] at hg
      obtain ⟨rfl, h0, hmx, hby⟩ := hg
      have hok := hT.ty e u hu
      obtain ⟨i, z, hz1, hz2, hz3, hz4, hz5⟩ := hok.zero
      have hcr : CR w (MM Mo μ H) u u.zero z.cells.toList := VR_d_cells (μ := μ) (U := U) (hz5 _ _ _ _)
      have hzs : z.cells.size = u.sz := by simpa using CR_len w _ _ _ _ hcr
      obtain ⟨d, hd1, hd2⟩ := hT.und hud (by simp)
      rw [show d = .slice e from hd2] at hd1
      have h1 := hρ x
      have h2 := hρ y
      rw [hx, VR_int] at h1
      rw [hy, VR_int] at h2
      obtain ⟨m, rfl, hm1, hm2, hm3⟩ := ms_aux n (T.bytes e) h0 hmx hby
      have hlen : (List.replicate m z.cells.toList).flatten.length = m * u.sz := by
        rw [flatten_len u.sz _ (fun c hc => by rw [(List.mem_replicate.1 hc).2]; simpa using hzs)]; simp
      refine OpOK.of_run (v := .slice (some ⟨w.heap.size, 0, none⟩) m m) (w' := w.alloc (.cells (List.replicate m z.cells.toList).flatten.toArray e)) ?_
        (Good.new hs hf1 (.row e u (List.replicate m u.zero) true) ⟨.slice (some ⟨w.heap.size, 0, none⟩) m m, m⟩ _ [] [] _ _ (fun k hk => heap_alloc_old w _ k hk) (alloc_size _) (fun b hb => by simpa [mutB, Value.ownBlock] using hb.symm)
        (fun cs hc => by cases hc) (fun M' μ' U' hx hfr he hu' => ?_) (fun M' μ' U' he hu' => ?_))
      · simp only [execOp, ho]
        refine run_v ?_
        rw [h1, h2]
        exact run_makeSlice (u := u) hd1 hz1 hz2 hz3 hok.pos hzs (by rw [hz4]; exact hm2) hm3
      · refine ⟨by rw [he]; simp, (List.replicate m z.cells.toList).flatten, ?_, CRL.replicate (VR_d_cells (μ := μ') (U := U') (hz5 _ _ _ _)) _⟩
        rw [he, List.length_replicate]
        exact ownsRow_new hlen (by simp only [maxLen]; omega)
      · unfold VR; exact ⟨hu', by rw [he], rfl⟩
    · cases h
  · cases h
end
end Go.Tat

namespace Go.Tat
set_option linter.unusedVariables false
section
variable {P : Program} {T : TE} {E : FuncId → List Entry} {w0 : World} {B0 Mo : Nat → Prop} {w : World} {M : Nat → Prop} {μ : Mu} {U : Nat → Prop} {H : Heap} {nx : Nat} {ρ : Operand → AV} {a : Act} {o : Oper} {r : R}

/-- The elements of a literal. -/
theorem lit_sound (ho : ∀ i, objOK w M μ U i (hget H i)) {M' : Nat → Prop} (hM : Ext w M w M') (hρ : ∀ x, VR w M μ U (ρ x) (a.eval x)) {e : Ty} :
    ∀ (ps : List (Nat × Operand)) (j : Nat) (l : List e.den) (ids : List Nat) (zs : Array Value), litD H e j (ps.map fun p => (p.1, ρ p.2)) = some (l, ids) → zs.size = (j + ps.length) * e.sz →
      l.length = ps.length ∧ ∃ xs zs', Instr.fill (fun i => some (i * e.sz, e.sz)) zs (ps.map fun p => (p.1, a.eval p.2)) = some zs' ∧ zs'.toList = zs.toList.take (j * e.sz) ++ xs ∧ (Frees H μ ids M' → CRL (CR w M' e) l xs)
  | [], j, l, ids, zs, h, hz => by
    simp only [List.map_nil, litD, Option.some.injEq, Prod.mk.injEq] at h
    obtain ⟨rfl, rfl⟩ := h
    refine ⟨rfl, [], zs, rfl, ?_, fun _ => CRL.nil⟩
    simp at hz
    rw [List.append_nil, List.take_of_length_le (by simp [hz])]
  | (k, x) :: ps, j, l, ids, zs, h, hz => by
    simp only [List.map_cons, litD] at h
    cases hb : Nat.beq j k with
    | false => rw [hb] at h; cases h
    | true =>
      have hjk : j = k := Nat.eq_of_beq_eq_true hb
      subst hjk
      rw [hb] at h; simp only [cond_true] at h
      split at h
      · rename_i y i1 ys i2 h1 h2
        simp only [Option.some.injEq, Prod.mk.injEq] at h
        obtain ⟨rfl, rfl⟩ := h
        -- sizes
        have hv0 := VR_d_cells (toD_sound (M' := fun _ => False) ho (fun ad v hc _ => ⟨hc, fun hf => hf⟩) (hρ x) h1 (fun _ _ _ _ _ _ _ _ hf => hf))
        have hvs : (a.eval x).cells.size = e.sz := by simpa using CR_len w _ _ _ _ hv0
        have hz' : zs.size = (j + 1 + ps.length) * e.sz := by rw [hz]; congr 1; simp; omega
        have hle : j * e.sz + e.sz ≤ zs.size := by
          rw [hz']; have : (j + 1) * e.sz ≤ (j + 1 + ps.length) * e.sz := Nat.mul_le_mul_right _ (by omega)
          rw [Nat.add_mul, Nat.one_mul] at this; exact this
        have hfold := fold_set (a.eval x).cells.toList (j * e.sz) 0 zs (by simp [hvs]; exact hle)
        have hcells : (Array.foldl (fun cs (x : Value × Nat) => cs.setIfInBounds (j * e.sz + x.2) x.1) zs (a.eval x).cells.zipIdx).toList = zs.toList.take (j * e.sz) ++ (a.eval x).cells.toList ++ zs.toList.drop (j * e.sz + e.sz) := by
          rw [← Array.foldl_toList, Array.toList_zipIdx]; simpa [hvs] using hfold
        generalize hzz : Array.foldl (fun cs (x : Value × Nat) => cs.setIfInBounds (j * e.sz + x.2) x.1) zs (a.eval x).cells.zipIdx = zz at hcells
        have hzzs : zz.size = (j + 1 + ps.length) * e.sz := by
          have := congrArg List.length hcells
          simp [hvs] at this
          omega
        obtain ⟨hl, xs, zs', e1, e2, e3⟩ := lit_sound ho hM hρ ps (j + 1) ys i2 zz h2 hzzs
        refine ⟨by simp [hl], (a.eval x).cells.toList ++ xs, zs', ?_, ?_, fun hfr => CRL.cons ?_ (e3 fun i hi => hfr i (by simp [hi]))⟩
        · simp only [List.map_cons, Instr.fill]
          rw [if_neg (by simp [hvs]; omega), hzz]
          exact e1
        · rw [e2, hcells]
          have hj : (zs.toList.take (j * e.sz)).length = j * e.sz := by simp; omega
          have h3 : ((j + 1) * e.sz) = (zs.toList.take (j * e.sz) ++ (a.eval x).cells.toList).length := by
            rw [List.length_append, hj, Array.length_toList, hvs, Nat.add_mul, Nat.one_mul]
          rw [h3, List.take_left, List.append_assoc]
        · exact VR_d_cells (toD_sound (M' := M') ho hM (hρ x) h1 fun i hi => hfr i (by simp [hi]))
      · cases h

theorem op_buildSlice {t : TypeId} {n : Nat} {ps : Array (Nat × Operand)} (hT : TEok P T) (hs : HS w0 B0 Mo w μ U H) (hρ : ∀ x, VR w (MM Mo μ H) μ U (ρ x) (a.eval x)) (hf : ∀ i, nx ≤ i → i < r.nx → ¬ U i) (ho : o.op = .buildSlice t n ps)
    (h : (opG T E ρ H nx o).run some = some r) : OpOK P a o w (Good w0 B0 Mo w μ U H nx r) := by
  simp only [opG, ho] at h
  split at h
  · rename_i e hud
    cases hb : (Nat.beq n ps.toList.length && Nat.ble (n * T.sz e) 4096) with
    | false => rw [hb] at h; cases h
    | true =>
      rw [hb] at h; simp only [cond_true] at h
      simp only [Bool.and_eq_true] at hb
      have hn : n = ps.toList.length := Nat.eq_of_beq_eq_true hb.1
      have hsm : n * T.sz e ≤ 4096 := Nat.ble_eq.mp hb.2
      split at h
      · rename_i u hu
        split at h
        · rename_i l ids hl
          simp only [DT.run, Option.some.injEq] at h; subst h
          have hf := hf nx (Nat.le_refl _) (Nat.lt_succ_self _)
          have hok := hT.ty e u hu
          obtain ⟨i, z, hz1, hz2, hz3, hz4, hz5⟩ := hok.zero
          obtain ⟨d, hd1, hd2⟩ := hT.und hud (by simp)
          rw [show d = .slice e from hd2] at hd1
          rw [hok.sz] at hsm
          have hnl : n ≤ maxLen := by
            have := Nat.mul_le_mul_left n (show 1 ≤ u.sz from hok.pos)
            simp only [maxLen]; omega
          obtain ⟨zero, hzero, hzero'⟩ : ∃ zero : Array Value, (n * u.sz = 0 → zero = #[]) ∧ (¬ n * u.sz = 0 → zero = z.cells) := by
            by_cases hm : n * u.sz = 0
            · exact ⟨#[], fun _ => rfl, fun h => (h hm).elim⟩
            · exact ⟨z.cells, fun h => (hm h).elim, fun _ => rfl⟩
          obtain ⟨hll, xs, zs', e1, e2, e3⟩ := lit_sound (M' := fun _ => False) hs.obj (fun ad v hc _ => ⟨hc, fun hf => hf⟩) hρ ps.toList 0 l ids ((Array.range (n * u.sz)).map (zero[· % zero.size]!)) hl (by simp [← hn])
          have e2' : zs'.toList = xs := by simpa using e2
          have hxl : xs.length = n * u.sz := by
            have := (e3 (fun _ _ _ _ _ _ _ _ hf => hf)).len
            rw [this, hll, hn]
          refine OpOK.of_run (v := .slice (some ⟨w.heap.size, 0, none⟩) n n) (w' := w.alloc (.cells xs.toArray e)) ?_
            (Good.new hs hf (.row e u l true) ⟨.slice (some ⟨w.heap.size, 0, none⟩) n n, n⟩ _ ids ids _ _ (fun k hk => heap_alloc_old w _ k hk) (alloc_size _) (fun b hb => by simpa [mutB, Value.ownBlock] using hb.symm)
            (fun cs hc => by cases hc) (fun M' μ' U' hx hfr he hu' => ?_) (fun M' μ' U' he hu' => ?_))
          · simp only [execOp, ho]
            refine run_v ?_
            have e1' : Instr.fill (fun i => some (i * u.sz, u.sz)) ((Array.range (n * u.sz)).map (zero[· % zero.size]!)) (ps.map fun x => (x.1, a.eval x.2)).toList = some zs' := by rw [Array.toList_map]; exact e1
            simp only [Instr.buildSlice, Sem.run_bind, run_underlying hd1, Result.andThen_ok, run_sizeOf hz1, hz3]
            rw [if_neg (by omega)]
            have hxx : zs' = xs.toArray := by rw [← e2']
            by_cases hm : n * u.sz = 0
            · rw [if_pos hm]
              rw [hzero hm] at e1'
              simp only [Sem.run_bind, Sem.run_pure, Result.andThen_ok, e1']
              simp [newRow, newObj, Sem.run, hxx]
            · rw [if_neg hm]
              rw [hzero' hm] at e1'
              simp only [Sem.run_bind, run_zeroValue hz1 hz2, Sem.run_pure, Result.andThen_ok, e1']
              simp [newRow, newObj, Sem.run, hxx]
          · refine ⟨by rw [he]; simp [hll, hn], xs, ?_, ?_⟩
            · rw [he, hll, ← hn]; exact ownsRow_new hxl hnl
            · obtain ⟨_, xs2, zs2, f1, f2, f3⟩ := lit_sound (M' := Mfz H μ ids (MM Mo μ H)) hs.obj (Ext_Mfz _ _ _ _ _) hρ ps.toList 0 l ids ((Array.range (n * u.sz)).map (zero[· % zero.size]!)) hl (by simp [← hn])
              have : xs2 = xs := by
                rw [e1] at f1; cases f1
                have f2' : zs'.toList = xs2 := by simpa using f2
                rw [← f2', e2']
              subst this
              exact (f3 (Frees_Mfz _ _ _ _)).mono fun y c _ hc => CR_mono hfr _ _ _ hc
          · unfold VR; exact ⟨hu', by rw [he], rfl⟩
        · cases h
      · cases h
  · cases h
end
end Go.Tat

namespace Go.Tat
set_option linter.unusedVariables false
section
variable {P : Program} {T : TE} {E : FuncId → List Entry} {w0 : World} {B0 Mo : Nat → Prop} {w : World} {M : Nat → Prop} {μ : Mu} {U : Nat → Prop} {H : Heap} {nx : Nat} {ρ : Operand → AV} {a : Act} {o : Oper} {r : R}

/-! ### A part of a slice -/
theorem bnd_spec {lo : Option Operand} {x : Option Int} (hρ : ∀ x, VR w (MM Mo μ H) μ U (ρ x) (a.eval x)) (h : bnd? (lo.map ρ) = some x) :
    (lo = none ∧ x = none) ∨ (∃ y k i, lo = some y ∧ x = some i ∧ a.eval y = .int k i) := by
  cases lo with
  | none => simp [bnd?] at h; exact .inl ⟨rfl, h.symm⟩
  | some y =>
    simp only [Option.map_some, bnd?] at h
    split at h
    · rename_i i hi
      cases h
      obtain ⟨k, hk⟩ := asIntOf_of (hρ y) hi
      exact .inr ⟨y, k, i, rfl, rfl, hk⟩
    · cases h
theorem run_sliceBound {k : IntKind} {i : Int} {y : Nat} {c : BoundsCode} (h0 : 0 ≤ i) (h1 : i ≤ y) : (Instr.sliceBound (.int k i) y c).run P w = .ok i.toNat w := by
  simp [Instr.sliceBound, asIntOf, h0, h1]
theorem run_sliceBounds {lo hi : Option Operand} {l h : Option Int} {isS : Bool} {len cap : Nat} (hl : (lo = none ∧ l = none) ∨ (∃ y k i, lo = some y ∧ l = some i ∧ a.eval y = .int k i)) (hh : (hi = none ∧ h = none) ∨ (∃ y k i, hi = some y ∧ h = some i ∧ a.eval y = .int k i))
    (h0 : 0 ≤ l.getD 0) (h1 : l.getD 0 ≤ h.getD len) (h2 : h.getD len ≤ len) (hc : len ≤ cap) :
    (Instr.sliceBounds isS len cap (lo.map a.eval) (hi.map a.eval) none).run P w = .ok ((l.getD 0).toNat, (h.getD len).toNat, cap) w := by
  rcases hl with ⟨rfl, rfl⟩ | ⟨y, k, i, rfl, rfl, hy⟩ <;> rcases hh with ⟨rfl, rfl⟩ | ⟨y', k', i', rfl, rfl, hy'⟩
  · simp [Instr.sliceBounds]
  · simp only [Option.getD_none, Option.getD_some] at *
    simp only [Instr.sliceBounds, Option.map_none, Option.map_some, Sem.run_bind, Sem.run_pure, Result.andThen_ok, hy', run_sliceBound (P := P) (w := w) (y := cap) (show 0 ≤ i' by omega) (by omega)]
    rfl
  · simp only [Option.getD_none, Option.getD_some] at *
    simp only [Instr.sliceBounds, Option.map_none, Option.map_some, Sem.run_bind, Sem.run_pure, Result.andThen_ok, hy, run_sliceBound (P := P) (w := w) (y := len) h0 h1]
    simp
  · simp only [Option.getD_some] at *
    simp only [Instr.sliceBounds, Option.map_none, Option.map_some, Sem.run_bind, Sem.run_pure, Result.andThen_ok, hy, hy', run_sliceBound (P := P) (w := w) (y := cap) (show 0 ≤ i' by omega) (by omega), run_sliceBound (P := P) (w := w) (y := i'.toNat) h0 (by omega)]

theorem run_slice_slice {t e : TypeId} {ao : Option Addr} {len cap sz : Nat} {lo hi : Option Operand} {l h : Option Int} (hu : P.underlying t = some (.slice e)) (hsz : (sizeOf e).run P w = .ok sz w)
    (hl : (lo = none ∧ l = none) ∨ (∃ y k i, lo = some y ∧ l = some i ∧ a.eval y = .int k i)) (hh : (hi = none ∧ h = none) ∨ (∃ y k i, hi = some y ∧ h = some i ∧ a.eval y = .int k i))
    (h0 : 0 ≤ l.getD 0) (h1 : l.getD 0 ≤ h.getD len) (h2 : h.getD len ≤ len) (hc : len ≤ cap) :
    (Instr.sliceAt t (.slice ao len cap) (lo.map a.eval) (hi.map a.eval) none).run P w =
      .ok (.slice (if cap = (l.getD 0).toNat then ao else ao.map (·.add ((l.getD 0).toNat * sz))) ((h.getD len).toNat - (l.getD 0).toNat) (cap - (l.getD 0).toNat)) w := by
  have hb := run_sliceBounds (P := P) (w := w) (a := a) (isS := true) hl hh h0 h1 h2 hc
  simp only [Instr.sliceAt, Sem.run_bind, run_underlying hu, Result.andThen_ok, Instr.slice]
  rw [hb]
  simp only [Result.andThen_ok, Sem.run_bind, hsz, Sem.run_pure]

theorem CR_cut {e : Ty} {l : List e.den} {ao : Option Addr} {c i j : Nat} (h : CR w M (.slice e) l [.slice ao l.length c]) (hij : i ≤ j) (hj : j ≤ l.length) :
    CR w M (.slice e) ((l.take j).drop i) [.slice (if c = i then ao else ao.map (·.add (i * e.sz))) (j - i) (c - i)] := by
  obtain ⟨ao', c', h1, h2, h3⟩ := h
  simp only [List.cons.injEq, and_true, Value.slice.injEq, true_and] at h1
  obtain ⟨rfl, rfl⟩ := h1
  have hlen : ((l.take j).drop i).length = j - i := by simp; omega
  refine ⟨_, c - i, by rw [hlen], by rw [hlen]; omega, ?_⟩
  cases ao with
  | none => simp only at h3; simp [h3]
  | some ad =>
    obtain ⟨hs, xs, h4, h5⟩ := h3
    have key : CRL (CR w M e) ((l.take j).drop i) ((xs.take (j * e.sz)).drop (i * e.sz)) :=
      (h4.take (n := e.sz) (fun x c hx => CR_len w M e x c hx) j).drop (fun x c hx => CR_len w M e x c hx) i
    have hcells : ∀ (k : Nat) u, ((xs.take (j * e.sz)).drop (i * e.sz))[k]? = some u → xs[i * e.sz + k]? = some u := fun k u hk => by
      rw [List.getElem?_drop, List.getElem?_take] at hk
      split at hk
      · exact hk
      · cases hk
    by_cases hci : c = i
    · simp only [hci, if_true]
      have he : ((l.take j).drop i) = [] := List.eq_nil_of_length_eq_zero (by rw [hlen]; omega)
      rw [he]
      exact ⟨hs, [], CRL.nil, fun k u hk => by simp at hk⟩
    · simp only [hci, if_false, Option.map_some]
      refine ⟨Addr.add_spot _ _ hs, _, key, fun k u hk => ?_⟩
      rw [Addr.add_add, Addr.add_block]
      exact h5 _ u (hcells k u hk)

/-- The state with one row that is changed no more. -/
theorem Good.freeze1 (hs : HS w0 B0 Mo w μ U H) {id : Nat} {tid : TypeId} {e : Ty} {l : List e.den} {live : Bool} (hg : hget H id = .row tid e l live) (hu : U id) {v : AV} {u : Value} (rd : List Nat)
    (hv : ∀ M' : Nat → Prop, CR w M' (.slice e) l [(μ id).v] → VR w M' μ U v u) : Good w0 B0 Mo w μ U H nx ⟨v, Tat.freeze H [id], rd, nx⟩ u w := by
  have hfr : Tat.freeze H [id] = [(id, .row tid e l false)] := by simp [Tat.freeze, hg]
  rw [hfr]
  have hH : hget ([(id, .row tid e l false)] ++ H) id = .row tid e l false := by simp [hget_cons]
  have hO : ∀ j, j ≠ id → LeO (hget H j) (hget ([(id, AObj.row tid e l false)] ++ H) j) := fun j hj => by
    simp only [List.cons_append, List.nil_append, hget_cons, if_neg (Ne.symm hj)]; exact LeO.refl _
  have hupd : upd μ id (μ id) = μ := by funext j; simp only [upd]; split <;> simp_all
  have hUU : (fun j => U j ∨ j = id) = U := by funext j; apply propext; exact ⟨fun h => h.elim (fun h => h) fun h => h ▸ hu, .inl⟩
  have h1 := hs.step id (.row tid e l false) ([(id, .row tid e l false)] ++ H) w (μ id) (fun _ => False) hH hO (fun _ hc => hc.elim) (fun _ _ _ => rfl) (Grew.refl _)
    (fun b hb => by cases hb) (fun cs hc => by cases hc) (fun _ => rfl) (fun M' hext hfree => by
      rw [hupd]
      have h2 := hs.obj id
      rw [hg] at h2
      cases live with
      | false => exact ⟨h2.1, CR_mono hext _ _ _ h2.2.1, h2.2.2⟩
      | true =>
        obtain ⟨hn, xs, h3, h4⟩ := h2
        refine ⟨hn, row_data h3 (h4.mono fun x c _ hc => CR_mono hext _ _ _ hc) fun b hb => hfree id b (by rw [hg]; exact hb) (fun h => h) (by simp [mutB]) (.inl rfl), ownsRow_off h3⟩)
  rw [hupd, hUU] at h1
  obtain ⟨h1, h2⟩ := h1
  have h3 := h1.obj id
  rw [hH] at h3
  exact ⟨μ, U, hv _ h3.2.1, h1, h2, fun i h => .inl h, Nat.le_refl _⟩

theorem op_slice {t : TypeId} {x : Operand} {lo hi mx : Option Operand} (hT : TEok P T) (hs : HS w0 B0 Mo w μ U H) (hρ : ∀ x, VR w (MM Mo μ H) μ U (ρ x) (a.eval x)) (ho : o.op = .slice t x lo hi mx)
    (h : (opG T E ρ H nx o).run some = some r) : OpOK P a o w (Good w0 B0 Mo w μ U H nx r) := by
  have h1 := hρ x
  simp only [opG, ho] at h
  have fin : ∀ v, (Instr.sliceAt t (a.eval x) (lo.map a.eval) (hi.map a.eval) none).run P w = .ok v w → mx = none → Good w0 B0 Mo w μ U H nx r v w → OpOK P a o w (Good w0 B0 Mo w μ U H nx r) := fun v hv hm hg =>
    OpOK.of_run (v := v) (w' := w) (by subst hm; simp only [execOp, ho]; exact run_v hv) hg
  split at h
  · rename_i l hh hl hh'
    have el := bnd_spec hρ hl
    have eh := bnd_spec hρ hh'
    split at h
    · rename_i s hx hud
      obtain ⟨hg, h⟩ := guard_some h
      simp only [DT.val, DT.run, Option.some.injEq] at h; subst h
      simp only [Bool.and_eq_true, decide_eq_true_eq] at hg
      rw [hx, VR_str] at h1
      obtain ⟨d, hd1, hd2⟩ := hT.und hud (by simp)
      rw [show d = .string from hd2] at hd1
      refine fin (.string (ByteArray.extract s (l.getD 0).toNat (hh.getD (ByteArray.size s)).toNat)) ?_ rfl (Good.same hs (VR_str.2 rfl) _)
      rw [h1]
      simp only [Instr.sliceAt, Sem.run_bind, run_underlying hd1, Result.andThen_ok, Instr.slice]
      rw [if_neg (by simp)]
      simp only [Sem.run_bind, Sem.run_pure, Result.andThen_ok]
      rw [run_sliceBounds (P := P) (w := w) (a := a) (isS := false) el eh hg.1 hg.2.1 hg.2.2 (Nat.le_refl _)]
      rfl
    · rename_i e z e' hx hud
      cases hty : tyIs T e' e with
      | false => rw [hty] at h; cases h
      | true =>
        rw [hty] at h; simp only [cond_true] at h
        obtain ⟨hg, h⟩ := guard_some h
        simp only [DT.val, DT.run, Option.some.injEq] at h; subst h
        simp only [Bool.and_eq_true, decide_eq_true_eq] at hg
        rw [hx] at h1
        have h2 := (VR_d0 rfl).1 h1
        obtain ⟨ao, c, h3, h4, _⟩ := id h2
        simp only [List.cons.injEq, and_true] at h3
        rw [h3] at h2 fin
        obtain ⟨d, hd1, hd2⟩ := hT.und hud (by simp)
        rw [show d = .slice e' from hd2] at hd1
        have h5 := CR_cut (i := (l.getD 0).toNat) (j := (hh.getD (List.length z)).toNat) h2 (by omega) (by omega)
        exact fin _ (run_slice_slice (sz := e.sz) hd1 (tyIs_ok hT hty).size el eh hg.1 hg.2.1 hg.2.2 h4) rfl (Good.same hs ((VR_d0 rfl).2 h5) _)
    · rename_i id e' hx hud
      split at h
      · rename_i tid e z live hg0
        cases hty : tyIs T e' e with
        | false => rw [hty] at h; cases h
        | true =>
          rw [hty] at h; simp only [cond_true] at h
          obtain ⟨hg, h⟩ := guard_some h
          simp only [DT.run, Option.some.injEq] at h; subst h
          simp only [Bool.and_eq_true, decide_eq_true_eq] at hg
          rw [hx] at h1; unfold VR at h1
          obtain ⟨hu, hv, _⟩ := h1
          obtain ⟨d, hd1, hd2⟩ := hT.und hud (by simp)
          rw [show d = .slice e' from hd2] at hd1
          have h2 := hs.obj id
          rw [hg0] at h2
          have h3 : ∃ ao c, (μ id).v = .slice ao z.length c ∧ z.length ≤ c := by
            cases live with
            | true =>
              obtain ⟨_, xs, h4, _⟩ := h2
              rcases h4.2 with ⟨h5, h6⟩ | ⟨g, cap, cur, h5, _, _, h6, _⟩
              · exact ⟨none, 0, by rw [h5, h6], by omega⟩
              · exact ⟨_, _, h5, h6⟩
            | false =>
              obtain ⟨_, ⟨ao, c, h4, h5, _⟩, _⟩ := h2
              simp only [List.cons.injEq, and_true] at h4
              exact ⟨ao, c, h4, h5⟩
          obtain ⟨ao, c, h4, h5⟩ := h3
          rw [hv, h4] at fin
          refine fin _ (run_slice_slice (sz := e.sz) hd1 (tyIs_ok hT hty).size el eh hg.1 hg.2.1 hg.2.2 h5) rfl (Good.freeze1 hs hg0 hu _ fun M' hcr => ?_)
          rw [h4] at hcr
          exact (VR_d0 rfl).2 (CR_cut (i := (l.getD 0).toNat) (j := (hh.getD (List.length z)).toNat) hcr (by omega) (by omega))
      · cases h
    · cases h
  · cases h
end
end Go.Tat

namespace Go.Tat
set_option linter.unusedVariables false
section
variable {P : Program} {T : TE} {E : FuncId → List Entry} {w0 : World} {B0 Mo : Nat → Prop} {w : World} {M : Nat → Prop} {μ : Mu} {U : Nat → Prop} {H : Heap} {nx : Nat} {ρ : Operand → AV} {a : Act} {o : Oper} {r : R}

/-- An object is changed where it lies; some rows become data. -/
theorem Good.change (hs : HS w0 B0 Mo w μ U H) {i : Nat} (hi : U i) {o' : AObj} {w' : World} {b : Nat} (ids rd : List Nat) (hib : mutB (hget H i) (μ i).v = some b) (hni : i ∉ ids)
    (hk : ∀ k, k < w.heap.size → k ≠ b → w'.heap[k]? = w.heap[k]?) (hz : w'.heap.size = w.heap.size) (hb : mutB o' (μ i).v = some b) (hr : ∀ cs, o' ≠ .var cs false)
    (ho : ∀ M', Ext w (Mfz H μ ids (MM Mo μ H)) w' M' → Next w (MM Mo μ H) μ U w' M' μ U → objOK w' M' μ U i o') {v : AV} {u : Value} (hv : ∀ M', Next w (MM Mo μ H) μ U w' M' μ U → VR w' M' μ U v u) (hio : w'.os = w.os ∧ w'.output = w.output ∧ w'.tape = w.tape ∧ w.drawn ≤ w'.drawn := by exact ⟨rfl, rfl, rfl, Nat.le_refl _⟩) :
    Good w0 B0 Mo w μ U H nx ⟨v, (i, o') :: Tat.freeze H ids, rd, nx⟩ u w' := by
  have hH : hget ((i, o') :: Tat.freeze H ids ++ H) i = o' := by rw [List.cons_append, hget_cons, if_pos rfl]
  have hO : ∀ j, j ≠ i → LeO (hget H j) (hget ((i, o') :: Tat.freeze H ids ++ H) j) := fun j hj => by
    rw [List.cons_append, hget_cons, if_neg (Ne.symm hj)]; exact LeO_freeze H ids j
  have hupd : upd μ i (μ i) = μ := by funext j; simp only [upd]; split <;> simp_all
  have hUU : (fun j => U j ∨ j = i) = U := by funext j; apply propext; exact ⟨fun h => h.elim (fun h => h) fun h => h ▸ hi, .inl⟩
  have hnb : ∀ j ∈ ids, ∀ tid e l, hget H j = .row tid e l true → ∀ c, (μ j).v.ownBlock = some c → c ≠ b := fun j hj tid e l hg c hc hcb => by
    subst hcb
    have : j = i := hs.inj j i c (by rw [hg]; exact hc) hib
    exact hni (this ▸ hj)
  have h1 := hs.step i o' ((i, o') :: Tat.freeze H ids ++ H) w' (μ i) (fun k => k = b) hH hO (fun k hc => ⟨i, by rw [hc]; exact hib, .inl rfl⟩) hk ⟨by omega, hio.1, hio.2.1, hio.2.2.1, hio.2.2.2⟩
    (fun c hc => by rw [hb] at hc; cases hc; exact ⟨.inl rfl, by rw [hz]; exact (hs.out i b hib).2.1⟩) hr (fun _ => rfl) (fun M' hext hfree => by
      rw [hupd, hUU]
      refine ho M' (Ext_of_Mfz hext (fun j hj tid e l hg c hc => ?_) fun j hj tid e l hg c hc => hk c (hs.out j c (by rw [hg]; exact hc)).2.1 (hnb j hj tid e l hg c hc)) ⟨hext, fun _ _ => rfl, fun _ h => h⟩
      refine hfree j c (by rw [hg]; exact hc) (hnb j hj tid e l hg c hc) (fun hbb => ?_) (.inr ?_)
      · exact hnb j hj tid e l hg c hc (Option.some.inj (hb.symm.trans hbb)).symm
      · have hji : i ≠ j := fun e => hni (e ▸ hj)
        rw [List.cons_append, hget_cons, if_neg hji, hget_freeze_mem H H ids j hj tid e l true hg]; rfl)
  rw [hupd, hUU] at h1
  exact ⟨μ, U, hv _ h1.2, h1.1, h1.2, fun i h => .inl h, Nat.le_refl _⟩

theorem run_storeVar {t : TypeId} {i : TypeInfo} {v : Value} {b off : Nat} {cur : Array Value} {tid : TypeId} (hi : P.info? t = some i) (hn : v.cells.size = i.size) (hg : w.heap[b]? = some (.cells cur tid (0, 0))) (hl : off + v.cells.size ≤ cur.size) (h1 : ∀ u ∈ v.cells.toList, u.oneCell' = true) :
    (storeVar t ⟨b, off, none⟩ v).run P w = .ok () (w.setRow b (cur.toList.take off ++ v.cells.toList ++ cur.toList.drop (off + v.cells.toList.length)).toArray) := by
  unfold storeVar
  simp only [Sem.run_bind, run_sizeOf hi, Result.andThen_ok, hn]
  have := run_storeCells_at P b off tid v.cells.toList 0 cur w hg (by simpa using hl) h1
  simpa using this

theorem seg_take {l d : List Value} {p n : Nat} (h : p + d.length ≤ n) (hn : n ≤ l.length) : (l.take p ++ d ++ l.drop (p + d.length)).take n = (l.take n).take p ++ d ++ (l.take n).drop (p + d.length) := by
  have hp : (l.take p ++ d).length = p + d.length := by rw [List.length_append, List.length_take, Nat.min_eq_left (by omega)]
  rw [List.take_append, hp, List.take_of_length_le (by rw [hp]; exact h), List.drop_take, List.take_take, Nat.min_eq_left (by omega)]
theorem seg_elem {xs d : List Value} {k sz off us : Nat} (hd : d.length = us) (ho : off + us ≤ sz) (hk : (k + 1) * sz ≤ xs.length) :
    xs.take (k * sz) ++ (((xs.drop (k * sz)).take sz).take off ++ d ++ ((xs.drop (k * sz)).take sz).drop (off + us)) ++ xs.drop ((k + 1) * sz) = xs.take (k * sz + off) ++ d ++ xs.drop (k * sz + off + d.length) := by
  rw [List.take_take, Nat.min_eq_left (by omega), List.take_add]
  have h1 : xs.drop ((k + 1) * sz) = (xs.drop (k * sz)).drop sz := by rw [List.drop_drop]; congr 1; rw [Nat.add_mul]; omega
  have h2 : xs.drop (k * sz + off + d.length) = (xs.drop (k * sz)).drop (off + us) := by rw [List.drop_drop]; congr 1; omega
  rw [h1, h2]
  generalize hY : xs.drop (k * sz) = Y
  have hYl : sz ≤ Y.length := by rw [← hY, List.length_drop]; rw [Nat.add_mul] at hk; omega
  have h3 : Y.drop (off + us) = (Y.take sz).drop (off + us) ++ Y.drop sz := by
    conv => lhs; rw [← List.take_append_drop sz Y]
    rw [List.drop_append_of_le_length (by simp; omega)]
  rw [h3]
  simp

/-- Elements, one of them changed in a part. -/
theorem CRL_pset {e u : Ty} {l : List e.den} {xs d : List Value} {k : Nat} (p : Path e u) {y : u.den} (h : CRL (CR w M e) l xs) (hk : k < l.length) (hd : CR w M u y d) :
    CRL (CR w M e) (l.set k (p.set (List.getD l k e.zero) y)) (xs.take (k * e.sz + p.off) ++ d ++ xs.drop (k * e.sz + p.off + d.length)) := by
  have hx : l[k]? = some (List.getD l k e.zero) := by simp [List.getD, List.getElem?_eq_getElem hk]
  have h1 := h.at (n := e.sz) (fun x c hx => CR_len w M e x c hx) hx
  have h2 := h.set (n := e.sz) (fun x c hx => CR_len w M e x c hx) hk (CR_pset p h1 hd)
  rw [seg_elem (CR_len w _ _ _ _ hd) p.off_le (by rw [h.len]; exact Nat.mul_le_mul_right _ hk)] at h2
  exact h2

theorem op_store {t : TypeId} {x y : Operand} (hT : TEok P T) (hs : HS w0 B0 Mo w μ U H) (hρ : ∀ x, VR w (MM Mo μ H) μ U (ρ x) (a.eval x)) (ho : o.op = .store t x y)
    (h : (opG T E ρ H nx o).run some = some r) : OpOK P a o w (Good w0 B0 Mo w μ U H nx r) := by
  have h1 := hρ x
  simp only [opG, ho] at h
  have fin : ∀ ad w', a.eval x = .pointer (some ad) → (storeVar t ad (a.eval y)).run P w = .ok () w' → Good w0 B0 Mo w μ U H nx r undef w' → OpOK P a o w (Good w0 B0 Mo w μ U H nx r) := fun ad w' hx hv hg =>
    OpOK.of_skip (w' := w') (by simp only [execOp, ho]; exact run_u (by rw [hx]; simpa [Instr.storeAt, Instr.sureAddr] using hv)) hg
  split at h
  · rename_i id off hx
    rw [hx] at h1; unfold VR at h1
    obtain ⟨hu, b, hb, hv⟩ := h1
    split at h
    · rename_i cs new hg hc
      cases hle : (Nat.beq new.length (T.sz t) && (Nat.ble (off + T.sz t) cs.length && (aggT T t).isSome)) with
      | false => rw [hle] at h; cases h
      | true =>
        rw [hle] at h
        simp only [cond_true, DT.run, Option.some.injEq] at h; subst h
        simp only [Bool.and_eq_true] at hle
        obtain ⟨hn, hle, hag⟩ := hle
        have hn : new.length = T.sz t := Nat.eq_of_beq_eq_true hn
        have hle : off + T.sz t ≤ cs.length := Nat.ble_eq.mp hle
        obtain ⟨ag, hag⟩ := Option.isSome_iff_exists.1 hag
        have h2 := hs.obj id
        rw [hg] at h2
        obtain ⟨b', vs, tid, h3, h4, h5, h6⟩ := h2
        rw [hb] at h3; cases h3
        obtain ⟨i, e1, e2⟩ := hT.size (TEok.aggOther hag)
        obtain ⟨h7, h8⟩ := cellsOf_sound (hρ y) hc
        have hyl : (a.eval y).cells.toList.length = T.sz t := by rw [← VRs_len _ _ h7, hn]
        have hvl : cs.length = vs.toList.length := VRs_len _ _ h5
        refine fin _ _ hv (run_storeVar (v := a.eval y) e1 (by rw [e2, ← hyl]; simp) h4 (by simp at hyl hvl ⊢; omega) h8)
          (Good.change hs hu (b := b) (o' := .var (setCells cs off new) true) [] [id] (by rw [hg, hb]; rfl) (by simp) (fun k hk hne => setRow_other w b k _ hne) (by simp) (by rw [hb]; rfl) (fun cs hc => by cases hc)
          (fun M' hx' hnx => ⟨b, _, tid, hb, setRow_heap w b vs _ tid (0, 0) h4, ?_, ?_⟩) (fun M' hnx => by unfold VR; rfl))
        · have := VRs_set off (by rw [hn]; exact hle) (VRs_mono hnx _ _ h5) (VRs_mono hnx _ _ h7)
          simpa using this
        · intro u hu'
          simp only [List.mem_append] at hu'
          rcases hu' with (hu' | hu') | hu'
          · exact h6 u (List.mem_of_mem_take hu')
          · exact h8 u hu'
          · exact h6 u (List.mem_of_mem_drop hu')
    · cases h
  · rename_i id k e u p hx
    rw [hx] at h1; unfold VR at h1
    obtain ⟨hu, hlt, b, hb, hv⟩ := h1
    cases hty : tyIs T t u with
    | false => rw [hty] at h; cases h
    | true =>
      rw [hty] at h
      simp only [Bool.not_true, cond_false] at h
      have hok := tyIs_ok hT hty
      obtain ⟨i, z, hz1, _, hz3, _, _⟩ := hok.zero
      split at h
      · rename_i y' fz hy
        have hd0 := VR_d_cells (toD_sound (M' := Mfz H μ fz (MM Mo μ H)) hs.obj (Ext_Mfz _ _ _ _ _) (hρ y) hy (Frees_Mfz _ _ _ _))
        have hdl : (a.eval y).cells.toList.length = u.sz := CR_len w _ _ _ _ hd0
        have hdn : (a.eval y).cells.size = i.size := by rw [hz3]; simpa using hdl
        have h2 := hs.obj id
        split at h
        · rename_i tid e' l hg
          split at h
          · rename_i z' hz'
            obtain ⟨he, rfl⟩ := castD_spec hz'
            cases he
            cases hm : memN fz id with
            | true => rw [hm] at h; cases h
            | false =>
              rw [hm] at h
              simp only [cond_false, DT.run, Option.some.injEq] at h; subst h
              rw [hg] at h2
              obtain ⟨hn, xs, h3, h4⟩ := h2
              have hkl : k < l.length := by rw [← hn]; exact hlt
              rcases h3.2 with ⟨h5, h6⟩ | ⟨g, cap, cur, h5, _, h6, h7, h8, h9, h10⟩
              · omega
              · have hbg : b = g := by rw [h5] at hb; simpa [addrOf] using hb.symm
                subst hbg
                have hpo := p.off_le
                have hkm : (k + 1) * e.sz ≤ l.length * e.sz := Nat.mul_le_mul_right _ hkl
                have hkc : l.length * e.sz ≤ cap * e.sz := Nat.mul_le_mul_right _ h7
                rw [Nat.add_mul] at hkm
                have hfit : k * e.sz + p.off + (a.eval y).cells.toList.length ≤ l.length * e.sz := by rw [hdl]; omega
                refine fin _ _ hv (run_storeVar (v := a.eval y) hz1 hdn h6 (by rw [hdn, hz3, h9]; omega) (CR_one w _ _ _ _ hd0))
                  (Good.change hs hu (b := b) (o' := .row tid e (List.set l k (p.set (List.getD l k e.zero) y')) true) fz (id :: fz) (by rw [hg, h5]; rfl) (fun hmm => by rw [memN_iff.2 hmm] at hm; cases hm) (fun k hk hne => setRow_other w b k _ hne) (by simp) (by rw [h5]; rfl) (fun cs hc => by cases hc)
                  (fun M' hx' hnx => ?_) (fun M' hnx => by unfold VR; rfl))
                refine ⟨by rw [hn]; simp, xs.take (k * e.sz + p.off) ++ (a.eval y).cells.toList ++ xs.drop (k * e.sz + p.off + (a.eval y).cells.toList.length), ?_, CRL_pset p (h4.mono fun x c _ hc => CR_mono hnx.ext _ _ _ hc) hkl (CR_mono hx' _ _ _ hd0)⟩
                rw [List.length_set]
                have hxl := h3.1
                refine ⟨by simp only [List.length_append, List.length_take, List.length_drop]; omega, .inr ⟨b, cap, _, h5, Nat.zero_le _, setRow_heap w b cur _ tid (0, 0) h6, h7, h8, ?_, ?_⟩⟩
                · simp only [List.size_toArray, List.length_append, List.length_take, List.length_drop, Array.length_toList]; omega
                · rw [← h10]
                  simp only []
                  exact seg_take hfit (by simp; omega)
          · cases h
        · rename_i n e' l hg
          split at h
          · rename_i z' hz'
            obtain ⟨he, rfl⟩ := castD_spec hz'
            cases he
            cases hm : memN fz id with
            | true => rw [hm] at h; cases h
            | false =>
              rw [hm] at h
              simp only [cond_false, DT.run, Option.some.injEq] at h; subst h
              rw [hg] at h2
              obtain ⟨hn, b', vs, tid, h3, h4, h5, h6⟩ := h2
              have hkl : k < l.length := by rw [← hn]; exact hlt
              have hbg : b' = b := by rw [h3] at hb; simpa [addrOf] using hb
              subst hbg
              have hpo := p.off_le
              have hkm : (k + 1) * e.sz ≤ l.length * e.sz := Nat.mul_le_mul_right _ hkl
              rw [Nat.add_mul] at hkm
              have hvl := h6.len
              have hvs : vs.size = l.length * e.sz := by simpa using hvl
              refine fin _ _ hv (run_storeVar (v := a.eval y) hz1 hdn h4 (by rw [hdn, hz3, hvs]; omega) (CR_one w _ _ _ _ hd0))
                (Good.change hs hu (b := b') (o' := .arr n e (List.set l k (p.set (List.getD l k e.zero) y'))) fz (id :: fz) (by rw [hg, h3]; rfl) (fun hmm => by rw [memN_iff.2 hmm] at hm; cases hm) (fun k hk hne => setRow_other w b' k _ hne) (by simp) (by rw [h3]; rfl) (fun cs hc => by cases hc)
                (fun M' hx' hnx => ?_) (fun M' hnx => by unfold VR; rfl))
              refine ⟨by rw [hn]; simp, b', _, tid, h3, setRow_heap w b' vs _ tid (0, 0) h4, by rw [List.length_set]; exact h5, ?_⟩
              exact CRL_pset p (h6.mono fun x c _ hc => CR_mono hnx.ext _ _ _ hc) hkl (CR_mono hx' _ _ _ hd0)
          · cases h
        · cases h
      · cases h
  · cases h
end
end Go.Tat

namespace Go.Tat
set_option linter.unusedVariables false
section
variable {P : Program} {T : TE} {E : FuncId → List Entry} {w0 : World} {B0 Mo : Nat → Prop} {w : World} {M : Nat → Prop} {μ : Mu} {U : Nat → Prop} {H : Heap} {nx : Nat} {ρ : Operand → AV} {a : Act} {o : Oper} {r : R}

def setObjW (w : World) (r : Nat) (o : Obj) : World := { w with heap := w.heap.setIfInBounds r o }
theorem setObjW_same {b : Nat} {o : Obj} (h : b < w.heap.size) : (setObjW w b o).heap[b]? = some o := by simp [setObjW, h]
theorem setObjW_other {b k : Nat} {o : Obj} (h : k ≠ b) : (setObjW w b o).heap[k]? = w.heap[k]? := by simp [setObjW, Array.getElem?_setIfInBounds_ne (Ne.symm h)]
theorem setObjW_size {b : Nat} {o : Obj} : (setObjW w b o).heap.size = w.heap.size := by simp [setObjW]
theorem run_setObj {b : Nat} {old new : Obj} (h : w.heap[b]? = some old) (hc : ∀ c e f, old ≠ .cells c e f) : (setObj b new).run P w = .ok () (setObjW w b new) := by
  cases old <;> first | (exact (hc _ _ _ rfl).elim) | simp [setObj, Sem.run, h, setObjW]

theorem key_stays {d : UD} {k : Ty} (h : keyIs d k = true) {x : k.den} {u v : Value} (hu : CR w M k x [u]) (hv : CR w M k x [v]) : (Instr.keyThatStays u v).run P w = .ok v w := by
  cases d <;> cases k <;> simp only [keyIs] at h <;> (try cases h)
  · rename_i k1 k2
    have h1 : u = .int k2 x := by unfold CR at hu; simpa using hu
    have h2 : v = .int k2 x := by unfold CR at hv; simpa using hv
    simp [h1, h2, Instr.keyThatStays, Instr.sameBits]
  · have h1 : u = .bool x := by unfold CR at hu; simpa using hu
    have h2 : v = .bool x := by unfold CR at hv; simpa using hv
    simp [h1, h2, Instr.keyThatStays, Instr.sameBits]
  · have h1 : u = .string x := by unfold CR at hu; simpa using hu
    have h2 : v = .string x := by unfold CR at hv; simpa using hv
    have h3 : ((x : ByteArray) == x) = true := (ba_beq _ _).2 rfl
    simp [h1, h2, Instr.keyThatStays, Instr.sameBits, h3]

theorem op_mapUpdate {t : TypeId} {m k v : Operand} (hT : TEok P T) (hs : HS w0 B0 Mo w μ U H) (hρ : ∀ x, VR w (MM Mo μ H) μ U (ρ x) (a.eval x)) (ho : o.op = .mapUpdate t m k v ∨ o.op = .insert t m k v)
    (h : (opG T E ρ H nx o).run some = some r) : OpOK P a o w (Good w0 B0 Mo w μ U H nx r) := by
  have h1 := hρ m
  have hex : execOp a.eval o = (do Instr.mapUpdate t (a.eval m) (a.eval k) (a.eval v); pure .skip) := by rcases ho with ho | ho <;> simp only [execOp, ho]
  have h0 : (opG T E ρ H nx o) = mapUpC T H nx t (ρ m) (ρ k) (ρ v) := by rcases ho with ho | ho <;> simp only [opG, ho]
  rw [h0] at h
  unfold mapUpC at h
  split at h
  · rename_i id kt vt hm hud
    split at h
    · rename_i ka vb es hg
      split at h
      · rename_i x i y fz hx hy
        cases hk : keyIs (T.ud kt) ka with
        | false => rw [hk] at h; cases h
        | true =>
          rw [hk] at h
          simp only [cond_true, DT.run, Option.some.injEq] at h; subst h
          obtain ⟨d, hd1, hd2⟩ := hT.und hud (by simp)
          rw [show d = .map kt vt from hd2] at hd1
          obtain ⟨dk, hk1, hk2⟩ := hT.und (t := kt) rfl (keyIs_other hk)
          rw [hm] at h1; unfold VR at h1
          have h2 := hs.obj id
          rw [hg] at h2
          obtain ⟨ra, ens, c, h3, h4, h5⟩ := h2
          have hkey := toD_sound (M' := fun _ => False) hs.obj (fun ad v hc _ => ⟨hc, fun hf => hf⟩) (hρ k) hx (fun _ _ _ _ _ _ _ _ hf => hf)
          have hkc := keyIs_free (w' := w) (M' := MM Mo μ H) hk ((VR_d0 (keyIs_agg hk)).1 hkey)
          have hval := toD_sound (M' := Mfz H μ fz (MM Mo μ H)) hs.obj (Ext_Mfz _ _ _ _ _) (hρ v) hy (Frees_Mfz _ _ _ _)
          have hchk := keyIs_check (P := P) (T := T) (w := w) hk hk2 hk1 false (a.eval k)
          have hlt : ra < w.heap.size := (Array.getElem?_eq_some_iff.1 h4).1
          have fin : ∀ ens' : Array MapEntry, ∀ c', (Instr.mapUpdate t (a.eval m) (a.eval k) (a.eval v)).run P w = .ok () (setObjW w ra (.map ens' c')) →
              (∀ w' M', Ext w (Mfz H μ fz (MM Mo μ H)) w' M' → Ext w (MM Mo μ H) w' M' → EntR w' M' ka vb (mput ka vb es x y) ens'.toList) → OpOK P a o w (Good w0 B0 Mo w μ U H nx ⟨.raw undef, (id, .map ka vb (mput ka vb es x y)) :: freeze H fz, id :: (i ++ fz), nx⟩) := fun ens' c' hr hent => by
            refine OpOK.of_skip (w' := setObjW w ra (.map ens' c')) (by rw [hex]; exact run_u hr) ?_
            by_cases hin : id ∈ fz
            · obtain ⟨tid, e, l, b, hrow⟩ := toD_rows hy id hin
              rw [hg] at hrow; cases hrow
            · exact Good.change hs h1.1 (b := ra) (o' := .map ka vb (mput ka vb es x y)) fz _ (by rw [hg, h3]; rfl) hin (fun k hk hne => setObjW_other hne) setObjW_size (by rw [h3]; rfl) (fun cs hc => by cases hc)
                (fun M' hx' hnx => ⟨ra, ens', c', h3, setObjW_same hlt, hent _ _ hx' hnx.ext⟩) (fun M' hnx => by unfold VR; rfl)
          have hrun : ∀ q, Instr.findNow dk (a.eval k) ens.toList 0 = some q → (Instr.mapUpdate t (a.eval m) (a.eval k) (a.eval v)).run P w = (match q with
              | some (i, _) => (do let key ← Instr.keyThatStays (((ens[i]?).map (·.key)).getD (a.eval k)) (a.eval k); setObj ra (.map (ens.modify i fun e => { e with key, val := a.eval v }) c))
              | none => setObj ra (.map (ens.push { key := a.eval k, val := a.eval v, born := c }) (c + 1)) : Sem Unit).run P w := fun q hq => by
            rw [h1.2.1, h3]
            simp only [Instr.mapUpdate, Sem.run_bind, run_underlying hd1, Result.andThen_ok, run_getObj_map h4, hchk, Instr.findKey, run_underlying hk1, hq, Sem.run_pure]
            cases q <;> rfl
          rcases findNow_sound (T := T) (P := P) hk hk2 hkc es ens.toList 0 h5 with ⟨e1, e2, e3⟩ | ⟨y0, j, val, e1, e2, e3, e, e4, e5, e6⟩
          · refine fin (ens.push { key := a.eval k, val := a.eval v, born := c }) (c + 1) (by rw [hrun none e2]; exact run_setObj h4 (fun _ _ _ hc => by cases hc)) (fun w' M' hx' hx2 => ?_)
            rcases findNow_sound (T := T) (P := P) hk hk2 (keyIs_free (w' := w') (M' := M') hk hkc) es ens.toList 0 (EntR_mono hx2 _ _ h5) with ⟨_, _, f3⟩ | ⟨_, _, _, f1, _⟩
            · rw [Array.toList_push]
              exact f3 ⟨a.eval k, a.eval v, c⟩ y (VR_data_mono hx' hval) (keyIs_free hk hkc)
            · rw [e1] at f1; cases f1
          · have e4' : ens[j]? = some e := by simpa using e4
            refine fin (ens.modify j fun e => { e with key := a.eval k, val := a.eval v }) c (by
              rw [hrun _ e2]
              simp only [Nat.zero_add, Sem.run_bind, e4', Option.map_some, Option.getD_some, key_stays (P := P) hk e5 hkc, Result.andThen_ok]
              exact run_setObj h4 (fun _ _ _ hc => by cases hc)) (fun w' M' hx' hx2 => ?_)
            rcases findNow_sound (T := T) (P := P) hk hk2 (keyIs_free (w' := w') (M' := M') hk hkc) es ens.toList 0 (EntR_mono hx2 _ _ h5) with ⟨f1, _, _⟩ | ⟨_, j', _, _, f2, _, _, _, _, f6⟩
            · rw [e1] at f1; cases f1
            · rw [e2] at f2
              simp only [Nat.zero_add, Option.some.injEq, Prod.mk.injEq] at f2
              rw [f2.1, Array.toList_modify]
              exact f6 y (a.eval v) (a.eval k) (VR_data_mono hx' hval) (keyIs_free hk hkc)
      · cases h
    · cases h
  · cases h

theorem op_next {it : Operand} {b : Bool} (hs : HS w0 B0 Mo w μ U H) (hρ : ∀ x, VR w (MM Mo μ H) μ U (ρ x) (a.eval x)) (ho : o.op = .next it b)
    (h : (opG T E ρ H nx o).run some = some r) : OpOK P a o w (Good w0 B0 Mo w μ U H nx r) := by
  cases b with
  | false => simp only [opG, ho] at h; cases h
  | true =>
  have h1 := hρ it
  simp only [opG, ho] at h
  split at h
  · rename_i id hx
    split at h
    · rename_i s pos hg
      rw [hx] at h1; unfold VR at h1
      obtain ⟨hu, hv, _⟩ := h1
      have h2 := hs.obj id
      rw [hg] at h2
      obtain ⟨ra, h3, h4⟩ := h2
      have hlt : ra < w.heap.size := (Array.getElem?_eq_some_iff.1 h4).1
      have hgo : (getObj ra).run P w = .ok (.stringIter s pos) w := by simp [getObj, Sem.run, h4]
      cases hp : decide (pos < s.size) with
      | true =>
        rw [hp] at h
        simp only [DT.run, cond_true, Option.some.injEq] at h; subst h
        have hp' := of_decide_eq_true hp
        have hset := run_setObj (P := P) (w := w) (new := .stringIter s (pos + (Utf8.decode s pos).2)) h4 (fun _ _ _ hc => by cases hc)
        refine OpOK.of_run (v := .tuple #[.bool true, goInt pos, .int .i32 (Utf8.decode s pos).1]) (w' := setObjW w ra (.stringIter s (pos + (Utf8.decode s pos).2))) ?_
          (Good.change hs hu (b := ra) (o' := .iter s (pos + (Utf8.decode s pos).2)) [] _ (by rw [hg, h3]; rfl) (by simp) (fun k hk hne => setObjW_other hne) setObjW_size (by rw [h3]; rfl) (fun cs hc => by cases hc)
            (fun M' hx' hnx => ⟨ra, h3, setObjW_same hlt⟩) (fun M' hnx => ?_))
        · simp only [execOp, ho]
          refine run_v ?_
          rw [hv, h3]
          simp only [Instr.next, Sem.run_bind, hgo, Result.andThen_ok]
          rw [if_pos hp']
          simp only [Sem.run_bind, hset, Result.andThen_ok, Sem.run_pure]
        · unfold VR
          refine ⟨_, rfl, ?_⟩
          simp only [VRs]
          exact ⟨_, _, rfl, VR_bool.2 rfl, _, _, rfl, VR_int.2 rfl, _, _, rfl, VR_int.2 rfl, rfl⟩
      | false =>
        rw [hp] at h
        simp only [DT.run, cond_false, Option.some.injEq] at h; subst h
        have hp' := of_decide_eq_false hp
        refine OpOK.of_run (v := .tuple #[.bool false]) (w' := w) ?_ (Good.same hs ?_ _)
        · simp only [execOp, ho]
          refine run_v ?_
          rw [hv, h3]
          simp only [Instr.next, Sem.run_bind, hgo, Result.andThen_ok]
          rw [if_neg hp']
          rfl
        · unfold VR
          refine ⟨_, rfl, ?_⟩
          simp only [VRs]
          exact ⟨_, _, rfl, VR_bool.2 rfl, rfl⟩
    · cases h
  · cases h

theorem apartN_spec : ∀ {i j : List Nat}, apartN i j = true → ∀ x ∈ i, x ∉ j
  | x :: r, j, h => by
    simp only [apartN, Bool.and_eq_true, Bool.not_eq_true'] at h
    intro y hy hj
    cases hy with
    | head => rw [memN_iff.2 hj] at h; cases h.1
    | tail _ hy => exact apartN_spec h.2 y hy hj
  | [], j, h => by intro y hy; cases hy

theorem run_append_none {t ty e : TypeId} {i : TypeInfo} (ht : P.underlying t = some (.slice e)) (hi : P.info? e = some i) {ao : Option Addr} {n c m : Nat} (hn : n ≤ c) (hao : ∀ ad, ao = some ad → ad.spot = none) :
    (Builtin.append_ #[t, t] ty #[.slice ao n c, .slice none 0 m]).run P w = .ok (.slice ao n c) w := by
  cases ao with
  | none => simp [Builtin.append_, run_underlying ht, run_sizeOf hi, Builtin.lenOf, Builtin.firstCells, hn]
  | some ad => simp [Builtin.append_, run_underlying ht, run_sizeOf hi, Builtin.lenOf, Builtin.firstCells, hn, storeCells]

theorem op_append {c : Call} (hT : TEok P T) (hs : HS w0 B0 Mo w μ U H) (hρ : ∀ x, VR w (MM Mo μ H) μ U (ρ x) (a.eval x)) (hf : ∀ i, nx ≤ i → i < r.nx → ¬ U i) (hc : c.callee = .builtin .append) (ho : o.op = .call c)
    (h : (opG T E ρ H nx o).run some = some r) : OpOK P a o w (Good w0 B0 Mo w μ U H nx r) := by
  simp only [opG, ho, hc, builtinC] at h
  match hts : c.argTypes.toList, hxs : c.args.toList.map ρ with
  | [], _ => rw [hts] at h; cases h
  | [_], _ => rw [hts] at h; cases h
  | _ :: _ :: _ :: _, _ => rw [hts] at h; cases h
  | [t, t'], [] => rw [hts, hxs] at h; cases h
  | [t, t'], [_] => rw [hts, hxs] at h; cases h
  | [t, t'], _ :: _ :: _ :: _ => rw [hts, hxs] at h; cases h
  | [t, t'], [s, x] =>
  rw [hts, hxs] at h
  simp only [appC] at h
  cases htt : Nat.beq t t' with
  | false => rw [htt] at h; cases h
  | true =>
  rw [htt] at h; simp only [cond_true] at h
  have htt' : t = t' := Nat.eq_of_beq_eq_true htt
  subst htt'
  split at h
  · rename_i e hud
    split at h
    · rename_i u hu
      split at h
      · rename_i l i m j hl hm
        cases hap : apartN i j with
        | false => rw [hap] at h; cases h
        | true =>
        rw [hap] at h; simp only [cond_true] at h
        obtain ⟨hg, h⟩ := guard_some h
        simp only [DT.run, Option.some.injEq] at h; subst h
        have hf := hf nx (Nat.le_refl _) (Nat.lt_succ_self _)
        have hg : (l.length + m.length) * T.bytes e ≤ 140737488355328 := by simpa using hg
        obtain ⟨us, ux, hargs, hus, hux⟩ := args_two hxs
        have hts2 := types_two hts
        have hok := hT.ty e u hu
        obtain ⟨ie, z, hz1, hz2, hz3, hz4, hz5⟩ := hok.zero
        have hzs : z.cells.size = u.sz := by simpa using CR_len w _ _ _ _ (VR_d_cells (hz5 w (MM Mo μ H) μ U))
        obtain ⟨d, hd1, hd2⟩ := hT.und hud (by simp)
        rw [show d = .slice e from hd2] at hd1
        have hvs := hρ us
        have hvx := hρ ux
        rw [hus] at hvs
        rw [hux] at hvx
        obtain ⟨ao, cx, ys, e1, e2, e3, e4⟩ := elemsOf_sound hs.obj hvx hm
        -- the row that is appended to
        have hrow : ∃ xs, w.ownsRow 0 e u.sz (a.eval us) l.length xs ∧ CRL (CR w (MM Mo μ H) u) l xs ∧ (∀ b, (a.eval us).ownBlock = some b → ∃ k, i = [k] ∧ mutB (hget H k) (μ k).v = some b) ∧ (∀ k ∈ i, hget H k ≠ .dead) := by
          unfold rowOf at hl
          split at hl
          · cases hl
            unfold VR at hvs
            rw [hvs]
            exact ⟨[], World.ownsRow_nil w 0 e u.sz, CRL.nil, (fun b hb => nomatch hb), (fun k hk => nomatch hk)⟩
          · rename_i id
            split at hl
            · rename_i tid e' l' hg0
              cases hte : Nat.beq tid e with
              | false => rw [hte] at hl; cases hl
              | true =>
                rw [hte] at hl; simp only [cond_true] at hl
                have hte' : tid = e := Nat.eq_of_beq_eq_true hte
                subst hte'
                split at hl
                · rename_i y hy
                  obtain ⟨he, rfl⟩ := castD_spec hy
                  cases he
                  cases hl
                  unfold VR at hvs
                  have h2 := hs.obj id
                  rw [hg0] at h2
                  obtain ⟨hn, xs, h3, h4⟩ := h2
                  rw [hvs.2.1]
                  exact ⟨xs, h3, h4, fun b hb => ⟨id, rfl, by rw [hg0]; exact hb⟩, fun k hk => by simp at hk; subst hk; rw [hg0]; intro hh; cases hh⟩
                · cases hl
            · cases hl
          · cases hl
        obtain ⟨xs, hown, hcrl, hblk, hnd⟩ := hrow
        have hmax : l.length + m.length ≤ maxLen := by
          have := Nat.mul_le_mul_left (l.length + m.length) (show 1 ≤ T.bytes e from hok.bpos)
          simp only [maxLen]; omega
        have hrun : ∃ v' w', (Builtin.append_ #[t, t] o.type #[a.eval us, a.eval ux]).run P w = .ok v' w' ∧ w'.ownsRow 0 e u.sz v' (l.length + m.length) (xs ++ ys) ∧ w.grownBy w' (a.eval us).ownBlock ∧
            (v'.ownBlock = (a.eval us).ownBlock ∨ v'.ownBlock = some w.heap.size) := by
          cases ao with
          | none =>
            obtain ⟨hm0, rfl⟩ := e3 rfl
            subst hm0
            have hy0 : ys = [] := List.eq_nil_of_length_eq_zero (by have := e2.len; simpa using this)
            subst hy0
            have hsh : ∃ ao' c', a.eval us = .slice ao' l.length c' ∧ l.length ≤ c' ∧ ∀ ad, ao' = some ad → ad.spot = none := by
              rcases hown.2 with ⟨h5, h6⟩ | ⟨g, cap, cur, h5, _, _, h6, _⟩
              · exact ⟨none, 0, by rw [h5, h6], by omega, fun ad hh => by cases hh⟩
              · exact ⟨_, _, h5, h6, fun ad hh => by cases hh; rfl⟩
            obtain ⟨ao', c', e5, e6, e7⟩ := hsh
            refine ⟨a.eval us, w, ?_, by simpa using hown, ⟨rfl, rfl, rfl, Nat.le_refl _, fun _ _ _ => rfl⟩, .inl rfl⟩
            rw [e1, e5]
            exact run_append_none hd1 hz1 e6 e7
          | some ad =>
            obtain ⟨v', w', h1, h2, h3, _, h4⟩ := run_append_own_at (P := P) w 0 t o.type e ie z u.sz (T.bytes e) hd1 hz1 hz2 hz3 hz4 hzs hok.pos (a.eval us) l.length xs hown ad m.length cx ys e2.len (e4 ad rfl) e2.one hmax hg (Nat.zero_le _)
            exact ⟨v', w', by rw [e1]; exact h1, h2, h3, h4⟩
        obtain ⟨v', w', hr, hown', hgr, hat⟩ := hrun
        refine OpOK.of_run (v := v') (w' := w') (run_builtin hc ho (s := Builtin.append_ c.argTypes o.type #[a.eval us, a.eval ux]) (by intro cs; rw [hargs]; simp [builtin]) (by rw [hts2]; exact hr)) ?_
        have hnx : hget H nx = .dead := (hs.use nx).resolve_right hf
        have hni : nx ∉ i := fun hh => hnd nx hh hnx
        have hH : hget ((nx, AObj.row e u (l ++ m) true) :: kill i ++ H) nx = .row e u (l ++ m) true := by rw [List.cons_append, hget_cons, if_pos rfl]
        have hHj : ∀ k, k ≠ nx → hget ((nx, AObj.row e u (l ++ m) true) :: kill i ++ H) k = if k ∈ i then .dead else hget H k := fun k hk => by
          rw [List.cons_append, hget_cons, if_neg (Ne.symm hk), hget_kill]
        have hun : upd μ nx ⟨v', l.length + m.length⟩ nx = ⟨v', l.length + m.length⟩ := by simp [upd]
        obtain ⟨g1, g2⟩ := hs.step nx (.row e u (l ++ m) true) ((nx, AObj.row e u (l ++ m) true) :: kill i ++ H) w' ⟨v', l.length + m.length⟩ (fun b => (a.eval us).ownBlock = some b) hH
          (fun k hk => by rw [hHj k hk]; split; exact .inr (.inl rfl); exact LeO.refl _)
          (fun b hb => by
            obtain ⟨k, hk1, hk2⟩ := hblk b hb
            have hkn : k ≠ nx := fun e => hni (by rw [hk1, ← e]; simp)
            exact ⟨k, hk2, .inr (by rw [hHj k hkn, if_pos (by rw [hk1]; simp)])⟩)
          (fun k hlt hne => hgr.block k hlt (fun e => hne e.symm)) ⟨hgr.size, hgr.os, hgr.output, hgr.tape, run_drawn _ _ _ _ hr⟩
          (fun b hb => by
            have hb : v'.ownBlock = some b := hb
            refine ⟨?_, (hown'.lt b hb).2⟩
            rcases hat with hat | hat
            · exact .inl (by rw [← hat]; exact hb)
            · rw [hat] at hb; cases hb; exact .inr (Nat.le_refl _))
          (fun cs hh => by cases hh) (fun hu' => (hf hu').elim)
          (fun M' hext _ => by
            refine ⟨by rw [hun]; simp, xs ++ ys, ?_, ?_⟩
            · rw [hun, List.length_append]; exact hown'
            · exact (hcrl.append e2).mono fun y c _ hc => CR_mono hext _ _ _ hc)
        refine ⟨_, _, ?_, g1, g2, fun k hk => hk.imp id fun e => by subst e; exact ⟨Nat.le_refl _, Nat.lt_succ_self _⟩, Nat.le_succ _⟩
        unfold VR
        refine ⟨.inr rfl, by rw [hun], ?_⟩
        rcases hown'.2 with ⟨h5, _⟩ | ⟨g, cap, cur, h5, _⟩ <;> rw [h5] <;> rfl
      · cases h
    · cases h
  · cases h
end
end Go.Tat

namespace Go.Tat
set_option linter.unusedVariables false
section
variable {P : Program} {T : TE} {E : FuncId → List Entry} {w0 : World} {B0 Mo : Nat → Prop} {w : World} {M : Nat → Prop} {μ : Mu} {U : Nat → Prop} {H : Heap} {nx : Nat} {ρ : Operand → AV} {a : Act} {o : Oper} {r : R}

/-- Does it call a function? -/
def isCall (o : Oper) : Bool :=
  match o.op with
  | .call c => match c.callee with
    | .value _ => true
    | _ => false
  | _ => false

theorem op_sound (hT : TEok P T) (hs : HS w0 B0 Mo w μ U H) (hρ : ∀ x, VR w (MM Mo μ H) μ U (ρ x) (a.eval x)) (hc : isCall o = false)
    (h : (opG T E ρ H nx o).run some = some r) (hf : ∀ i, nx ≤ i → i < r.nx → ¬ U i) : OpOK P a o w (Good w0 B0 Mo w μ U H nx r) := by
  cases ho : o.op with
  | move x => exact op_move hs hρ (.inl ho) h
  | assign x => exact op_move hs hρ (.inr ho) h
  | pick c x y => exact op_pick hs hρ ho h
  | alloc t => exact op_alloc hT hs hf ho h
  | box t x => exact op_box hT hs hρ hf ho h
  | build t ps => exact op_build hT hs hρ ho h
  | buildSlice t n ps => exact op_buildSlice hT hs hρ hf ho h
  | insert t m k v => exact op_mapUpdate hT hs hρ (.inr ho) h
  | load t x => exact op_load hT hs hρ ho h
  | store t x y => exact op_store hT hs hρ ho h
  | nilCheck x => exact op_nilCheck hs hρ ho h
  | binOp b t x y t' => exact op_binOp hT hs hρ ho h
  | unOp u t x => exact op_unOp hs hρ ho h
  | convert s t x => exact op_convert hT hs hρ ho h
  | makeFunc f x y => exact op_makeFunc hs hρ ho h
  | makeMap t x => exact op_makeMap hT hs hρ hf ho h
  | makeSlice t x y => exact op_makeSlice hT hs hρ hf ho h
  | slice t x lo hi mx => exact op_slice hT hs hρ ho h
  | fieldAddr t x f => exact op_fieldAddr hT hs hρ ho h
  | field t x f => exact op_field hT hs hρ ho h
  | indexAddr t x i => exact op_indexAddr hT hs hρ ho h
  | index t x i => exact op_index hT hs hρ ho h
  | lookup t m k ok => exact op_lookup hT hs hρ ho h
  | mapUpdate t m k v => exact op_mapUpdate hT hs hρ (.inl ho) h
  | range t x => exact op_range hT hs hρ hf ho h
  | next it b => exact op_next hs hρ ho h
  | extract t i => exact op_extract hs hρ ho h
  | call c =>
    cases hcc : c.callee with
    | value f => simp only [isCall, ho, hcc] at hc; cases hc
    | invoke x m => simp only [opG, ho, hcc] at h; cases h
    | builtin b =>
      cases b with
      | len => exact op_len hT hs hρ hcc ho h
      | min => exact op_minmax false hs hρ hcc ho h
      | max => exact op_minmax true hs hρ hcc ho h
      | append => exact op_append hT hs hρ hf hcc ho h
      | _ => simp only [opG, ho, hcc, builtinC] at h; cases h
  | _ => simp only [opG, ho] at h; cases h

theorem DT.run_bind {Z : Type} (K : R → Option Z) : ∀ d : DT, d.run K = (d.run some).bind K
  | .ret r => rfl
  | .br b x y => by cases b <;> simp only [DT.run, cond_true, cond_false] <;> exact DT.run_bind K _
  | .ask none k => rfl
  | .ask (some q) k => DT.run_bind K (k q)
  | .fail => rfl
end
end Go.Tat
