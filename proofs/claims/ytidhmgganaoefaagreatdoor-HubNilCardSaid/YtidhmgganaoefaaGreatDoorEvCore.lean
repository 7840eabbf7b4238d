/-
  Values without addresses, the relation to the model's. OPERATIONS OVER VALUES WITHOUT ADDRESSES: a heap of named things, what each operation of the model's own code makes of it. That the model does the same, whatever its tape says, is proved beside it; a staged evaluator over it is run by the kernel. The relation between the abstract machine's values and heap and the model's, and what it keeps. Which value of the model an abstract value stands for; which world an abstract heap.
-/
import GoSem.Machine.Exec
noncomputable section
namespace Go.AM

/-- A number in binary: the name of a thing in the heap, the place of a temporary. -/
inductive Pos where
  | h
  | o (p : Pos)
  | i (p : Pos)
  deriving DecidableEq, Repr, Inhabited

def Pos.succ : Pos → Pos
  | .h => .o .h
  | .o p => .i p
  | .i p => .o (Pos.succ p)

def Pos.ofNat : Nat → Pos
  | 0 => .h
  | n + 1 => Pos.succ (Pos.ofNat n)

def Pos.beq : Pos → Pos → Bool
  | .h, .h => true
  | .o p, .o q => Pos.beq p q
  | .i p, .i q => Pos.beq p q
  | _, _ => false

/-- A table by such names. -/
inductive Tr (α : Type) where
  | leaf
  | node (l : Tr α) (v : Option α) (r : Tr α)
  deriving Inhabited

def Tr.get0 {α : Type} : Pos → Tr α → Option α
  | _, .leaf => none
  | .h, .node _ v _ => v
  | .o p, .node l _ _ => Tr.get0 p l
  | .i p, .node _ _ r => Tr.get0 p r
def Tr.get {α : Type} (p : Pos) : Tr α → Option α :=
  Pos.rec (motive := fun _ => Tr α → Option α) (fun t => Tr.rec (motive := fun _ => Option α) none (fun _ v _ _ _ => v) t)
    (fun _ ih t => Tr.rec (motive := fun _ => Option α) none (fun l _ _ _ _ => ih l) t) (fun _ ih t => Tr.rec (motive := fun _ => Option α) none (fun _ _ r _ _ => ih r) t) p

def Tr.set0 {α : Type} (x : Option α) : Pos → Tr α → Tr α
  | .h, .leaf => .node .leaf x .leaf
  | .h, .node l _ r => .node l x r
  | .o p, .leaf => .node (Tr.set0 x p .leaf) none .leaf
  | .o p, .node l v r => .node (Tr.set0 x p l) v r
  | .i p, .leaf => .node .leaf none (Tr.set0 x p .leaf)
  | .i p, .node l v r => .node l v (Tr.set0 x p r)
def Tr.set {α : Type} (x : Option α) (p : Pos) : Tr α → Tr α :=
  Pos.rec (motive := fun _ => Tr α → Tr α) (fun t => Tr.rec (motive := fun _ => Tr α) (.node .leaf x .leaf) (fun l _ r _ _ => .node l x r) t)
    (fun _ ih t => Tr.rec (motive := fun _ => Tr α) (.node (ih .leaf) none .leaf) (fun l v r _ _ => .node (ih l) v r) t) (fun _ ih t => Tr.rec (motive := fun _ => Tr α) (.node .leaf none (ih .leaf)) (fun l v r _ _ => .node l v (ih r)) t) p

/-- Values. A text is its bytes' numbers. -/
inductive AV where
  | bool (b : Bool)
  | int (k : IntKind) (n : Int)
  | str (s : List Nat)
  | nilptr
  | ptr (b : Pos) (o : Nat)
  | gptr (g o : Nat)
  | nilslice
  | slice (b : Pos) (o n c sz : Nat) (exact : Bool)
  | nilmap
  | map (b : Pos)
  | func (f : FuncId) (cap : List AV)
  | nilfunc
  | yield (b : Pos)
  | iface (t : TypeId) (v : AV)
  | nilIface
  | agg (l : List AV)
  | tuple (l : List AV)
  deriving Inhabited

def AV.undef : AV := .tuple []

/-- A deferred call; the mark that a range over a function lays. -/
inductive Df where
  | call (fn : FuncId) (args : List AV)
  | collected (b : Pos)
  deriving Inhabited

/-- Eight of a kind. -/
structure N8 (α : Type) where
  (s0 s1 s2 s3 s4 s5 s6 s7 : α)

/-- The slots of a function's lasting temporaries. -/
abbrev Slots := N8 (N8 (N8 AV))
def N8.all {α : Type} (x : α) : N8 α := ⟨x, x, x, x, x, x, x, x⟩
instance {α : Type} [Inhabited α] : Inhabited (N8 α) := ⟨N8.all default⟩

def N8.get {α : Type} (i : Nat) (t : N8 α) : α :=
  match i with
  | 0 => t.s0 | 1 => t.s1 | 2 => t.s2 | 3 => t.s3 | 4 => t.s4 | 5 => t.s5 | 6 => t.s6 | _ => t.s7
def N8.upd {α : Type} (i : Nat) (f : α → α) (t : N8 α) : N8 α :=
  match i with
  | 0 => { t with s0 := f t.s0 } | 1 => { t with s1 := f t.s1 } | 2 => { t with s2 := f t.s2 } | 3 => { t with s3 := f t.s3 } | 4 => { t with s4 := f t.s4 } | 5 => { t with s5 := f t.s5 } | 6 => { t with s6 := f t.s6 } | _ => { t with s7 := f t.s7 }
/-- The slot of a temporary. -/
def Slots.get (t : Nat) (s : Slots) : AV := N8.get (Nat.mod t 8) (N8.get (Nat.mod (Nat.div t 8) 8) (N8.get (Nat.div t 64) s))
def Slots.set (t : Nat) (v : AV) (s : Slots) : Slots := N8.upd (Nat.div t 64) (fun a => N8.upd (Nat.mod (Nat.div t 8) 8) (fun b => N8.upd (Nat.mod t 8) (fun _ => v) b) a) s
/-- Has it a slot? -/
def kept (W t : Nat) : Bool := Nat.beq (Nat.land (Nat.shiftRight W t) 1) 1

/-- What lies in the heap: a row of cells (ro: they may be frozen; sx: the place behind the row's end may be; one: the row is the whole block); a map, its entries in the order in which they came (umap: in some order; rmap: likewise, and it is not written); an iterator over a text's rest, over a map's entries (the stamps seen; the keys seen, the last first); a loop over a function (W: the temporaries that have a slot). -/
inductive Obj where
  | cells (l : List AV) (ro sx one : Bool) (e : TypeId)
  | map (es : List (AV × AV))
  | umap (es : List (AV × AV))
  | rmap (es : List (AV × AV))
  | siter (rest : List Nat) (pos : Nat)
  | miter (m : Option Pos) (seen : List Nat) (tot : Nat)
  | uiter (m : Pos) (seen : List AV) (tot : Nat)
  | loop (state : LoopState) (pending : Option Code) (W nt : Nat) (tm : Slots) (params : List Tmp) (assign body : Code)
  | deferred (taken : Bool)
  deriving Inhabited

abbrev Heap := Tr Obj

/-- What is known of a type. -/
inductive TD where
  | basic | str
  | int (k : IntKind)
  | ptr (e : TypeId) | slice (e : TypeId) | array (n : Nat) (e : TypeId)
  | map (k e : TypeId)
  | struct (fs : List (Nat × TypeId))
  | iface | func | unsafePtr | other
  deriving Inhabited

structure TI where
  size : Nat
  bytes : Nat
  agg : Bool
  desc : TD
  zero : List AV
  eqf : Bool
  deriving Inhabited

/-- The program: functions, types, what the listed variables hold. -/
structure Env where
  exts : Tr Nat
  iso : List FuncId
  ums : List TypeId
  lies : List (TypeId × Nat × TypeId)
  fns : Tr Func
  tys : Tr TI
  glb : Tr (List AV)

def Env.fn (E : Env) (f : FuncId) : Option Func := E.fns.get (Pos.ofNat f)
def Env.ty (E : Env) (t : TypeId) : Option TI := E.tys.get (Pos.ofNat t)
def Env.gl (E : Env) (g : Nat) : Option (List AV) := E.glb.get (Pos.ofNat g)

/-! ### Lists -/
def nth {α : Type} (d : α) : List α → Nat → α
  | [], _ => d
  | x :: _, 0 => x
  | _ :: l, n + 1 => nth d l n

def nth? {α : Type} : List α → Nat → Option α
  | [], _ => none
  | x :: _, 0 => some x
  | _ :: l, n + 1 => nth? l n

def dropL0 {α : Type} : Nat → List α → List α
  | 0, l => l
  | _ + 1, [] => []
  | n + 1, _ :: l => dropL0 n l
def dropS {α : Type} (ih : List α → List α) (l : List α) : List α := List.rec (motive := fun _ => List α) [] (fun _ t _ => ih t) l
def dropL {α : Type} (n : Nat) : List α → List α := Nat.rec (motive := fun _ => List α → List α) (fun l => l) (fun _ ih l => dropS ih l) n

def takeL0 {α : Type} : Nat → List α → Option (List α)
  | 0, _ => some []
  | _ + 1, [] => none
  | n + 1, x :: l => match takeL0 n l with | some r => some (x :: r) | none => none
def revS {α : Type} (x : α) (ih : List α → List α) (m : List α) : List α := ih (x :: m)
def revF {α : Type} (l : List α) : List α → List α := List.rec (motive := fun _ => List α → List α) (fun m => m) (fun x _ ih m => revS x ih m) l
def takeS {α : Type} (ih : List α → List α → Option (List α)) (l m : List α) : Option (List α) := List.rec (motive := fun _ => Option (List α)) none (fun x t _ => ih t (x :: m)) l
def takeL {α : Type} (n : Nat) (l : List α) : Option (List α) :=
  Nat.rec (motive := fun _ => List α → List α → Option (List α)) (fun _ m => some (revF m [])) (fun _ ih l m => takeS ih l m) n l []

def setL {α : Type} (x : α) : Nat → List α → Option (List α)
  | _, [] => none
  | 0, _ :: l => some (x :: l)
  | n + 1, y :: l => match setL x n l with | some r => some (y :: r) | none => none

/-- The elements from a place on are these. -/
def putL {α : Type} : (xs : List α) → Nat → List α → Option (List α)
  | [], 0, l => some l
  | _ :: _, 0, [] => none
  | x :: xs, 0, _ :: l => match putL xs 0 l with | some r => some (x :: r) | none => none
  | [], _ + 1, [] => none
  | _ :: _, _ + 1, [] => none
  | xs, n + 1, y :: l => match putL xs n l with | some r => some (y :: r) | none => none

def appL0 {α : Type} : List α → List α → List α
  | [], m => m
  | x :: l, m => x :: appL0 l m
def appL {α : Type} (l m : List α) : List α := List.rec (motive := fun _ => List α) m (fun x _ ih => x :: ih) l

def lenL0 {α : Type} : List α → Nat → Nat
  | [], n => n
  | _ :: l, n => lenL0 l (n + 1)
def lenS (ih : Nat → Nat) (n : Nat) : Nat := Nat.rec (motive := fun _ => Nat) (ih 1) (fun m _ => ih (Nat.succ (Nat.succ m))) n
def lenL {α : Type} (l : List α) : Nat → Nat := List.rec (motive := fun _ => Nat → Nat) (fun n => n) (fun _ _ ih n => lenS ih n) l

def revL {α : Type} : List α → List α → List α
  | [], m => m
  | x :: l, m => revL l (x :: m)

def repL {α : Type} (x : List α) : Nat → List α
  | 0 => []
  | n + 1 => appL x (repL x n)

def eqN0 : List Nat → List Nat → Bool
  | [], [] => true
  | x :: l, y :: m => if Nat.beq x y then eqN0 l m else false
  | _, _ => false
def eqNS (ih : List Nat → Bool) (t : List Nat) (b : Bool) : Bool := Bool.rec (motive := fun _ => Bool) false (ih t) b
def eqN (l : List Nat) : List Nat → Bool :=
  List.rec (motive := fun _ => List Nat → Bool) (fun m => List.rec (motive := fun _ => Bool) true (fun _ _ _ => false) m) (fun x _ ih m => List.rec (motive := fun _ => Bool) false (fun y t _ => eqNS ih t (Nat.beq x y)) m) l

def ltN : List Nat → List Nat → Bool
  | _, [] => false
  | [], _ :: _ => true
  | x :: l, y :: m => if Nat.blt x y then true else if Nat.beq x y then ltN l m else false

def memN (n : Nat) : List Nat → Bool
  | [] => false
  | x :: l => match Nat.beq n x with | true => true | false => memN n l

/-! ### Numbers -/
def kindEq : IntKind → IntKind → Bool
  | .i8, .i8 | .i16, .i16 | .i32, .i32 | .i64, .i64 | .u8, .u8 | .u16, .u16 | .u32, .u32 | .u64, .u64 => true
  | _, _ => false

def intEq : Int → Int → Bool
  | .ofNat a, .ofNat b => Nat.beq a b
  | .negSucc a, .negSucc b => Nat.beq a b
  | _, _ => false

def intLt : Int → Int → Bool
  | .ofNat a, .ofNat b => Nat.blt a b
  | .negSucc _, .ofNat _ => true
  | .ofNat _, .negSucc _ => false
  | .negSucc a, .negSucc b => Nat.blt b a

def addA : Int → Int → Int
  | .ofNat a, .ofNat b => .ofNat (Nat.add a b)
  | a, b => a + b

def subA : Int → Int → Int
  | .ofNat a, .ofNat b => if Nat.ble b a then .ofNat (Nat.sub a b) else (.ofNat a : Int) - .ofNat b
  | a, b => a - b

def mulA : Int → Int → Int
  | .ofNat a, .ofNat b => .ofNat (Nat.mul a b)
  | a, b => a * b

def limA : IntKind → Nat
  | .i8 => 128 | .i16 => 32768 | .i32 => 2147483648 | .i64 => 9223372036854775808
  | .u8 => 256 | .u16 => 65536 | .u32 => 4294967296 | .u64 => 18446744073709551616

def bitsN : IntKind → Nat
  | .i8 | .u8 => 8 | .i16 | .u16 => 16 | .i32 | .u32 => 32 | .i64 | .u64 => 64

def wrapA (k : IntKind) (n : Int) : Int :=
  match n with
  | .ofNat m => if Nat.blt m (limA k) then .ofNat m else k.wrap n
  | .negSucc _ => k.wrap n

def bitsA (op : BinOp) (k : IntKind) (x y : Int) : Option Int :=
  match x, y with
  | .ofNat a, .ofNat b =>
    if Nat.blt a (limA k) then (if Nat.blt b (limA k) then (match op with
      | .and => some (.ofNat (Nat.land a b))
      | .or => some (.ofNat (Nat.lor a b))
      | .xor => some (.ofNat (Nat.xor a b))
      | _ => none) else none) else none
  | _, _ => none

def binInt (op : BinOp) (k : IntKind) (x y : Int) : Option AV :=
  match op with
  | .add => some (.int k (wrapA k (addA x y)))
  | .sub => some (.int k (wrapA k (subA x y)))
  | .mul => some (.int k (wrapA k (mulA x y)))
  | .quo => match x, y with
    | .ofNat a, .ofNat b => if Nat.beq b 0 then none else some (.int k (wrapA k (.ofNat (Nat.div a b))))
    | _, _ => none
  | .rem => match x, y with
    | .ofNat a, .ofNat b => if Nat.beq b 0 then none else some (.int k (.ofNat (Nat.mod a b)))
    | _, _ => none
  | .and | .or | .xor => match bitsA op k x y with | some n => some (.int k n) | none => none
  | .shl => match x, y with
    | .ofNat a, .ofNat b => if Nat.ble b (bitsN k) then some (.int k (wrapA k (.ofNat (Nat.shiftLeft a b)))) else none
    | _, _ => none
  | .shr => match x, y with
    | .ofNat a, .ofNat b => if Nat.ble b (bitsN k) then some (.int k (.ofNat (Nat.shiftRight a b))) else none
    | _, _ => none
  | .eql => some (.bool (intEq x y))
  | .neq => some (.bool (!(intEq x y)))
  | .lss => some (.bool (intLt x y))
  | .leq => some (.bool (!(intLt y x)))
  | .gtr => some (.bool (intLt y x))
  | .geq => some (.bool (!(intLt x y)))
  | _ => none

/-- Are two numbers, texts, truths the same? -/
def eqT (d : TD) (x y : AV) : Option Bool :=
  match d, x, y with
  | .int _, .int j a, .int k b => if kindEq j k then some (intEq a b) else none
  | .str, .str a, .str b => some (eqN a b)
  | .basic, .bool a, .bool b => some (match a, b with | true, true | false, false => true | _, _ => false)
  | _, _, _ => none

/-- Structs of such, one a cell. -/
def eqFs (E : Env) : List (Nat × TypeId) → Nat → List AV → List AV → Option Bool
  | [], _, [], [] => some true
  | (off, t) :: fs, n, x :: l, y :: m => if Nat.beq off n then (match E.ty t with
    | some i => (match eqT i.desc x y with
      | some true => eqFs E fs (Nat.succ n) l m
      | some false => some false
      | none => none)
    | none => none) else none
  | _, _, _, _ => none

/-- Values of a type whose values may be keys. -/
def eqKey (E : Env) (t : TypeId) (x y : AV) : Option Bool :=
  match E.ty t with
  | none => none
  | some i => (match i.desc, x, y with
    | .struct fs, .agg l, .agg m => if i.eqf then eqFs E fs 0 l m else none
    | d, x, y => eqT d x y)

def unOpA (op : UnOp) (x : AV) : Option AV :=
  match op, x with
  | .not, .bool b => some (.bool (!b))
  | .neg, .int k n => some (.int k (wrapA k (subA 0 n)))
  | .xor, .int .u32 (.ofNat n) => if Nat.blt n 4294967296 then some (.int .u32 (.ofNat (Nat.xor 4294967295 n))) else none
  | _, _ => none

/-! ### Values of the text -/
def constA : Value → Option AV
  | .bool b => some (.bool b)
  | .int k n => some (.int k n)
  | .string s => some (.str (s.data.toList.map UInt8.toNat))
  | .pointer none => some .nilptr
  | .slice none 0 0 => some .nilslice
  | .map none => some .nilmap
  | .nilFunc => some .nilfunc
  | .nilIface => some .nilIface
  | .tuple ⟨[]⟩ => some (.tuple [])
  | _ => none

/-- A reading of operands. -/
abbrev Rho := Operand → Option AV

def evalL0 (ρ : Rho) : List Operand → Option (List AV)
  | [] => some []
  | x :: l => match ρ x with
    | some v => (match evalL0 ρ l with | some r => some (v :: r) | none => none)
    | none => none
def evalL (ρ : Rho) (l : List Operand) : Option (List AV) :=
  List.rec (motive := fun _ => Option (List AV)) (some []) (fun x _ ih => Option.rec (motive := fun _ => Option (List AV)) none (fun v => Option.rec (motive := fun _ => Option (List AV)) none (fun r => some (v :: r)) ih) (ρ x)) l

/-! ### The heap -/
def cellsOf (v : AV) : List AV := match v with | .agg l => l | v => [v]

def cellsAt (E : Env) (h : Heap) : AV → Option (List AV)
  | .ptr b o => match Tr.get b h with | some (.cells l _ _ _ _) => some (dropL o l) | _ => none
  | .gptr g o => match E.gl g with | some l => some (dropL o l) | none => none
  | _ => none

def ofCells (agg : Bool) (n : Nat) (l : List AV) : Option AV :=
  if agg then (match takeL n l with | some r => some (.agg r) | none => none) else match l with | v :: _ => some v | [] => none

def loadA (E : Env) (h : Heap) (t : TypeId) (p : AV) : Option AV :=
  match E.ty t with
  | some i => (match cellsAt E h p with | some l => ofCells i.agg i.size l | none => none)
  | none => none

/-- None of these is made of parts. -/
def allOne : List AV → Bool
  | [] => true
  | .agg _ :: _ | .tuple _ :: _ => false
  | _ :: l => allOne l

def storeA (E : Env) (h : Heap) (t : TypeId) (p v : AV) : Option Heap :=
  match E.ty t, p with
  | some i, .ptr b o =>
    (match Tr.get b h with
    | some (.cells l false sx one e) =>
      if Nat.beq (lenL (cellsOf v) 0) i.size && allOne (cellsOf v) then (match putL (cellsOf v) o l with | some l' => some (Tr.set (some (.cells l' false sx one e)) b h) | none => none) else none
    | _ => none)
  | _, _ => none

def natOf : AV → Option Nat
  | .int _ (.ofNat n) => some n
  | _ => none

def findE (eq : AV → AV → Option Bool) (k : AV) : List (AV × AV) → Option (Option AV)
  | [] => some none
  | (k', v) :: es => match eq k k' with
    | some true => some (some v)
    | some false => findE eq k es
    | none => none

def putE (eq : AV → AV → Option Bool) (k v : AV) : List (AV × AV) → Option (List (AV × AV))
  | [] => some [(k, v)]
  | (k', v') :: es => match eq k k' with
    | some true => some ((k, v) :: es)
    | some false => (match putE eq k v es with | some r => some ((k', v') :: r) | none => none)
    | none => none

def setVal (v : AV) : Nat → List (AV × AV) → Option (List (AV × AV))
  | _, [] => none
  | 0, (k, _) :: es => some ((k, v) :: es)
  | n + 1, e :: es => match setVal v n es with | some r => some (e :: r) | none => none

def idxE (eq : AV → AV → Option Bool) (k : AV) : List (AV × AV) → Nat → Option (Option Nat)
  | [], _ => some none
  | (k', _) :: es, n => match eq k k' with
    | some true => some (some n)
    | some false => idxE eq k es (n + 1)
    | none => none

def zeroA (i : TI) : Option AV := if i.agg then some (.agg i.zero) else i.zero.head?

/-- Parts into a row of cells. -/
def fillA (place : Nat → Option (Nat × Nat)) : List (Nat × AV) → List AV → Option (List AV)
  | [], cs => some cs
  | (i, v) :: r, cs => match place i with
    | none => none
    | some (off, size) => if Nat.beq (lenL (cellsOf v) 0) size then (match putL (cellsOf v) off cs with | some cs' => fillA place r cs' | none => none) else none

def sizesA (E : Env) : List (Nat × TypeId) → Option (List (Nat × Nat))
  | [] => some []
  | (off, t) :: l => match E.ty t, sizesA E l with
    | some i, some r => some ((off, i.size) :: r)
    | _, _ => none

def evalP (ρ : Rho) : List (Nat × Operand) → Option (List (Nat × AV))
  | [] => some []
  | (i, x) :: l => match ρ x, evalP ρ l with
    | some v, some r => some ((i, v) :: r)
    | _, _ => none

def bytesOfL : List AV → Option (List Nat)
  | [] => some []
  | .int .u8 (.ofNat n) :: l => if Nat.blt n 256 then (match bytesOfL l with | some r => some (n :: r) | none => none) else none
  | _ => none

def u8s : List Nat → List AV
  | [] => []
  | n :: l => .int .u8 (.ofNat n) :: u8s l

/-- The bounds of a slice expression: low, high. -/
def boundsA (ρ : Rho) (len most : Nat) (lo hi : Option Operand) : Option (Nat × Nat) :=
  match (match hi with
    | none => some len
    | some x => (match ρ x with | some v => (match natOf v with | some n => if Nat.ble n most then some n else none | none => none) | none => none)) with
  | none => none
  | some h =>
    match (match lo with
      | none => some 0
      | some x => (match ρ x with | some v => (match natOf v with | some n => if Nat.ble n h then some n else none | none => none) | none => none)) with
    | none => none
    | some l => some (l, h)

/-- Is the one nil, and the other such? some b: the answer of '=='. -/
def nilEqA (d : TD) (x y : AV) : Option Bool :=
  match d, x, y with
  | .ptr _, .nilptr, .nilptr => some true
  | .ptr _, .nilptr, .ptr _ _ | .ptr _, .ptr _ _, .nilptr => some false
  | .slice _, .nilslice, .nilslice => some true
  | .slice _, .nilslice, .slice .. | .slice _, .slice .., .nilslice => some false
  | .map _ _, .nilmap, .nilmap => some true
  | .map _ _, .nilmap, .map _ | .map _ _, .map _, .nilmap => some false
  | .func, .nilfunc, .nilfunc => some true
  | .func, .nilfunc, .func .. | .func, .func .., .nilfunc => some false
  | .iface, .nilIface, .nilIface => some true
  | .iface, .nilIface, .iface .. | .iface, .iface .., .nilIface => some false
  | _, _, _ => none

def eqA (E : Env) (t : TypeId) (x y : AV) : Option Bool :=
  match E.ty t with
  | none => none
  | some i =>
    match x, y with
    | .bool a, .bool b => eqT i.desc (.bool a) (.bool b)
    | .agg l, .agg m => (match i.desc with | .struct fs => if i.eqf then eqFs E fs 0 l m else none | _ => none)
    | .ptr b o, .ptr c p => (match i.desc with
      | .ptr e => (match E.ty e with | some ei => if Nat.beq ei.size 0 then none else if Pos.beq b c then some (Nat.beq o p) else none | none => none)
      | _ => none)
    | x, y => nilEqA i.desc x y

def binOpA (E : Env) (op : BinOp) (t : TypeId) (x y : AV) : Option AV :=
  match x, y with
  | .int k a, .int k' b => (match op with
    | .shl | .shr => binInt op k a b
    | _ => if kindEq k k' then binInt op k a b else none)
  | .str a, .str b => (match op with
    | .add => if Nat.blt (lenL a (lenL b 0)) 1000000000 then some (.str (appL a b)) else none
    | .eql => some (.bool (eqN a b))
    | .neq => some (.bool (!(eqN a b)))
    | .lss => some (.bool (ltN a b))
    | _ => none)
  | x, y => (match op, eqA E t x y with
    | .eql, some b => some (.bool b)
    | .neq, some b => some (.bool (!b))
    | _, _ => none)

def isU8 (E : Env) (e : TypeId) : Bool := match E.ty e with | some { desc := .int .u8, .. } => true | _ => false

/-- Is it on the list: a variable of such a type lies in one of such a type, so many cells behind its first? -/
def liesA (e o u : Nat) : List (TypeId × Nat × TypeId) → Bool
  | [] => false
  | (e', o', u') :: l => if Nat.beq e e' && Nat.beq o o' && Nat.beq u u' then true else liesA e o u l

/-- May this be a key of this type? -/
def keyA (E : Env) (t : TypeId) (k : AV) : Bool := match eqKey E t k k with | some true => true | _ => false

def argD (E : Env) : List TypeId → TD
  | t :: _ => (match E.ty t with | some i => i.desc | none => .other)
  | [] => .other


/-- A map's entries. -/
def entsOf (o : Option Obj) : Option (List (AV × AV)) :=
  match o with
  | some (.map es) | some (.umap es) | some (.rmap es) => some es
  | _ => none

def qBin (E : Env) (ρ : Rho) (_h : Heap) (op : BinOp) (t : TypeId) (x y : Operand) : Option AV :=
  match ρ x, ρ y with
  | some .nilIface, some .nilIface => (match y with | .const _ => binOpA E op t .nilIface .nilIface | _ => none)
  | some a, some b => binOpA E op t a b
  | _, _ => none

def qConvert (E : Env) (ρ : Rho) (h : Heap) (src dst : TypeId) (x : Operand) : Option AV :=
  match E.ty src, E.ty dst, ρ x with
  | some _, some { desc := .int k, .. }, some (.int _ n) => some (.int k (wrapA k n))
  | some { desc := .slice e, .. }, some { desc := .str, .. }, some v =>
    if !(isU8 E e) then none else
    (match v with
    | .nilslice => some (.str [])
    | .slice b o n _ _ _ => (match cellsAt E h (.ptr b o) with
      | some l => (match takeL n l with | some r => (match bytesOfL r with | some s => some (.str s) | none => none) | none => none)
      | none => none)
    | _ => none)
  | some { desc := .ptr t, .. }, some { desc := .unsafePtr, .. }, some (.ptr b o) => (match E.ty t, Tr.get b h with
    | some i, some (.cells l _ _ _ _) => if Nat.blt o (lenL l 0) then (if Nat.beq i.size 0 then none else some (.ptr b o)) else none
    | _, _ => none)
  | some { desc := .unsafePtr, .. }, some { desc := .ptr u, .. }, some (.ptr b o) => (match Tr.get b h with
    | some (.cells l _ _ true e) => (match E.ty e with
      | some i => if Nat.beq (lenL l 0) i.size then (if Nat.blt 0 i.size then (if liesA e o u E.lies then some (.ptr b o) else none) else none) else none
      | none => none)
    | _ => none)
  | _, _, _ => none

def qIface (E : Env) (ρ : Rho) (_h : Heap) (t : TypeId) (x : Operand) : Option AV :=
  match E.ty t, ρ x with
  | some i, some v => (match i.desc with | .iface | .other => none | _ => some (.iface t v))
  | _, _ => none

def qFieldAddr (E : Env) (ρ : Rho) (_h : Heap) (s : TypeId) (x : Operand) (f : Nat) : Option AV :=
  match E.ty s, ρ x with
  | some { desc := .struct fs, .. }, some v => (match nth? fs f with
    | some (off, t) => (match E.ty t with
      | some j => if Nat.beq j.size 0 then none else (match v with
        | .ptr b o => some (.ptr b (Nat.add o off))
        | .gptr g o => some (.gptr g (Nat.add o off))
        | _ => none)
      | none => none)
    | none => none)
  | _, _ => none

def qField (E : Env) (ρ : Rho) (_h : Heap) (s : TypeId) (x : Operand) (f : Nat) : Option AV :=
  match E.ty s, ρ x with
  | some { desc := .struct fs, .. }, some (.agg l) => (match nth? fs f with
    | some (off, t) => (match E.ty t with | some i => ofCells i.agg i.size (dropL off l) | none => none)
    | none => none)
  | _, _ => none

def qIndexAddr (E : Env) (ρ : Rho) (_h : Heap) (t : TypeId) (x i : Operand) : Option AV :=
  match E.ty t, ρ x, ρ i with
  | some { desc := .array n e, .. }, some v, some iv => (match natOf iv, E.ty e with
    | some k, some ei => if Nat.blt k n then (match v with
      | .ptr b o => some (.ptr b (Nat.add o (Nat.mul k ei.size)))
      | .gptr g o => some (.gptr g (Nat.add o (Nat.mul k ei.size)))
      | _ => none) else none
    | _, _ => none)
  | some { desc := .slice e, .. }, some (.slice b o n _ sz _), some iv => (match natOf iv, E.ty e with
    | some k, some ei => if Nat.blt k n then (if Nat.beq sz ei.size then some (.ptr b (Nat.add o (Nat.mul k sz))) else none) else none
    | _, _ => none)
  | _, _, _ => none

def qIndex (E : Env) (ρ : Rho) (_h : Heap) (t : TypeId) (x i : Operand) : Option AV :=
  match E.ty t, ρ x, ρ i with
  | some { desc := .array n e, .. }, some (.agg l), some iv => (match natOf iv, E.ty e with
    | some k, some ei => if Nat.blt k n then ofCells ei.agg ei.size (dropL (Nat.mul k ei.size) l) else none
    | _, _ => none)
  | some { desc := .str, .. }, some (.str s), some iv => (match natOf iv with
    | some k => (match nth? s k with | some c => some (.int .u8 (.ofNat c)) | none => none)
    | none => none)
  | _, _, _ => none

def qSlice (E : Env) (ρ : Rho) (_h : Heap) (t : TypeId) (x : Operand) (lo hi : Option Operand) : Option AV :=
  match E.ty t, ρ x with
  | some { desc := .str, .. }, some (.str s) => (match boundsA ρ (lenL s 0) (lenL s 0) lo hi with
    | some (l, h') => (match takeL (Nat.sub h' l) (dropL l s) with | some r => some (.str r) | none => none)
    | none => none)
  | some { desc := .slice e, .. }, some (.slice b o n c sz ex) => (match boundsA ρ n c lo hi, E.ty e with
    | some (l, h'), some ei => if Nat.blt l c then (if Nat.beq sz ei.size then some (.slice b (Nat.add o (Nat.mul l sz)) (Nat.sub h' l) (Nat.sub c l) sz ex) else none) else none
    | _, _ => none)
  | some { desc := .slice e, .. }, some .nilslice => (match boundsA ρ 0 0 lo hi, E.ty e with
    | some _, some _ => some .nilslice
    | _, _ => none)
  | _, _ => none

def qLookup (E : Env) (ρ : Rho) (h : Heap) (t : TypeId) (m k : Operand) (ok : Bool) : Option AV :=
  match E.ty t, ρ m, ρ k with
  | some { desc := .map kt e, .. }, some mv, some kv =>
    if !(keyA E kt kv) then none else
    (match (match mv with
      | .nilmap => some []
      | .map b => entsOf (Tr.get b h)
      | _ => none) with
    | some es => (match findE (eqKey E kt) kv es with
      | some (some v) => some (if ok then .tuple [v, .bool true] else v)
      | some none => (match E.ty e with
        | some i => (match zeroA i with | some z => some (if ok then .tuple [z, .bool false] else z) | none => none)
        | none => none)
      | none => none)
    | none => none)
  | _, _, _ => none

def qAssert (E : Env) (ρ : Rho) (_h : Heap) (x : Operand) (u : TypeId) : Option AV :=
  match ρ x, E.ty u with
  | some (.iface t v), some { desc := .struct _, .. } => if Nat.beq t u then some (.tuple [v, .bool true]) else none
  | _, _ => none

def qBuild (E : Env) (ρ : Rho) (_h : Heap) (t : TypeId) (parts : Array (Nat × Operand)) : Option AV :=
  match E.ty t, evalP ρ parts.toList with
  | some i, some ps => (match i.desc with
    | .struct fs => (match sizesA E fs with
      | some places => (match fillA (nth? places) ps i.zero with | some cs => some (.agg cs) | none => none)
      | none => none)
    | .array _ e => (match E.ty e with
      | some ei => (match fillA (fun k => some (Nat.mul k ei.size, ei.size)) ps i.zero with | some cs => some (.agg cs) | none => none)
      | none => none)
    | _ => none)
  | _, _ => none

def qBuiltin (E : Env) (ρ : Rho) (h : Heap) (b : Builtin) (args : Array Operand) (argTypes : Array TypeId) : Option AV :=
  match evalL ρ args.toList with
  | some l => (match b, argD E argTypes.toList, l with
    | .len, .str, [.str s] => some (.int .i64 (.ofNat (lenL s 0)))
    | .len, .slice _, [.slice _ _ n _ _ _] => some (.int .i64 (.ofNat n))
    | .len, .slice _, [.nilslice] => some (.int .i64 (.ofNat 0))
    | .len, .map _ _, [.map b] => (match entsOf (Tr.get b h) with | some es => some (.int .i64 (.ofNat (lenL es 0))) | none => none)
    | .cap, .slice _, [.nilslice] => some (.int .i64 (.ofNat 0))
    | .cap, .slice _, [.slice _ _ _ c _ true] => some (.int .i64 (.ofNat c))
    | .max, _, [.int k a, .int _ c] => some (.int k (if intLt a c then c else a))
    | .min, _, [.int k a, .int _ c] => some (.int k (if intLt c a then c else a))
    | .min, _, [.int k a, .int _ c, .int _ d] => some (.int k (let m := if intLt c a then c else a; if intLt d m then d else m))
    | .unsafeSliceData, _, [.slice b o _ c _ _] => if Nat.blt 0 c then some (.ptr b o) else none
    | .unsafeSliceData, _, [.nilslice] => some .nilptr
    | _, _, _ => none)
  | none => none

/-- An operation that neither changes the heap nor runs code. -/
def quietA (E : Env) (ρ : Rho) (h : Heap) (op : Op) : Option AV :=
  match op with
  | .move x | .assign x => ρ x
  | .pick c a b => match ρ c with
    | some (.bool true) => ρ a
    | some (.bool false) => ρ b
    | _ => none
  | .load t a => match ρ a with | some p => loadA E h t p | none => none
  | .nilCheck x => match ρ x with
    | some (.ptr b o) => some (.ptr b o)
    | some (.gptr g o) => some (.gptr g o)
    | _ => none
  | .binOp op t x y _ => qBin E ρ h op t x y
  | .unOp op _ x => match ρ x with | some a => unOpA op a | none => none
  | .convert src dst x => qConvert E ρ h src dst x
  | .makeInterface t x => qIface E ρ h t x
  | .makeFunc (.func f) ⟨[]⟩ cap => match evalL ρ cap.toList with | some l => some (.func f l) | none => none
  | .fieldAddr s x f => qFieldAddr E ρ h s x f
  | .field s x f => qField E ρ h s x f
  | .indexAddr t x i => qIndexAddr E ρ h t x i
  | .index t x i => qIndex E ρ h t x i
  | .slice t x lo hi none => qSlice E ρ h t x lo hi
  | .lookup t m k ok => qLookup E ρ h t m k ok
  | .extract x i => match ρ x with | some (.tuple l) => nth? l i | _ => none
  | .typeAssert x _ u true => qAssert E ρ h x u
  | .build t parts => qBuild E ρ h t parts
  | .call { callee := .builtin b, args, argTypes, .. } => qBuiltin E ρ h b args argTypes
  | _ => none

/-- A value, the heap, the next name. -/
abbrev VO := AV × Heap × Pos

def one (v : AV) (h : Heap) (nx : Pos) : Option (List VO) := some [(v, h, nx)]
def newV (h : Heap) (nx : Pos) (o : Obj) (v : Pos → AV) : Option (List VO) := one (v nx) (Tr.set (some o) nx h) (Pos.succ nx)

/-- Elements to be appended: a slice's, a text's bytes. -/
def elemsA (h : Heap) (sz : Nat) : AV → Option (List AV × Nat)
  | .nilslice => some ([], 0)
  | .slice b o n _ sz' _ => if !(Nat.beq sz sz') then none else match Tr.get b h with
    | some (.cells l _ _ _ _) => (match takeL (Nat.mul n sz) (dropL o l) with | some r => some (r, n) | none => none)
    | _ => none
  | .str s => if Nat.beq sz 1 then some (u8s s, lenL s 0) else none
  | _ => none

def appendO (E : Env) (h : Heap) (nx : Pos) (t : TypeId) (s x : AV) : Option (List VO) :=
  match E.ty t with
  | some { desc := .slice e, .. } =>
    match E.ty e with
    | none => none
    | some ei =>
    match elemsA h ei.size x with
    | none => none
    | some (new, k) =>
      if !(Nat.blt (Nat.mul k (Nat.succ ei.bytes)) 4294967296) then none else
      if !(allOne new) then none else
      match s with
      | .nilslice => if Nat.beq k 0 then one .nilslice h nx else newV h nx (.cells new false false false e) fun b => .slice b 0 k k ei.size false
      | .slice b o n c sz ex =>
        if !(Nat.beq sz ei.size) then none else
        (match Tr.get b h with
        | some (.cells l ro sx _ e') =>
          if Nat.beq k 0 then one s h nx else
          if !(Nat.blt (Nat.mul (Nat.add n k) (Nat.succ ei.bytes)) 4294967296) then none else
          if Nat.beq (Nat.add o (Nat.mul n sz)) (lenL l 0) then
            if ex && Nat.blt c (Nat.add n k) then
              newV h nx (.cells (appL (dropL o l) new) false false false e) fun b' => .slice b' 0 (Nat.add n k) (Nat.add n k) sz false
            else if !(Nat.beq e e') then none
            else if ex then
              newV (Tr.set none b h) nx (.cells (appL (dropL o l) new) ro sx false e) fun b' => .slice b' 0 (Nat.add n k) c sz true
            else
              newV (Tr.set none b h) nx (.cells (appL (dropL o l) new) ro sx false e) fun b' => .slice b' 0 (Nat.add n k) (Nat.add n k) sz false
          else if ex && Nat.blt c (Nat.add n k) then
            (match takeL (Nat.mul n sz) (dropL o l) with
            | some old => newV h nx (.cells (appL old new) false false false e) fun b' => .slice b' 0 (Nat.add n k) (Nat.add n k) sz false
            | none => none)
          else none
        | _ => none)
      | _ => none
  | _ => none

/-- An operation that makes a thing of its own: the thing, and the value by the thing's name. -/
def allocA (E : Env) (ρ : Rho) (op : Op) : Option (Obj × (Pos → AV)) :=
  match op with
  | .alloc t => match E.ty t with | some i => some (.cells i.zero false false true t, fun b => .ptr b 0) | none => none
  | .box t x => match ρ x with | some v => some (.cells (cellsOf v) false false true t, fun b => .ptr b 0) | none => none
  | .buildSlice t n parts => match E.ty t, evalP ρ parts.toList with
    | some { desc := .slice e, .. }, some ps => (match E.ty e with
      | some ei => if Nat.ble (Nat.mul n ei.size) 16777216 then (match fillA (fun k => some (Nat.mul k ei.size, ei.size)) ps (repL ei.zero n) with
        | some cs => some (.cells cs false false true e, fun b => .slice b 0 n n ei.size true)
        | none => none) else none
      | none => none)
    | _, _ => none
  | .makeMap t none => some (if memN t E.ums then .umap [] else .map [], .map)
  | .makeSlice t n c => match E.ty t, ρ n, ρ c with
    | some { desc := .slice e, .. }, some nv, some cv => (match natOf nv, natOf cv, E.ty e with
      | some n, some c, some ei => if Nat.beq n c && Nat.blt n 1000000 && Nat.blt (Nat.mul n ei.bytes) 4294967296 then some (.cells (repL ei.zero n) false false true e, fun b => .slice b 0 n n ei.size true) else none
      | _, _, _ => none)
    | _, _, _ => none
  | .convert src dst x => match E.ty src, E.ty dst, ρ x with
    | some { desc := .str, .. }, some { desc := .slice e, .. }, some (.str s) => if isU8 E e then some (.cells (u8s s) false true false e, fun b => .slice b 0 (lenL s 0) (lenL s 0) 1 false) else none
    | _, _, _ => none
  | _ => none

def storeO (E : Env) (h : Heap) (nx : Pos) (t : TypeId) (p v : AV) : Option (List VO) :=
  match storeA E h t p v with | some h' => one AV.undef h' nx | none => none

/-- Is there an entry of this text? -/
def hasS (k : List Nat) : List (AV × AV) → Option Bool
  | [] => some false
  | (.str k', _) :: es => if eqN k k' then some true else hasS k es
  | _ => none

def setS (k : List Nat) (v : AV) : List (AV × AV) → List (AV × AV)
  | [] => []
  | (.str k', v') :: es => if eqN k k' then (.str k, v) :: es else (.str k', v') :: setS k v es
  | e :: es => e :: setS k v es

/-- An entry is put at its place by the order of texts. -/
def insS (k : List Nat) (v : AV) : List (AV × AV) → List (AV × AV)
  | [] => [(.str k, v)]
  | (.str k', v') :: es => if ltN k k' then (.str k, v) :: (.str k', v') :: es else (.str k', v') :: insS k v es
  | e :: es => (.str k, v) :: e :: es

def putS (k : List Nat) (v : AV) (es : List (AV × AV)) : Option (List (AV × AV)) :=
  match hasS k es with
  | some true => some (setS k v es)
  | some false => some (insS k v es)
  | none => none

def mapUpdO (E : Env) (h : Heap) (nx : Pos) (t : TypeId) (m kv v : AV) : Option (List VO) :=
  match E.ty t, m with
  | some { desc := .map kt _, .. }, .map b => if !(keyA E kt kv) then none else (match Tr.get b h with
    | some (.map es) => (match putE (eqKey E kt) kv v es with | some es' => one AV.undef (Tr.set (some (.map es')) b h) nx | none => none)
    | some (.umap es) => (match kv with
      | .str s => (match putS s v es with | some es' => one AV.undef (Tr.set (some (.umap es')) b h) nx | none => none)
      | _ => none)
    | _ => none)
  | _, _ => none

def mapEntO (E : Env) (h : Heap) (nx : Pos) (t : TypeId) (m kv : AV) : Option (List VO) :=
  match E.ty t, m with
  | some { desc := .map kt e, .. }, .map b => if !(keyA E kt kv) then none else (match Tr.get b h, E.ty e with
    | some (.map es), some i => (match findE (eqKey E kt) kv es, idxE (eqKey E kt) kv es 0, zeroA i with
      | some none, _, some z => (match putE (eqKey E kt) kv z es with
        | some es' => one (.tuple [z, .int .i64 (.ofNat (lenL es 0))]) (Tr.set (some (.map es')) b h) nx
        | none => none)
      | some (some v), some (some n), _ => one (.tuple [v, .int .i64 (.ofNat n)]) h nx
      | _, _, _ => none)
    | _, _ => none)
  | _, _ => none

def entStO (h : Heap) (nx : Pos) (m sv v : AV) : Option (List VO) :=
  match m, natOf sv with
  | .map b, some n => (match Tr.get b h with
    | some (.map es) => (match setVal v n es with | some es' => one AV.undef (Tr.set (some (.map es')) b h) nx | none => none)
    | _ => none)
  | _, _ => none

def rangeO (E : Env) (h : Heap) (nx : Pos) (t : TypeId) (x : AV) : Option (List VO) :=
  match E.ty t, x with
  | some { desc := .str, .. }, .str s => newV h nx (.siter s 0) fun b => .ptr b 0
  | some { desc := .map _ _, .. }, .nilmap => newV h nx (.miter none [] 0) fun b => .ptr b 0
  | some { desc := .map _ _, .. }, .map m => (match Tr.get m h with
    | some (.map es) => newV h nx (.miter (some m) [] (lenL es 0)) fun b => .ptr b 0
    | some (.rmap es) => newV h nx (.uiter m [] (lenL es 0)) fun b => .ptr b 0
    | _ => none)
  | _, _ => none

/-- The entries whose stamps have not been seen. -/
def stepsM (seen : List Nat) (mk : Nat → AV → AV → VO) : List (AV × AV) → Nat → List VO
  | [], _ => []
  | (k, v) :: es, n => if memN n seen then stepsM seen mk es (Nat.succ n) else mk n k v :: stepsM seen mk es (Nat.succ n)

def memK (k : List Nat) : List AV → Bool
  | [] => false
  | .str x :: l => if eqN k x then true else memK k l
  | _ :: l => memK k l

def stepsU (seen : List AV) (mk : AV → AV → VO) : List (AV × AV) → Option (List VO)
  | [] => some []
  | (.str k, v) :: es => (match stepsU seen mk es with
    | some r => if memK k seen then some r else some (mk (.str k) v :: r)
    | none => none)
  | _ => none

def over (h : Heap) (nx : Pos) : Option (List VO) := one (.tuple [.bool false]) h nx

def orOver (h : Heap) (nx : Pos) (l : List VO) : Option (List VO) := match l with | [] => over h nx | l => some l

def nextO (h : Heap) (nx : Pos) (it : AV) (s : Bool) : Option (List VO) :=
  match it with
  | .ptr b 0 => (match Tr.get b h, s with
    | some (.siter [] _), true => over h nx
    | some (.siter (c :: r) pos), true => if Nat.blt c 128 then one (.tuple [.bool true, .int .i64 (.ofNat pos), .int .i32 (.ofNat c)]) (Tr.set (some (.siter r (Nat.succ pos))) b h) nx else none
    | some (.miter none _ _), false => over h nx
    | some (.miter (some m) seen tot), false => (match Tr.get m h with
      | some (.map es) => if Nat.beq tot (lenL es 0) then
          orOver h nx (stepsM seen (fun n k v => (.tuple [.bool true, k, v], Tr.set (some (.miter (some m) (appL seen [n]) tot)) b h, nx)) es 0) else none
      | _ => none)
    | some (.uiter m seen tot), false => (match Tr.get m h with
      | some (.rmap es) => if Nat.beq tot (lenL es 0) then
          (match stepsU seen (fun k v => (.tuple [.bool true, k, v], Tr.set (some (.uiter m (k :: seen) tot)) b h, nx)) es with
          | some l => orOver h nx l
          | none => none) else none
      | _ => none)
    | _, _ => none)
  | _ => none

def lastN : List Nat → Option Nat
  | [] => none
  | [x] => some x
  | _ :: l => lastN l

def findK (k : List Nat) : List (AV × AV) → Option AV
  | [] => none
  | (.str k', v) :: es => if eqN k k' then some v else findK k es
  | _ => none

def entryO (h : Heap) (nx : Pos) (it : AV) : Option (List VO) :=
  match it with
  | .ptr b 0 => (match Tr.get b h with
    | some (.miter (some m) seen tot) => (match Tr.get m h, lastN seen with
      | some (.map es), some n => if Nat.beq tot (lenL es 0) then (match nth? es n with | some (k, v) => one (.tuple [k, v]) h nx | none => none) else none
      | _, _ => none)
    | some (.uiter m (.str k :: _) tot) => (match Tr.get m h with
      | some (.rmap es) => if Nat.beq tot (lenL es 0) then (match findK k es with | some v => one (.tuple [.str k, v]) h nx | none => none) else none
      | _ => none)
    | _ => none)
  | _ => none

/-- The cells of an element of a slice type. -/
def elemSize (E : Env) (t : TypeId) : Option Nat :=
  match E.ty t with
  | some { desc := .slice e, .. } => (match E.ty e with | some ei => some ei.size | none => none)
  | _ => none

def copyO (E : Env) (h : Heap) (nx : Pos) (t : TypeId) (l : List AV) : Option (List VO) :=
  match l with
  | [.slice b o n _ sz _, x] => if (match elemSize E t with | some z => Nat.beq z sz | none => false) then (match elemsA h sz x with
    | some (new, k) => (let m := if Nat.ble k n then k else n
      match Tr.get b h with
      | some (.cells l false sx one' e) => (match takeL (Nat.mul m sz) new with
        | some r => (match (if allOne r then putL r o l else none) with
          | some l' => one (.int .i64 (.ofNat m)) (Tr.set (some (.cells l' false sx one' e)) b h) nx
          | none => none)
        | none => none)
      | _ => none)
    | none => none) else none
  | _ => none

/-- A pointer to bytes? -/
def ptrU8 (E : Env) (t : TypeId) : Option TypeId :=
  match E.ty t with
  | some { desc := .ptr e, .. } => if isU8 E e then some e else none
  | _ => none

def unsStrO (E : Env) (h : Heap) (nx : Pos) (t : TypeId) (l : List AV) : Option (List VO) :=
  match l with
  | [.ptr b o, n] => (match ptrU8 E t, natOf n, Tr.get b h with
    | some e0, some n, some (.cells l _ false one' e) => if Nat.beq n 0 || !(Nat.beq e0 e) || !(Nat.blt n 1000000000) then none else (match takeL n (dropL o l) with
      | some r => (match bytesOfL r with
        | some s => one (.str s) (Tr.set (some (.cells l true false one' e)) b h) nx
        | none => none)
      | none => none)
    | _, _, _ => none)
  | [.nilptr, n] => (match natOf n with | some 0 => one (.str []) h nx | _ => none)
  | _ => none

/-- What is appended is no number of zeros. -/
def noInt (E : Env) : List TypeId → Bool
  | [] => true
  | u :: _ => match E.ty u with | some i => (match i.desc with | .slice _ | .str => true | _ => false) | none => false

/-- Operations that change what is there, or look at it one after the other. -/
def effA (E : Env) (ρ : Rho) (h : Heap) (nx : Pos) (op : Op) : Option (List VO) :=
  match op with
  | .store t a x => match ρ a, ρ x with | some p, some v => storeO E h nx t p v | _, _ => none
  | .mapUpdate t m k x | .insert t m k x => match ρ m, ρ k, ρ x with | some m, some k, some v => mapUpdO E h nx t m k v | _, _, _ => none
  | .mapEntry t m k => match ρ m, ρ k with | some m, some k => mapEntO E h nx t m k | _, _ => none
  | .entryStore _ m s x => match ρ m, ρ s, ρ x with | some m, some s, some v => entStO h nx m s v | _, _, _ => none
  | .range t x => match ρ x with | some x => rangeO E h nx t x | _ => none
  | .next it s => match ρ it with | some it => nextO h nx it s | _ => none
  | .entry it => match ρ it with | some it => entryO h nx it | _ => none
  | .call { callee := .builtin .append, args, argTypes } => match argTypes.toList, evalL ρ args.toList with
    | t :: ts, some [s, x] => if noInt E ts then appendO E h nx t s x else none
    | _, _ => none
  | .call { callee := .builtin .copy, args, argTypes } => match argTypes.toList, evalL ρ args.toList with | t :: _, some l => copyO E h nx t l | _, _ => none
  | .call { callee := .builtin .unsafeString, args, argTypes } => match argTypes.toList, evalL ρ args.toList with | t :: _, some l => unsStrO E h nx t l | _, _ => none
  | _ => none

/-! ### Functions without a body -/
def idxByte : List Nat → Nat → Nat → Int
  | [], _, _ => -1
  | x :: l, c, n => if Nat.beq x c then .ofNat n else idxByte l c (n + 1)

/-- By a tag: IndexByteString, NoEscape, MakeNoZero. -/
def extA (E : Env) (fn : Func) (tag : Nat) (args : List AV) (h : Heap) (nx : Pos) : Option (List VO) :=
  match tag, args with
  | 0, [.str s, .int .u8 (.ofNat c)] => if Nat.blt c 256 then one (.int .i64 (idxByte s c 0)) h nx else none
  | 1, [x] => one x h nx
  | 2, [.int .i64 (.ofNat n)] => if Nat.blt n 1000000 then (match fn.resultTypes.toList with
    | t :: _ => (match E.ty t with
      | some { desc := .slice e, .. } => newV h nx (.cells [] false false false e) fun b => .slice b 0 n n 1 false
      | _ => none)
    | _ => none) else none
  | _, _ => none

end Go.AM
end
namespace Go.AM

/-! ### Tables -/
theorem Tr.get0_leaf {α : Type} (p : Pos) : Tr.get0 p (.leaf : Tr α) = none := by cases p <;> rfl
theorem Tr.get0_set_same {α : Type} (x : Option α) : ∀ (p : Pos) (t : Tr α), Tr.get0 p (Tr.set0 x p t) = x
  | .h, .leaf => rfl
  | .h, .node _ _ _ => rfl
  | .o p, .leaf => by simp [Tr.set0, Tr.get0, Tr.get0_set_same x p]
  | .o p, .node _ _ _ => by simp [Tr.set0, Tr.get0, Tr.get0_set_same x p]
  | .i p, .leaf => by simp [Tr.set0, Tr.get0, Tr.get0_set_same x p]
  | .i p, .node _ _ _ => by simp [Tr.set0, Tr.get0, Tr.get0_set_same x p]
theorem Tr.get0_set_ne {α : Type} (x : Option α) : ∀ (p q : Pos) (t : Tr α), q ≠ p → Tr.get0 q (Tr.set0 x p t) = Tr.get0 q t
  | .h, .h, _, hn => absurd rfl hn
  | .h, .o q, .leaf, _ => by simp [Tr.set0, Tr.get0, Tr.get0_leaf]
  | .h, .i q, .leaf, _ => by simp [Tr.set0, Tr.get0, Tr.get0_leaf]
  | .h, .o q, .node _ _ _, _ => by simp [Tr.set0, Tr.get0]
  | .h, .i q, .node _ _ _, _ => by simp [Tr.set0, Tr.get0]
  | .o p, .h, .leaf, _ => by simp [Tr.set0, Tr.get0]
  | .o p, .h, .node _ _ _, _ => by simp [Tr.set0, Tr.get0]
  | .o p, .o q, .leaf, hn => by simp only [Tr.set0, Tr.get0]; rw [Tr.get0_set_ne x p q .leaf (fun e => hn (by rw [e])), Tr.get0_leaf]
  | .o p, .o q, .node l _ _, hn => by simp only [Tr.set0, Tr.get0]; exact Tr.get0_set_ne x p q l (fun e => hn (by rw [e]))
  | .o p, .i q, .leaf, _ => by simp [Tr.set0, Tr.get0, Tr.get0_leaf]
  | .o p, .i q, .node _ _ _, _ => by simp [Tr.set0, Tr.get0]
  | .i p, .h, .leaf, _ => by simp [Tr.set0, Tr.get0]
  | .i p, .h, .node _ _ _, _ => by simp [Tr.set0, Tr.get0]
  | .i p, .i q, .leaf, hn => by simp only [Tr.set0, Tr.get0]; rw [Tr.get0_set_ne x p q .leaf (fun e => hn (by rw [e])), Tr.get0_leaf]
  | .i p, .i q, .node _ _ r, hn => by simp only [Tr.set0, Tr.get0]; exact Tr.get0_set_ne x p q r (fun e => hn (by rw [e]))
  | .i p, .o q, .leaf, _ => by simp [Tr.set0, Tr.get0, Tr.get0_leaf]
  | .i p, .o q, .node _ _ _, _ => by simp [Tr.set0, Tr.get0]
theorem Tr.get0_set {α : Type} (x : Option α) (p q : Pos) (t : Tr α) : Tr.get0 q (Tr.set0 x p t) = if q = p then x else Tr.get0 q t := by
  split
  · rename_i h; subst h; exact Tr.get0_set_same x q t
  · rename_i h; exact Tr.get0_set_ne x p q t h

/-- The number that a name stands for. -/
def Pos.val : Pos → Nat
  | .h => 1
  | .o p => 2 * p.val
  | .i p => 2 * p.val + 1
theorem Pos.val_pos : ∀ p : Pos, 0 < p.val
  | .h => by simp [Pos.val]
  | .o p => by have := Pos.val_pos p; simp [Pos.val]; omega
  | .i p => by simp [Pos.val]
theorem Pos.val_succ : ∀ p : Pos, p.succ.val = p.val + 1
  | .h => rfl
  | .o p => rfl
  | .i p => by simp [Pos.succ, Pos.val, Pos.val_succ p]; omega
theorem Pos.val_ofNat (n : Nat) : (Pos.ofNat n).val = n + 1 := by
  induction n with
  | zero => rfl
  | succ n ih => simp [Pos.ofNat, Pos.val_succ, ih]
theorem Pos.val_inj : ∀ {p q : Pos}, p.val = q.val → p = q
  | .h, .h, _ => rfl
  | .h, .o q, e => by have := Pos.val_pos q; simp [Pos.val] at e; omega
  | .h, .i q, e => by have := Pos.val_pos q; simp [Pos.val] at e; omega
  | .o p, .h, e => by have := Pos.val_pos p; simp [Pos.val] at e; omega
  | .i p, .h, e => by have := Pos.val_pos p; simp [Pos.val] at e; omega
  | .o p, .o q, e => by rw [Pos.val_inj (p := p) (q := q) (by simp [Pos.val] at e; omega)]
  | .i p, .i q, e => by rw [Pos.val_inj (p := p) (q := q) (by simp [Pos.val] at e; omega)]
  | .o p, .i q, e => by simp [Pos.val] at e; omega
  | .i p, .o q, e => by simp [Pos.val] at e; omega
theorem Pos.ofNat_inj {m n : Nat} (h : Pos.ofNat m = Pos.ofNat n) : m = n := by
  have := congrArg Pos.val h
  rw [Pos.val_ofNat, Pos.val_ofNat] at this
  omega
theorem Pos.beq_eq : ∀ {p q : Pos}, Pos.beq p q = true → p = q
  | .h, .h, _ => rfl
  | .o p, .o q, e => by rw [Pos.beq_eq (p := p) (q := q) (by simpa [Pos.beq] using e)]
  | .i p, .i q, e => by rw [Pos.beq_eq (p := p) (q := q) (by simpa [Pos.beq] using e)]
  | .h, .o _, e => by simp [Pos.beq] at e
  | .h, .i _, e => by simp [Pos.beq] at e
  | .o _, .h, e => by simp [Pos.beq] at e
  | .o _, .i _, e => by simp [Pos.beq] at e
  | .i _, .h, e => by simp [Pos.beq] at e
  | .i _, .o _, e => by simp [Pos.beq] at e

/-! ### Lists -/
theorem nth?_eq {α : Type} : ∀ (l : List α) (n : Nat), nth? l n = l[n]?
  | [], n => by cases n <;> rfl
  | x :: l, 0 => rfl
  | x :: l, n + 1 => by simp [nth?, nth?_eq l n]
theorem dropL0_eq {α : Type} : ∀ (n : Nat) (l : List α), dropL0 n l = l.drop n
  | 0, l => by simp [dropL0]
  | n + 1, [] => by simp [dropL0]
  | n + 1, x :: l => by simp [dropL0, dropL0_eq n l]
theorem takeL0_eq {α : Type} : ∀ (n : Nat) (l r : List α), takeL0 n l = some r → n ≤ l.length ∧ r = l.take n
  | 0, l, r, h => by simp [takeL0] at h; subst h; simp
  | n + 1, [], r, h => by simp [takeL0] at h
  | n + 1, x :: l, r, h => by
    simp only [takeL0] at h
    split at h
    · rename_i r' h'
      obtain ⟨h1, h2⟩ := takeL0_eq n l r' h'
      simp at h
      subst h
      simp [h2]; omega
    · cases h
theorem lenL0_eq {α : Type} : ∀ (l : List α) (n : Nat), lenL0 l n = n + l.length
  | [], n => by simp [lenL0]
  | x :: l, n => by simp [lenL0, lenL0_eq l (n + 1)]; omega
theorem appL0_eq {α : Type} : ∀ (l m : List α), appL0 l m = l ++ m
  | [], m => rfl
  | x :: l, m => by simp [appL0, appL0_eq l m]
theorem putL_eq {α : Type} : ∀ (xs : List α) (n : Nat) (l r : List α), putL xs n l = some r → n + xs.length ≤ l.length ∧ r = l.take n ++ xs ++ l.drop (n + xs.length)
  | [], 0, l, r, h => by simp [putL] at h; subst h; simp
  | x :: xs, 0, [], r, h => by simp [putL] at h
  | x :: xs, 0, y :: l, r, h => by
    simp only [putL] at h
    split at h
    · rename_i r' h'
      obtain ⟨h1, h2⟩ := putL_eq xs 0 l r' h'
      simp at h
      subst h
      simp at h2
      subst h2
      simp at h1 ⊢
      omega
    · cases h
  | [], n + 1, [], r, h => by simp [putL] at h
  | x :: xs, n + 1, [], r, h => by simp [putL] at h
  | [], n + 1, y :: l, r, h => by
    simp only [putL] at h
    split at h
    · rename_i r' h'
      obtain ⟨h1, h2⟩ := putL_eq [] n l r' h'
      simp at h
      subst h
      simp at h1 h2 ⊢
      exact ⟨h1, h2⟩
    · cases h
  | x :: xs, n + 1, y :: l, r, h => by
    simp only [putL] at h
    split at h
    · rename_i r' h'
      obtain ⟨h1, h2⟩ := putL_eq (x :: xs) n l r' h'
      simp at h
      subst h
      simp at h1 h2 ⊢
      refine ⟨by omega, ?_⟩
      rw [h2, show n + 1 + (xs.length + 1) = (n + (xs.length + 1)) + 1 from by omega]
      simp
    · cases h
theorem eqN0_eq : ∀ (l m : List Nat), eqN0 l m = (l == m)
  | [], [] => rfl
  | [], _ :: _ => rfl
  | _ :: _, [] => rfl
  | x :: l, y :: m => by
    simp only [eqN0, eqN0_eq l m]
    by_cases h : x = y
    · subst h; simp
    · have : Nat.beq x y = false := by rw [Bool.eq_false_iff]; exact fun e => h (Nat.eq_of_beq_eq_true e)
      simp [this, h]

/-! ### Numbers -/
theorem limA_wrap (k : IntKind) (m : Nat) (h : m < limA k) : k.wrap (Int.ofNat m) = Int.ofNat m := by
  unfold IntKind.wrap
  cases k <;> simp [limA, IntKind.bits, IntKind.signed] at h ⊢ <;> omega
theorem wrapA_eq (k : IntKind) (n : Int) : wrapA k n = k.wrap n := by
  unfold wrapA
  split
  · rename_i m
    split
    · rename_i h
      rw [limA_wrap k m (by simpa [Nat.blt_eq] using h)]
    · rfl
  · rfl
theorem addA_eq (a b : Int) : addA a b = a + b := by
  unfold addA; split <;> simp <;> rfl
theorem subA_eq (a b : Int) : subA a b = a - b := by
  unfold subA
  split
  · split
    · rename_i a b h
      have : b ≤ a := by simpa using h
      show Int.ofNat (a - b) = _
      simp only [Int.ofNat_eq_natCast]; omega
    · rfl
  · rfl
theorem mulA_eq (a b : Int) : mulA a b = a * b := by
  unfold mulA; split <;> simp <;> rfl
theorem intEq_eq (a b : Int) : intEq a b = (a == b) := by
  unfold intEq
  split <;> rw [Bool.eq_iff_iff] <;> simp
  · omega
  · rename_i h1 h2
    intro h
    subst h
    cases a with
    | ofNat n => exact h1 n n rfl rfl
    | negSucc n => exact h2 n n rfl rfl
theorem intLt_eq (a b : Int) : intLt a b = decide (a < b) := by
  unfold intLt
  split <;> rw [Bool.eq_iff_iff] <;> simp <;> omega


/-! ### By the recursors -/
theorem Tr.get_eq {α : Type} : ∀ (p : Pos) (t : Tr α), Tr.get p t = Tr.get0 p t
  | .h, .leaf => rfl
  | .h, .node _ _ _ => rfl
  | .o _, .leaf => rfl
  | .o p, .node l _ _ => Tr.get_eq p l
  | .i _, .leaf => rfl
  | .i p, .node _ _ r => Tr.get_eq p r
theorem Tr.set_eq {α : Type} (x : Option α) : ∀ (p : Pos) (t : Tr α), Tr.set x p t = Tr.set0 x p t
  | .h, .leaf => rfl
  | .h, .node _ _ _ => rfl
  | .o p, .leaf => congrArg (fun a => Tr.node a none .leaf) (Tr.set_eq x p .leaf)
  | .o p, .node l v r => congrArg (fun a => Tr.node a v r) (Tr.set_eq x p l)
  | .i p, .leaf => congrArg (fun a => Tr.node .leaf none a) (Tr.set_eq x p .leaf)
  | .i p, .node l v r => congrArg (fun a => Tr.node l v a) (Tr.set_eq x p r)
theorem Tr.get_leaf {α : Type} (p : Pos) : Tr.get p (.leaf : Tr α) = none := by rw [Tr.get_eq, Tr.get0_leaf]
theorem Tr.get_set_same {α : Type} (x : Option α) (p : Pos) (t : Tr α) : Tr.get p (Tr.set x p t) = x := by rw [Tr.get_eq, Tr.set_eq, Tr.get0_set_same]
theorem Tr.get_set_ne {α : Type} (x : Option α) (p q : Pos) (t : Tr α) (h : q ≠ p) : Tr.get q (Tr.set x p t) = Tr.get q t := by rw [Tr.get_eq, Tr.get_eq, Tr.set_eq, Tr.get0_set_ne _ _ _ _ h]
theorem Tr.get_set {α : Type} (x : Option α) (p q : Pos) (t : Tr α) : Tr.get q (Tr.set x p t) = if q = p then x else Tr.get q t := by rw [Tr.get_eq, Tr.get_eq, Tr.set_eq, Tr.get0_set]
theorem dropL_eq' {α : Type} : ∀ (n : Nat) (l : List α), dropL n l = dropL0 n l
  | 0, l => by cases l <;> rfl
  | n + 1, [] => rfl
  | n + 1, _ :: l => dropL_eq' n l
theorem dropL_eq {α : Type} (n : Nat) (l : List α) : dropL n l = l.drop n := by rw [dropL_eq', dropL0_eq]
theorem revF_eq {α : Type} : ∀ (l m : List α), revF l m = l.reverse ++ m
  | [], m => rfl
  | x :: l, m => by
    have : revF (x :: l) m = revF l (x :: m) := rfl
    rw [this, revF_eq l]
    simp
theorem takeT_eq {α : Type} : ∀ (n : Nat) (l m : List α), Nat.rec (motive := fun _ => List α → List α → Option (List α)) (fun _ m => some (revF m [])) (fun _ ih l m => takeS ih l m) n l m = (takeL0 n l).map (m.reverse ++ ·)
  | 0, l, m => by
    show some (revF m []) = _
    simp [takeL0, revF_eq]
  | n + 1, [], m => rfl
  | n + 1, x :: l, m => by
    have := takeT_eq n l (x :: m)
    simp only [takeL0]
    refine Eq.trans (b := (takeL0 n l).map ((x :: m).reverse ++ ·)) this ?_
    cases takeL0 n l <;> simp
theorem takeL_eq' {α : Type} (n : Nat) (l : List α) : takeL n l = takeL0 n l := by
  have := takeT_eq n l []
  simp only [List.reverse_nil, List.nil_append, Option.map_id'] at this
  exact this
theorem takeL_eq {α : Type} (n : Nat) (l r : List α) (h : takeL n l = some r) : n ≤ l.length ∧ r = l.take n := takeL0_eq n l r (by rw [← takeL_eq']; exact h)
theorem takeL_succ {α : Type} (n : Nat) (x : α) (l : List α) : takeL (n + 1) (x :: l) = (match takeL n l with | some r => some (x :: r) | none => none) := by
  rw [takeL_eq', takeL_eq']; rfl
theorem lenL_eq' {α : Type} : ∀ (l : List α) (n : Nat), lenL l n = lenL0 l n
  | [], _ => rfl
  | _ :: l, 0 => lenL_eq' l 1
  | _ :: l, n + 1 => lenL_eq' l (n + 2)
theorem lenL_eq {α : Type} (l : List α) (n : Nat) : lenL l n = n + l.length := by rw [lenL_eq', lenL0_eq]
theorem appL_eq' {α : Type} : ∀ (l m : List α), appL l m = appL0 l m
  | [], _ => rfl
  | x :: l, m => congrArg (x :: ·) (appL_eq' l m)
theorem appL_eq {α : Type} (l m : List α) : appL l m = l ++ m := by rw [appL_eq', appL0_eq]
theorem eqN_eq' : ∀ (l m : List Nat), eqN l m = eqN0 l m
  | [], [] => rfl
  | [], _ :: _ => rfl
  | _ :: _, [] => rfl
  | x :: l, y :: m => by
    have h1 : eqN (x :: l) (y :: m) = Bool.rec (motive := fun _ => Bool) false (eqN l m) (Nat.beq x y) := rfl
    have h2 : eqN0 (x :: l) (y :: m) = if Nat.beq x y then eqN0 l m else false := rfl
    rw [h1, h2, eqN_eq' l m]
    cases Nat.beq x y <;> rfl
theorem eqN_eq (l m : List Nat) : eqN l m = (l == m) := by rw [eqN_eq', eqN0_eq]
theorem evalL_nil (ρ : Rho) : evalL ρ [] = some [] := rfl
theorem evalL_cons (ρ : Rho) (x : Operand) (l : List Operand) : evalL ρ (x :: l) = (match ρ x with | some v => (match evalL ρ l with | some r => some (v :: r) | none => none) | none => none) := by
  show Option.rec (motive := fun _ => Option (List AV)) none (fun v => Option.rec (motive := fun _ => Option (List AV)) none (fun r => some (v :: r)) (evalL ρ l)) (ρ x) = _
  cases ρ x <;> cases evalL ρ l <;> rfl

theorem repL_eq {α : Type} (x : List α) : ∀ n, repL x n = (List.replicate n x).flatten
  | 0 => rfl
  | n + 1 => by simp [repL, appL_eq, repL_eq x n, List.replicate_succ]

end Go.AM
namespace Go.AM

/-- Where the things of the abstract heap lie: block, first cell, the block's cells. -/
abbrev Ph := Pos → Option (Nat × Nat × Nat)
def Ph.le (φ ψ : Ph) : Prop := ∀ p x, φ p = some x → ψ p = some x
theorem Ph.le_refl (φ : Ph) : φ.le φ := fun _ _ h => h
theorem Ph.le_trans {φ ψ χ : Ph} (h : φ.le ψ) (h' : ψ.le χ) : φ.le χ := fun p x e => h' p x (h p x e)

def bytesVal (s : List Nat) : Value := .string ⟨(s.map UInt8.ofNat).toArray⟩

mutual
def VR (φ : Ph) : AV → Value → Prop
  | .bool b, v => v = .bool b
  | .int k n, v => v = .int k n
  | .str s, v => v = bytesVal s ∧ ∀ x ∈ s, x < 256
  | .nilptr, v => v = .pointer none
  | .ptr p o, v => ∃ k b s, φ p = some (k, b, s) ∧ v = .pointer (some ⟨k, b + o, none⟩)
  | .gptr g o, v => v = .pointer (some ⟨g, o, none⟩)
  | .nilslice, v => v = .slice none 0 0
  | .slice p o n c sz ex, v => ∃ k b s cap, φ p = some (k, b, s) ∧ v = .slice (some ⟨k, b + o, none⟩) n cap ∧ n ≤ c ∧ c ≤ cap ∧ (ex = true → cap = c) ∧ b + o + cap * sz ≤ s
  | .nilmap, v => v = .map none
  | .map p, v => ∃ k b s, φ p = some (k, b, s) ∧ v = .map (some k)
  | .func f cap, v => ∃ vs, v = .func (.func f) #[] vs.toArray ∧ VRL φ cap vs
  | .nilfunc, v => v = .nilFunc
  | .yield p, v => ∃ k b s, φ p = some (k, b, s) ∧ v = .func (.yield k) #[] #[]
  | .iface t a, v => ∃ u, v = .iface t u ∧ VR φ a u
  | .nilIface, v => v = .nilIface
  | .agg l, v => ∃ vs, v = .agg vs.toArray ∧ VRL φ l vs
  | .tuple l, v => ∃ vs, v = .tuple vs.toArray ∧ VRL φ l vs
def VRL (φ : Ph) : List AV → List Value → Prop
  | [], vs => vs = []
  | a :: l, vs => ∃ v r, vs = v :: r ∧ VR φ a v ∧ VRL φ l r
end

mutual
theorem VR.mono {φ ψ : Ph} (h : φ.le ψ) : ∀ {a : AV} {v : Value}, VR φ a v → VR ψ a v
  | .bool _, _, e => by simpa [VR] using e
  | .int _ _, _, e => by simpa [VR] using e
  | .str _, _, e => by simpa [VR] using e
  | .nilptr, _, e => by simpa [VR] using e
  | .ptr p o, _, e => by
    simp only [VR] at e ⊢
    obtain ⟨k, b, s, e1, e2⟩ := e
    exact ⟨k, b, s, h _ _ e1, e2⟩
  | .gptr _ _, _, e => by simpa [VR] using e
  | .nilslice, _, e => by simpa [VR] using e
  | .slice p o n c sz ex, _, e => by
    simp only [VR] at e ⊢
    obtain ⟨k, b, s, cap, e1, e2⟩ := e
    exact ⟨k, b, s, cap, h _ _ e1, e2⟩
  | .nilmap, _, e => by simpa [VR] using e
  | .map p, _, e => by
    simp only [VR] at e ⊢
    obtain ⟨k, b, s, e1, e2⟩ := e
    exact ⟨k, b, s, h _ _ e1, e2⟩
  | .func f cap, _, e => by
    simp only [VR] at e ⊢
    obtain ⟨vs, e1, e2⟩ := e
    exact ⟨vs, e1, VRL.mono h e2⟩
  | .nilfunc, _, e => by simpa [VR] using e
  | .yield p, _, e => by
    simp only [VR] at e ⊢
    obtain ⟨k, b, s, e1, e2⟩ := e
    exact ⟨k, b, s, h _ _ e1, e2⟩
  | .iface t a, _, e => by
    simp only [VR] at e ⊢
    obtain ⟨u, e1, e2⟩ := e
    exact ⟨u, e1, VR.mono h e2⟩
  | .nilIface, _, e => by simpa [VR] using e
  | .agg l, _, e => by
    simp only [VR] at e ⊢
    obtain ⟨vs, e1, e2⟩ := e
    exact ⟨vs, e1, VRL.mono h e2⟩
  | .tuple l, _, e => by
    simp only [VR] at e ⊢
    obtain ⟨vs, e1, e2⟩ := e
    exact ⟨vs, e1, VRL.mono h e2⟩
theorem VRL.mono {φ ψ : Ph} (h : φ.le ψ) : ∀ {l : List AV} {vs : List Value}, VRL φ l vs → VRL ψ l vs
  | [], _, e => by simpa [VRL] using e
  | a :: l, _, e => by
    simp only [VRL] at e ⊢
    obtain ⟨v, r, e1, e2, e3⟩ := e
    exact ⟨v, r, e1, VR.mono h e2, VRL.mono h e3⟩
end

theorem VRL_nil {φ : Ph} {vs : List Value} : VRL φ [] vs ↔ vs = [] := by simp [VRL]
theorem VRL_cons {φ : Ph} {a : AV} {l : List AV} {vs : List Value} : VRL φ (a :: l) vs ↔ ∃ v r, vs = v :: r ∧ VR φ a v ∧ VRL φ l r := by simp [VRL]
theorem VRL.length {φ : Ph} : ∀ {l : List AV} {vs : List Value}, VRL φ l vs → vs.length = l.length
  | [], _, e => by rw [VRL_nil] at e; subst e; rfl
  | a :: l, _, e => by
    rw [VRL_cons] at e
    obtain ⟨v, r, rfl, _, e3⟩ := e
    simp [VRL.length e3]
theorem VRL.get {φ : Ph} : ∀ {l : List AV} {vs : List Value}, VRL φ l vs → ∀ {i : Nat} {a : AV}, l[i]? = some a → ∃ v, vs[i]? = some v ∧ VR φ a v
  | [], _, _, i, a, h => by simp at h
  | b :: l, _, e, 0, a, h => by
    rw [VRL_cons] at e
    obtain ⟨v, r, rfl, e2, _⟩ := e
    simp at h
    subst h
    exact ⟨v, rfl, e2⟩
  | b :: l, _, e, i + 1, a, h => by
    rw [VRL_cons] at e
    obtain ⟨v, r, rfl, _, e3⟩ := e
    simpa using VRL.get e3 (i := i) (a := a) (by simpa using h)
theorem VRL.of_get {φ : Ph} : ∀ {l : List AV} {vs : List Value}, vs.length = l.length → (∀ (i : Nat) (a : AV), l[i]? = some a → ∃ v, vs[i]? = some v ∧ VR φ a v) → VRL φ l vs
  | [], vs, hl, _ => by rw [VRL_nil]; exact List.eq_nil_of_length_eq_zero (by simpa using hl)
  | a :: l, [], hl, _ => by simp at hl
  | a :: l, v :: vs, hl, h => by
    rw [VRL_cons]
    refine ⟨v, vs, rfl, ?_, VRL.of_get (by simpa using hl) fun i b hb => ?_⟩
    · obtain ⟨u, h1, h2⟩ := h 0 a rfl
      simp at h1
      subst h1
      exact h2
    · simpa using h (i + 1) b (by simpa using hb)
theorem VRL.append {φ : Ph} : ∀ {l m : List AV} {vs us : List Value}, VRL φ l vs → VRL φ m us → VRL φ (l ++ m) (vs ++ us)
  | [], _, _, _, e, e' => by rw [VRL_nil] at e; subst e; simpa using e'
  | a :: l, m, _, us, e, e' => by
    rw [VRL_cons] at e
    obtain ⟨v, r, rfl, e2, e3⟩ := e
    simp only [List.cons_append, VRL_cons]
    exact ⟨v, r ++ us, rfl, e2, VRL.append e3 e'⟩
theorem VRL.drop {φ : Ph} {l : List AV} {vs : List Value} (h : VRL φ l vs) (n : Nat) : VRL φ (l.drop n) (vs.drop n) :=
  VRL.of_get (by simp [h.length]) fun i a hi => by
    rw [List.getElem?_drop] at hi ⊢
    exact h.get hi
theorem VRL.take {φ : Ph} {l : List AV} {vs : List Value} (h : VRL φ l vs) (n : Nat) : VRL φ (l.take n) (vs.take n) :=
  VRL.of_get (by simp [h.length]) fun i a hi => by
    rw [List.getElem?_take] at hi ⊢
    split at hi
    · rename_i hlt
      rw [if_pos hlt]
      exact h.get hi
    · cases hi

/-! ### The heap -/
/-- A block's cells from its first on: none is frozen that may be written. -/
structure FZ (ro sx : Bool) (b n s lo hi : Nat) : Prop where
  free : ∀ j, b ≤ j → j < s → (ro = true → b + n ≤ j) → ¬ (lo ≤ j ∧ j < hi)
  hull : sx = false → lo = hi ∨ hi ≤ b + n

def ER (φ : Ph) (es : List (AV × AV)) (en : List MapEntry) : Prop :=
  en.length = es.length ∧ ∀ (i : Nat) (k v : AV), es[i]? = some (k, v) → ∃ e : MapEntry, en[i]? = some e ∧ VR φ k e.key ∧ VR φ v e.val ∧ e.born = i

/-! ### Slots -/
theorem N8.get_upd_same {α : Type} (i : Nat) (f : α → α) (t : N8 α) : (t.upd i f).get i = f (t.get i) := by
  match i with
  | 0 | 1 | 2 | 3 | 4 | 5 | 6 | n + 7 => rfl
theorem N8.get_upd_ne {α : Type} {i j : Nat} (hi : i < 8) (hj : j < 8) (h : i ≠ j) (f : α → α) (t : N8 α) : (t.upd i f).get j = t.get j := by
  match i, j with
  | 0, 0 | 1, 1 | 2, 2 | 3, 3 | 4, 4 | 5, 5 | 6, 6 => exact absurd rfl h
  | 0, 1 | 0, 2 | 0, 3 | 0, 4 | 0, 5 | 0, 6 | 0, 7 => rfl
  | 1, 0 | 1, 2 | 1, 3 | 1, 4 | 1, 5 | 1, 6 | 1, 7 => rfl
  | 2, 0 | 2, 1 | 2, 3 | 2, 4 | 2, 5 | 2, 6 | 2, 7 => rfl
  | 3, 0 | 3, 1 | 3, 2 | 3, 4 | 3, 5 | 3, 6 | 3, 7 => rfl
  | 4, 0 | 4, 1 | 4, 2 | 4, 3 | 4, 5 | 4, 6 | 4, 7 => rfl
  | 5, 0 | 5, 1 | 5, 2 | 5, 3 | 5, 4 | 5, 6 | 5, 7 => rfl
  | 6, 0 | 6, 1 | 6, 2 | 6, 3 | 6, 4 | 6, 5 | 6, 7 => rfl
  | 7, 0 | 7, 1 | 7, 2 | 7, 3 | 7, 4 | 7, 5 | 7, 6 => rfl
  | 7, 7 => exact absurd rfl h
  | n + 8, _ => omega
  | _, n + 8 => omega

theorem Slots.get_set_same (t : Nat) (v : AV) (s : Slots) : Slots.get t (Slots.set t v s) = v := by
  unfold Slots.get Slots.set
  rw [N8.get_upd_same, N8.get_upd_same, N8.get_upd_same]
theorem Slots.get_set_ne {t u : Nat} (ht : t < 512) (hu : u < 512) (h : t ≠ u) (v : AV) (s : Slots) : Slots.get u (Slots.set t v s) = Slots.get u s := by
  unfold Slots.get Slots.set
  have e1 : Nat.div t 64 = t / 64 := rfl
  have e2 : Nat.div u 64 = u / 64 := rfl
  have e3 : Nat.mod (Nat.div t 8) 8 = t / 8 % 8 := rfl
  have e4 : Nat.mod (Nat.div u 8) 8 = u / 8 % 8 := rfl
  have e5 : Nat.mod t 8 = t % 8 := rfl
  have e6 : Nat.mod u 8 = u % 8 := rfl
  rw [e1, e2, e3, e4, e5, e6]
  by_cases h1 : t / 64 = u / 64
  · rw [h1, N8.get_upd_same]
    by_cases h2 : t / 8 % 8 = u / 8 % 8
    · rw [h2, N8.get_upd_same, N8.get_upd_ne (by omega) (by omega) (by omega)]
    · rw [N8.get_upd_ne (by omega) (by omega) h2]
  · rw [N8.get_upd_ne (by omega) (by omega) h1]

def TR (φ : Ph) (W nt : Nat) (s : Slots) (vs : Array Value) : Prop :=
  vs.size = nt ∧ nt ≤ 512 ∧ ∀ i, i < nt → kept W i = true → VR φ (Slots.get i s) (vs.getD i Go.undef)

/-- What is not touched: the blocks that are kept as they are, the world outside. -/
structure Base where
  keep : Nat → Option Go.Obj
  w : World

/-- Texts, each once. -/
def UK (es : List (AV × AV)) : Prop := (∀ e ∈ es, ∃ s, e.1 = .str s ∧ ∀ x ∈ s, x < 256) ∧ (es.map (·.1)).Nodup
theorem UK.perm {es es' : List (AV × AV)} (h : UK es) (p : es'.Perm es) : UK es' :=
  ⟨fun e he => h.1 e (p.mem_iff.1 he), (p.map _).nodup_iff.2 h.2⟩

/-- Entries in some order. -/
def UR (φ : Ph) (es : List (AV × AV)) (en : List MapEntry) : Prop := ∃ es', es'.Perm es ∧ ER φ es' en ∧ UK es

def OR_ (B : Base) (φ : Ph) (o : Obj) (x : Go.Obj) (b s : Nat) : Prop :=
  match o with
  | .cells l ro sx one e => ∃ c lo hi, x = .cells c e (lo, hi) ∧ (one = true → b = 0 ∧ s = l.length) ∧ c.size = s ∧ b + l.length ≤ s ∧ (∀ (i : Nat) (v : AV), l[i]? = some v → ∃ u, c[b + i]? = some u ∧ VR φ v u) ∧ FZ ro sx b l.length s lo hi
  | .map es => ∃ en, x = .map en es.length ∧ ER φ es en.toList
  | .umap es => ∃ en, x = .map en es.length ∧ UR φ es en.toList
  | .rmap es => ∃ en, x = .map en es.length ∧ UR φ es en.toList
  | .siter rest pos => b = 0 ∧ ∃ full : List Nat, x = .stringIter ⟨(full.map UInt8.ofNat).toArray⟩ pos ∧ (∀ y ∈ full, y < 256) ∧ pos ≤ full.length ∧ full.drop pos = rest
  | .miter none _ _ => b = 0 ∧ ∃ a seen c, x = .mapIter none a seen c
  | .miter (some m) seen tot => b = 0 ∧ ∃ k b' s', φ m = some (k, b', s') ∧ x = .mapIter (some k) tot seen.toArray tot
  | .uiter m seen tot => b = 0 ∧ ∃ k b' s' en sn, φ m = some (k, b', s') ∧ x = .mapIter (some k) tot sn tot ∧ B.keep k = some (.map en tot) ∧ sn.size = seen.length ∧ ∀ (i : Nat) (a : AV), seen.reverse[i]? = some a → ∃ e : MapEntry, e ∈ en.toList ∧ sn[i]? = some e.born ∧ VR φ a e.key
  | .loop st p W nt t ps as_ bd => ∃ f tm d, x = .loop { state := st, pending := p, fn := f, tmps := tm, params := ps.toArray, assign := as_, body := bd, defers := d } ∧ TR φ W nt t tm
  | .deferred taken => x = .deferred (if taken then none else some [])

/-- It is not written. -/
def Obj.ro : Obj → Bool
  | .rmap _ => true
  | _ => false

theorem ER.mono {φ ψ : Ph} (h : φ.le ψ) {es : List (AV × AV)} {en : List MapEntry} (e : ER φ es en) : ER ψ es en :=
  ⟨e.1, fun i k v hi => let ⟨x, h1, h2, h3, h4⟩ := e.2 i k v hi; ⟨x, h1, h2.mono h, h3.mono h, h4⟩⟩
theorem UR.mono {φ ψ : Ph} (h : φ.le ψ) {es : List (AV × AV)} {en : List MapEntry} (e : UR φ es en) : UR ψ es en :=
  let ⟨es', h1, h2, h3⟩ := e; ⟨es', h1, h2.mono h, h3⟩
theorem TR.mono {φ ψ : Ph} (h : φ.le ψ) {W nt : Nat} {t : Slots} {vs : Array Value} (e : TR φ W nt t vs) : TR ψ W nt t vs := ⟨e.1, e.2.1, fun i h1 h2 => (e.2.2 i h1 h2).mono h⟩
theorem OR_.mono {B : Base} {φ ψ : Ph} (h : φ.le ψ) : ∀ {o : Obj} {x : Go.Obj} {b s : Nat}, OR_ B φ o x b s → OR_ B ψ o x b s
  | .cells _l _ro _sx _one _e, _x, _b, _s, ⟨c, lo, hi, h1, h0, h2, h3, h4, h5⟩ => ⟨c, lo, hi, h1, h0, h2, h3, fun i v hv => let ⟨u, a, b⟩ := h4 i v hv; ⟨u, a, b.mono h⟩, h5⟩
  | .map _es, _x, _b, _s, ⟨en, h1, h2⟩ => ⟨en, h1, h2.mono h⟩
  | .umap _es, _x, _b, _s, ⟨en, h1, h2⟩ => ⟨en, h1, h2.mono h⟩
  | .rmap _es, _x, _b, _s, ⟨en, h1, h2⟩ => ⟨en, h1, h2.mono h⟩
  | .siter _ _, _, _, _, e => e
  | .miter none _ _, _, _, _, e => e
  | .miter (some _m) _n _tot, _x, _b, _s, ⟨h0, k, b', s', h1, h2⟩ => ⟨h0, k, b', s', h _ _ h1, h2⟩
  | .uiter _m _seen _tot, _x, _b, _s, ⟨h0, k, b', s', en, sn, h1, h2, h3, h4, h5⟩ => ⟨h0, k, b', s', en, sn, h _ _ h1, h2, h3, h4, fun i a ha => let ⟨e, g1, g2, g3⟩ := h5 i a ha; ⟨e, g1, g2, g3.mono h⟩⟩
  | .loop .., _x, _b, _s, ⟨f, tm, d, h1, h2⟩ => ⟨f, tm, d, h1, h2.mono h⟩
  | .deferred _, _, _, _, e => e

/-- The listed variables' cells. -/
def GR (E : Env) (w : World) : Prop := ∀ (g : Nat) (l : List AV), E.gl g = some l → ∀ (i : Nat) (v : AV), l[i]? = some v → ∃ u, w.cell? ⟨g, i, none⟩ = some u ∧ ∀ φ, VR φ v u

/-- .. in blocks that are kept. -/
def GB (E : Env) (B : Base) : Prop := ∀ (g : Nat) (l : List AV), E.gl g = some l → ∃ c e fz, B.keep g = some (.cells c e fz) ∧ ∀ (i : Nat) (v : AV), l[i]? = some v → ∃ u, c[i]? = some u ∧ ∀ φ, VR φ v u

/-- An abstract heap and a world, over a base. -/
structure HR (φ : Ph) (B : Base) (h : Heap) (nx : Pos) (w : World) : Prop where
  fresh : ∀ p, nx.val ≤ p.val → φ p = none
  clean : ∀ p, nx.val ≤ p.val → Tr.get p h = none
  blk : ∀ p k b s, φ p = some (k, b, s) → k < w.heap.size
  inj : ∀ p q k b s b' s', φ p = some (k, b, s) → φ q = some (k, b', s') → Tr.get p h ≠ none → Tr.get q h ≠ none → p = q
  obj : ∀ p o k b s, Tr.get p h = some o → φ p = some (k, b, s) → ∃ x, w.heap[k]? = some x ∧ OR_ B φ o x b s
  hold : ∀ p o k b s, Tr.get p h = some o → φ p = some (k, b, s) → B.keep k = if o.ro then w.heap[k]? else none
  old : ∀ i x, B.keep i = some x → w.heap[i]? = some x
  os : w.os = B.w.os
  tape : w.tape = B.w.tape
  output : w.output = B.w.output

end Go.AM
