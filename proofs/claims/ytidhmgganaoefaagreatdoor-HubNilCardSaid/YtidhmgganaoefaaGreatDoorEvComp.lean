/-
  The staged evaluator. The staged evaluator: its small parts. Those that run at each round are laid by the recursors themselves: the kernel is quicker so. The staged evaluator: a function's code becomes functions of the slots, the heap, the way on. What is made of the code alone is closed: the kernel makes it once.
-/
import Derived.Test.YtidhmgganaoefaaGreatDoorEvCore
noncomputable section
namespace Go.AM

/-- What stands ready: the kernel keeps its form. -/
structure Box (α : Type) where
  f : α

/-- How a call ends. -/
inductive CR where
  | ret (v : AV) (h : Heap) (nx : Pos)
  | pan (v : AV) (h : Heap) (nx : Pos)

abbrev R := Option (List CR)
abbrev L := List AV
abbrev FC := AV → List AV → Heap → Pos → R
abbrev K := Slots → List Df → Heap → Pos → R
abbrev KX := Nat → K
abbrev Rd := L → Slots → AV
abbrev Q := L → Slots → Heap → Option AV
abbrev VC := FC → AV → L → Slots → List Df → Heap → Pos → K → R
abbrev Rg := FC → L → Slots → List Df → Heap → Pos → K → R
abbrev Cd := FC → Slots → List Df → Heap → Pos → K → KX → R

def ob {α β : Type} (o : Option α) (k : α → Option β) : Option β := Option.rec (motive := fun _ => Option β) none k o
def bb {β : Type} (b : Bool) (x y : β) : β := Bool.rec (motive := fun _ => β) y x b
def unB {α β : Type} (b : Box α) (k : α → β) : β := Box.rec (motive := fun _ => β) k b
def hdL (l : L) : AV := List.rec (motive := fun _ => AV) AV.undef (fun x _ _ => x) l
def tlL (l : L) : L := List.rec (motive := fun _ => L) [] (fun _ t _ => t) l
def natC {β : Type} (n : Int) (k : Nat → β) (z : β) : β := Int.rec (motive := fun _ => β) k (fun _ => z) n
/-- By a value's kind; z: another one. -/
def boolC {β : Type} (v : AV) (k : Bool → β) (z : β) : β :=
  AV.rec (motive_1 := fun _ => β) (motive_2 := fun _ => β) k (fun _ _ => z) (fun _ => z) z (fun _ _ => z) (fun _ _ => z) z (fun _ _ _ _ _ _ => z) z (fun _ => z) (fun _ _ _ => z) z (fun _ => z) (fun _ _ _ => z) z (fun _ _ => z) (fun _ _ => z) z (fun _ _ _ _ => z) v
def intC {β : Type} (v : AV) (k : IntKind → Int → β) (z : β) : β :=
  AV.rec (motive_1 := fun _ => β) (motive_2 := fun _ => β) (fun _ => z) k (fun _ => z) z (fun _ _ => z) (fun _ _ => z) z (fun _ _ _ _ _ _ => z) z (fun _ => z) (fun _ _ _ => z) z (fun _ => z) (fun _ _ _ => z) z (fun _ _ => z) (fun _ _ => z) z (fun _ _ _ _ => z) v
def strC {β : Type} (v : AV) (k : List Nat → β) (z : β) : β :=
  AV.rec (motive_1 := fun _ => β) (motive_2 := fun _ => β) (fun _ => z) (fun _ _ => z) k z (fun _ _ => z) (fun _ _ => z) z (fun _ _ _ _ _ _ => z) z (fun _ => z) (fun _ _ _ => z) z (fun _ => z) (fun _ _ _ => z) z (fun _ _ => z) (fun _ _ => z) z (fun _ _ _ _ => z) v
def ptrC {β : Type} (v : AV) (k : Pos → Nat → β) (g : Nat → Nat → β) (z : β) : β :=
  AV.rec (motive_1 := fun _ => β) (motive_2 := fun _ => β) (fun _ => z) (fun _ _ => z) (fun _ => z) z k g z (fun _ _ _ _ _ _ => z) z (fun _ => z) (fun _ _ _ => z) z (fun _ => z) (fun _ _ _ => z) z (fun _ _ => z) (fun _ _ => z) z (fun _ _ _ _ => z) v
def sliceC {β : Type} (v : AV) (k : Pos → Nat → Nat → Nat → Nat → Bool → β) (n : β) (z : β) : β :=
  AV.rec (motive_1 := fun _ => β) (motive_2 := fun _ => β) (fun _ => z) (fun _ _ => z) (fun _ => z) z (fun _ _ => z) (fun _ _ => z) n k z (fun _ => z) (fun _ _ _ => z) z (fun _ => z) (fun _ _ _ => z) z (fun _ _ => z) (fun _ _ => z) z (fun _ _ _ _ => z) v
def funC {β : Type} (v : AV) (k : Nat → List AV → β) (y : Pos → β) (z : β) : β :=
  AV.rec (motive_1 := fun _ => β) (motive_2 := fun _ => β) (fun _ => z) (fun _ _ => z) (fun _ => z) z (fun _ _ => z) (fun _ _ => z) z (fun _ _ _ _ _ _ => z) z (fun _ => z) (fun f c _ => k f c) z y (fun _ _ _ => z) z (fun _ _ => z) (fun _ _ => z) z (fun _ _ _ _ => z) v
def tupC {β : Type} (v : AV) (k : List AV → β) (z : β) : β :=
  AV.rec (motive_1 := fun _ => β) (motive_2 := fun _ => β) (fun _ => z) (fun _ _ => z) (fun _ => z) z (fun _ _ => z) (fun _ _ => z) z (fun _ _ _ _ _ _ => z) z (fun _ => z) (fun _ _ _ => z) z (fun _ => z) (fun _ _ _ => z) z (fun _ _ => z) (fun l _ => k l) z (fun _ _ _ _ => z) v
def ifaceC {β : Type} (v : AV) (k : β) (z : β) : β :=
  AV.rec (motive_1 := fun _ => β) (motive_2 := fun _ => β) (fun _ => z) (fun _ _ => z) (fun _ => z) z (fun _ _ => z) (fun _ _ => z) z (fun _ _ _ _ _ _ => z) z (fun _ => z) (fun _ _ _ => z) z (fun _ => z) (fun _ _ _ => k) z (fun _ _ => z) (fun _ _ => z) z (fun _ _ _ _ => z) v
def cellsC {β : Type} (o : Obj) (k : List AV → β) (z : β) : β :=
  Obj.rec (motive := fun _ => β) (fun l _ _ _ _ => k l) (fun _ => z) (fun _ => z) (fun _ => z) (fun _ _ => z) (fun _ _ _ => z) (fun _ _ _ => z) (fun _ _ _ _ _ _ _ _ => z) (fun _ => z) o
def isKB (k : IntKind) : Box (IntKind → Bool) :=
  match k with
  | .i8 => ⟨fun x => IntKind.rec (motive := fun _ => Bool) true false false false false false false false x⟩
  | .i16 => ⟨fun x => IntKind.rec (motive := fun _ => Bool) false true false false false false false false x⟩
  | .i32 => ⟨fun x => IntKind.rec (motive := fun _ => Bool) false false true false false false false false x⟩
  | .i64 => ⟨fun x => IntKind.rec (motive := fun _ => Bool) false false false true false false false false x⟩
  | .u8 => ⟨fun x => IntKind.rec (motive := fun _ => Bool) false false false false true false false false x⟩
  | .u16 => ⟨fun x => IntKind.rec (motive := fun _ => Bool) false false false false false true false false x⟩
  | .u32 => ⟨fun x => IntKind.rec (motive := fun _ => Bool) false false false false false false true false x⟩
  | .u64 => ⟨fun x => IntKind.rec (motive := fun _ => Bool) false false false false false false false true x⟩
def updB {α : Type} (i : Nat) : Box ((α → α) → N8 α → N8 α) :=
  match i with
  | 0 => ⟨fun u t => N8.rec (motive := fun _ => N8 α) (fun a b c d e f g h => ⟨u a, b, c, d, e, f, g, h⟩) t⟩
  | 1 => ⟨fun u t => N8.rec (motive := fun _ => N8 α) (fun a b c d e f g h => ⟨a, u b, c, d, e, f, g, h⟩) t⟩
  | 2 => ⟨fun u t => N8.rec (motive := fun _ => N8 α) (fun a b c d e f g h => ⟨a, b, u c, d, e, f, g, h⟩) t⟩
  | 3 => ⟨fun u t => N8.rec (motive := fun _ => N8 α) (fun a b c d e f g h => ⟨a, b, c, u d, e, f, g, h⟩) t⟩
  | 4 => ⟨fun u t => N8.rec (motive := fun _ => N8 α) (fun a b c d e f g h => ⟨a, b, c, d, u e, f, g, h⟩) t⟩
  | 5 => ⟨fun u t => N8.rec (motive := fun _ => N8 α) (fun a b c d e f g h => ⟨a, b, c, d, e, u f, g, h⟩) t⟩
  | 6 => ⟨fun u t => N8.rec (motive := fun _ => N8 α) (fun a b c d e f g h => ⟨a, b, c, d, e, f, u g, h⟩) t⟩
  | _ => ⟨fun u t => N8.rec (motive := fun _ => N8 α) (fun a b c d e f g h => ⟨a, b, c, d, e, f, g, u h⟩) t⟩
def crC (r : CR) (kv kp : AV → Heap → Pos → R) : R := CR.rec (motive := fun _ => R) kv kp r
def appR (a b : R) : R := ob a fun x => ob b fun y => some (appL x y)
/-- On with each of these. -/
def mapL {α : Type} (k : α → R) (l : List α) : R :=
  List.rec (motive := fun _ => R) (some []) (fun r t ih => List.rec (motive := fun _ => R) (k r) (fun _ _ _ => appR (k r) ih) t) l
/-- A loop, so many rounds at most. -/
def iterC (body : Cd) (n : Nat) : Cd :=
  Nat.rec (motive := fun _ => Cd) (fun _ _ _ _ _ _ _ => none) (fun _ ih c tm df h nx kn kx => body c tm df h nx (fun tm df h nx => ih c tm df h nx kn kx) kx) n
def fuelC {α : Type} (z : α) (s : α → α) (n : Nat) : α := Nat.rec (motive := fun _ => α) z (fun _ ih => s ih) n
def dfC {β : Type} (l : List Df) (z : β) (kc : Nat → List AV → List Df → β) (km : Pos → List Df → β) : β :=
  List.rec (motive := fun _ => β) z (fun d ds _ => Df.rec (motive := fun _ => β) (fun f as => kc f as ds) (fun b => km b ds) d) l
/-! Values are brought into one form: equal ones are then the same term. -/
def forceN {β : Type} (n : Nat) (k : Nat → β) : β := Nat.rec (motive := fun _ => β) (k 0) (fun m _ => k (Nat.succ m)) n
def forceB {β : Type} (b : Bool) (k : Bool → β) : β := Bool.rec (motive := fun _ => β) (k false) (k true) b
def forceI {β : Type} (n : Int) (k : Int → β) : β := Int.rec (motive := fun _ => β) (fun n => forceN n fun n => k (.ofNat n)) (fun n => forceN n fun n => k (.negSucc n)) n
def forceK {β : Type} (q : IntKind) (k : IntKind → β) : β := IntKind.rec (motive := fun _ => β) (k .i8) (k .i16) (k .i32) (k .i64) (k .u8) (k .u16) (k .u32) (k .u64) q
def forceNs {β : Type} (l : List Nat) : (List Nat → β) → β := List.rec (motive := fun _ => (List Nat → β) → β) (fun k => k []) (fun x _ ih k => forceN x fun x => ih fun t => k (x :: t)) l
def forceP {β : Type} (p : Pos) : (Pos → β) → β := Pos.rec (motive := fun _ => (Pos → β) → β) (fun k => k .h) (fun _ ih k => ih fun p => k (.o p)) (fun _ ih k => ih fun p => k (.i p)) p
def forceV {β : Type} (v : AV) : (AV → β) → β :=
  AV.rec (motive_1 := fun _ => (AV → β) → β) (motive_2 := fun _ => (List AV → β) → β)
    (fun b k => forceB b fun b => k (.bool b)) (fun q n k => forceK q fun q => forceI n fun n => k (.int q n)) (fun s k => forceNs s fun s => k (.str s)) (fun k => k .nilptr)
    (fun p o k => forceP p fun p => forceN o fun o => k (.ptr p o)) (fun g o k => forceN g fun g => forceN o fun o => k (.gptr g o)) (fun k => k .nilslice)
    (fun p o n c z e k => forceP p fun p => forceN o fun o => forceN n fun n => forceN c fun c => forceN z fun z => forceB e fun e => k (.slice p o n c z e)) (fun k => k .nilmap) (fun p k => forceP p fun p => k (.map p))
    (fun f _ ih k => forceN f fun f => ih fun c => k (.func f c)) (fun k => k .nilfunc) (fun p k => forceP p fun p => k (.yield p)) (fun t _ ih k => forceN t fun t => ih fun v => k (.iface t v)) (fun k => k .nilIface)
    (fun _ ih k => ih fun l => k (.agg l)) (fun _ ih k => ih fun l => k (.tuple l)) (fun k => k []) (fun _ _ ih ihl k => ih fun v => ihl fun l => k (v :: l)) v
def forceVs {β : Type} (l : List AV) : (List AV → β) → β := List.rec (motive := fun _ => (List AV → β) → β) (fun k => k []) (fun v _ ih k => forceV v fun v => ih fun t => k (v :: t)) l
def forceEs {β : Type} (l : List (AV × AV)) : (List (AV × AV) → β) → β := List.rec (motive := fun _ => (List (AV × AV) → β) → β) (fun k => k []) (fun e _ ih k => forceV e.1 fun a => forceV e.2 fun b => ih fun t => k ((a, b) :: t)) l
def forceO {β : Type} (o : Obj) (k : Obj → β) : β :=
  match o with
  | .cells l a b c e => forceVs l fun l => forceB a fun a => forceB b fun b => forceB c fun c => forceN e fun e => k (.cells l a b c e)
  | .map es => forceEs es fun es => k (.map es)
  | .umap es => forceEs es fun es => k (.umap es)
  | .rmap es => forceEs es fun es => k (.rmap es)
  | o => k o
def forceS {β : Type} (l : List (Pos × Obj)) : (List (Pos × Obj) → β) → β := List.rec (motive := fun _ => (List (Pos × Obj) → β) → β) (fun k => k []) (fun e _ ih k => forceP e.1 fun p => forceO e.2 fun o => ih fun t => k ((p, o) :: t)) l
end Go.AM
end
noncomputable section
namespace Go.AM

/-! ### Temporaries -/
def selB {α : Type} (i : Nat) : Box (N8 α → α) :=
  match i with
  | 0 => ⟨fun t => t.s0⟩ | 1 => ⟨fun t => t.s1⟩ | 2 => ⟨fun t => t.s2⟩ | 3 => ⟨fun t => t.s3⟩ | 4 => ⟨fun t => t.s4⟩ | 5 => ⟨fun t => t.s5⟩ | 6 => ⟨fun t => t.s6⟩ | _ => ⟨fun t => t.s7⟩
def getB (t : Nat) : Box (Slots → AV) :=
  unB (selB (Nat.div t 64)) fun f => unB (selB (Nat.mod (Nat.div t 8) 8)) fun g => unB (selB (Nat.mod t 8)) fun h => ⟨fun x => h (g (f x))⟩
def setB (t : Nat) : Box (AV → Slots → Slots) :=
  unB (updB (Nat.div t 64)) fun f => unB (updB (Nat.mod (Nat.div t 8) 8)) fun g => unB (updB (Nat.mod t 8)) fun h => ⟨fun v x => f (g (h (fun _ => v))) x⟩
def nthB : Nat → Box (L → AV)
  | 0 => ⟨fun l => hdL l⟩
  | n + 1 => unB (nthB n) fun f => ⟨fun l => f (tlL l)⟩
def idxOf (t : Nat) : List Tmp → Nat → Option Nat
  | [], _ => none
  | u :: l, i => bb (Nat.beq t u) (some i) (idxOf t l (Nat.succ i))
def rdB (W nt : Nat) (nm : List Tmp) (x : Operand) : Option (Box Rd) :=
  match x with
  | .tmp t => (match idxOf t nm 0 with
    | some i => unB (nthB i) fun f => some ⟨fun l _ => f l⟩
    | none => bb (kept W t) (bb (Nat.ble (Nat.succ t) nt) (unB (getB t) fun f => some ⟨fun _ tm => f tm⟩) none) none)
  | .const v => match constA v with | some a => some ⟨fun _ _ => a⟩ | none => none
  | .global g => some ⟨fun _ _ => .gptr g 0⟩
  | .func f => some ⟨fun _ _ => .func f []⟩
def rho (W nt : Nat) (nm : List Tmp) (l : L) (tm : Slots) : Rho := fun x => match rdB W nt nm x with | some b => some (b.f l tm) | none => none
def rdsB (W nt : Nat) (nm : List Tmp) : List Operand → Option (Box (L → Slots → List AV))
  | [] => some ⟨fun _ _ => []⟩
  | x :: r => match rdB W nt nm x, rdsB W nt nm r with | some ⟨f⟩, some ⟨g⟩ => some ⟨fun l tm => f l tm :: g l tm⟩ | _, _ => none

/-! ### Quiet operations that are met often -/
def fastInt (op : BinOp) (k : IntKind) : Option (Box (Nat → Nat → AV)) :=
  match op with
  | .add => some ⟨fun m n => bb (Nat.ble (limA k) (Nat.add m n)) (.int k (k.wrap (.ofNat (Nat.add m n)))) (.int k (.ofNat (Nat.add m n)))⟩
  | .lss => some ⟨fun m n => .bool (Nat.ble (Nat.succ m) n)⟩
  | .leq => some ⟨fun m n => .bool (Nat.ble m n)⟩
  | .gtr => some ⟨fun m n => .bool (Nat.ble (Nat.succ n) m)⟩
  | .geq => some ⟨fun m n => .bool (Nat.ble n m)⟩
  | .eql => some ⟨fun m n => .bool (Nat.beq m n)⟩
  | .neq => some ⟨fun m n => .bool (bb (Nat.beq m n) false true)⟩
  | _ => none
def binB (k : IntKind) (op : BinOp) (f g : Rd) : Box Q :=
  unB (isKB k) fun isk =>
  match op with
  | .shl | .shr => ⟨fun l tm _ => intC (f l tm) (fun p m => intC (g l tm) (fun _ n => binInt op p m n) none) none⟩
  | _ => match fastInt op k with
    | some ⟨z⟩ => ⟨fun l tm _ => intC (f l tm) (fun p m => intC (g l tm) (fun q n => bb (isk p) (bb (isk q) (natC m (fun a => natC n (fun b => some (z a b)) (binInt op p m n)) (binInt op p m n)) none) none) none) none⟩
    | none => ⟨fun l tm _ => intC (f l tm) (fun p m => intC (g l tm) (fun q n => bb (isk p) (bb (isk q) (binInt op p m n) none) none) none) none⟩
def rd1 {β : Type} (W nt : Nat) (nm : List Tmp) (x : Operand) (k : Rd → Option β) : Option β := match rdB W nt nm x with | some ⟨f⟩ => k f | none => none
def rd2 {β : Type} (W nt : Nat) (nm : List Tmp) (x y : Operand) (k : Rd → Rd → Option β) : Option β := rd1 W nt nm x fun f => rd1 W nt nm y fun g => k f g
def quietB (E : Env) (W nt : Nat) (nm : List Tmp) (op : Op) : Option (Box Q) :=
  match op with
  | .move x | .assign x => rd1 W nt nm x fun f => some ⟨fun l tm _ => some (f l tm)⟩
  | .pick c a b => rd1 W nt nm c fun f => rd2 W nt nm a b fun g h => some ⟨fun l tm _ => boolC (f l tm) (fun t => some (bb t (g l tm) (h l tm))) none⟩
  | .load t x => rd1 W nt nm x fun f => (match E.ty t with
    | some i => some ⟨fun l tm h => ptrC (f l tm) (fun b o => ob (Tr.get b h) fun ob' => cellsC ob' (fun cs => ofCells i.agg i.size (dropL o cs)) none) (fun g o => ob (E.gl g) fun cs => ofCells i.agg i.size (dropL o cs)) none⟩
    | none => none)
  | .nilCheck x => rd1 W nt nm x fun f => some ⟨fun l tm _ => ptrC (f l tm) (fun b o => some (.ptr b o)) (fun g o => some (.gptr g o)) none⟩
  | .binOp op t x y _ => (match E.ty t with
    | some { desc := .int k, .. } => rd2 W nt nm x y fun f g => some (binB k op f g)
    | _ => some ⟨fun l tm h => quietA E (rho W nt nm l tm) h (.binOp op t x y t)⟩)
  | .fieldAddr s x f => rd1 W nt nm x fun g => (match E.ty s with
    | some { desc := .struct fs, .. } => (match nth? fs f with
      | some (off, t) => (match E.ty t with
        | some j => if Nat.beq j.size 0 then none else some ⟨fun l tm _ => ptrC (g l tm) (fun b o => some (.ptr b (Nat.add o off))) (fun b o => some (.gptr b (Nat.add o off))) none⟩
        | none => none)
      | none => none)
    | _ => none)
  | .extract x i => rd1 W nt nm x fun f => some ⟨fun l tm _ => tupC (f l tm) (fun r => nth? r i) none⟩
  | op => some ⟨fun l tm h => quietA E (rho W nt nm l tm) h op⟩

/-! ### Operations -/
inductive Kind where
  | quiet | alloc | eff | call | defer | panic | bad
def toBytes (E : Env) (src dst : TypeId) : Bool :=
  match E.ty src, E.ty dst with
  | some { desc := .str, .. }, some { desc := .slice _, .. } => true
  | _, _ => false
def kindOf (E : Env) (op : Op) : Kind :=
  match op with
  | .alloc _ | .box _ _ | .buildSlice _ _ _ | .makeMap _ _ | .makeSlice _ _ _ => .alloc
  | .store _ _ _ | .mapUpdate _ _ _ _ | .insert _ _ _ _ | .mapEntry _ _ _ | .entryStore _ _ _ _ | .range _ _ | .next _ _ | .entry _ => .eff
  | .call c => (match c.callee with
    | .value _ => .call
    | .invoke _ _ => .bad
    | .builtin b => (match b with | .append | .copy | .unsafeString => .eff | .recover => .bad | _ => .quiet))
  | .defer _ => .defer
  | .panic _ => .panic
  | .convert src dst _ => if toBytes E src dst then .alloc else .quiet
  | .go _ | .send _ _ | .recv _ _ _ | .select _ _ | .ready _ | .waits _ | .sliceToArrayPointer _ _ | .makeChan _ _ => .bad
  | _ => .quiet

/-- What is known where code is compiled: the temporaries with a slot, how many there are, what a panic leads to, whether it is a round's code. -/
structure Cx where
  E : Env
  W : Nat
  nt : Nat
  pe : FC → AV → K
  rd : Bool

def fnOf : Operand → Option Nat
  | .func f => some f
  | _ => none
/-- The tag of a function without a body. -/
def extOf (E : Env) (x : Operand) : Option (Func × Nat) :=
  match fnOf x with
  | some f => (match E.fn f, Tr.get (Pos.ofNat f) E.exts with | some fn, some tag => some (fn, tag) | _, _ => none)
  | none => none
def operB (cx : Cx) (nm : List Tmp) (op : Op) (fc : VC) : Option (Box Rg) :=
  match kindOf cx.E op with
  | .quiet => (match quietB cx.E cx.W cx.nt nm op with
    | some ⟨q⟩ => some ⟨fun c l tm df h nx k => ob (q l tm h) fun v => fc c v l tm df h nx k⟩
    | none => none)
  | .alloc => some ⟨fun c l tm df h nx k => ob (allocA cx.E (rho cx.W cx.nt nm l tm) op) fun p => fc c (p.2 nx) l tm df (Tr.set (some p.1) nx h) (Pos.succ nx) k⟩
  | .eff => some ⟨fun c l tm df h nx k => ob (effA cx.E (rho cx.W cx.nt nm l tm) h nx op) (mapL fun r => fc c r.1 l tm df r.2.1 r.2.2 k)⟩
  | .call => (match op with
    | .call { callee := .value f, args, .. } => (match extOf cx.E f with
      | some (fn, tag) => (match rdsB cx.W cx.nt nm args.toList with
        | some ⟨as⟩ => some ⟨fun c l tm df h nx k => ob (extA cx.E fn tag (as l tm) h nx) (mapL fun r => fc c r.1 l tm df r.2.1 r.2.2 k)⟩
        | none => none)
      | none => (match rdB cx.W cx.nt nm f, rdsB cx.W cx.nt nm args.toList with
        | some ⟨g⟩, some ⟨as⟩ => some ⟨fun c l tm df h nx k => ob (c (g l tm) (as l tm) h nx) (mapL fun r => crC r (fun v h nx => fc c v l tm df h nx k) (fun v h nx => cx.pe c v tm df h nx))⟩
        | _, _ => none))
    | _ => none)
  | .defer => (match op with
    | .defer { callee := .value f, args, .. } => if cx.rd then none else (match rdB cx.W cx.nt nm f, rdsB cx.W cx.nt nm args.toList with
      | some ⟨g⟩, some ⟨as⟩ => some ⟨fun c l tm df h nx k => funC (g l tm) (fun f cap => fc c AV.undef l tm (.call f (appL (as l tm) cap) :: df) h nx k) (fun _ => none) none⟩
      | _, _ => none)
    | _ => none)
  | .panic => (match op with
    | .panic x => (match rdB cx.W cx.nt nm x with
      | some ⟨f⟩ => some ⟨fun c l tm df h nx _ => ifaceC (f l tm) (cx.pe c (f l tm) tm df h nx) none⟩
      | none => none)
    | _ => none)
  | .bad => none

/-! ### Regions -/
def namesOf (nm : List Tmp) (dst : Option Tmp) : List Tmp := match dst with | none => nm | some d => d :: nm
def contB (cx : Cx) (dst : Option Tmp) (fr : Rg) : Option (Box VC) :=
  match dst with
  | none => some ⟨fun c _ l tm df h nx k => fr c l tm df h nx k⟩
  | some d => bb (Nat.ble (Nat.succ d) cx.nt) (bb (kept cx.W d) (unB (setB d) fun s => some ⟨fun c v l tm df h nx k => fr c (v :: l) (s v tm) df h nx k⟩) (some ⟨fun c v l tm df h nx k => fr c (v :: l) tm df h nx k⟩)) none
def guardB (cx : Cx) (all : List Oper) (nm : List Tmp) (gd : Option (Nat × Bool)) (g : Rg) (fc : VC) : Option (Box Rg) :=
  match gd with
  | none => some ⟨g⟩
  | some (j, want) => (match nth? all j with
    | some oj => (match oj.dst with
      | some d => (match rdB cx.W cx.nt nm (.tmp d) with
        | some ⟨f⟩ => some ⟨fun c l tm df h nx k => boolC (f l tm) (fun b => bb (match want with | true => b | false => bb b false true) (g c l tm df h nx k) (fc c AV.undef l tm df h nx k)) (fc c AV.undef l tm df h nx k)⟩
        | none => none)
      | none => none)
    | none => none)
def stepB (cx : Cx) (all : List Oper) (nm : List Tmp) (o : Oper) (fr : Rg) : Option (Box Rg) :=
  match contB cx o.dst fr with
  | some ⟨fc⟩ => (match operB cx nm o.op fc with
    | some ⟨g⟩ => guardB cx all nm o.guard g fc
    | none => none)
  | none => none
def opsB (cx : Cx) (all : List Oper) : List Oper → List Tmp → Option (Box Rg)
  | [], _ => some ⟨fun _ _ tm df h nx k => k tm df h nx⟩
  | o :: r, nm => match opsB cx all r (namesOf nm o.dst) with
    | some ⟨fr⟩ => stepB cx all nm o fr
    | none => none

/-! ### Regions that draw their order -/
def lightK : Kind → Bool
  | .quiet | .alloc => true
  | _ => false
def bitN (t : Nat) : Nat := Nat.shiftLeft 1 t
/-- What an operation waits for, in text or gc order alike. -/
def waitsL : List Edge → Nat → Nat
  | [], m => m
  | e :: l, m => waitsL l (bb (Region.binds .any e) (Nat.lor m (bitN e.on)) m)
def waitsM (o : Oper) : Nat := waitsL o.after.toList 0
def allIn (w A : Nat) : Bool := Nat.beq (Nat.land w A) w
/-- All that must be ahead of it. -/
def ancL (acc : List Nat) : List Edge → Nat → Nat
  | [], m => m
  | e :: l, m => ancL acc l (bb (Region.binds .any e) (Nat.lor m (Nat.lor (bitN e.on) (nth 0 acc e.on))) m)
def ancs : List Oper → List Nat → List Nat
  | [], acc => acc
  | o :: r, acc => ancs r (appL acc [ancL acc o.after.toList 0])
def tmpsM : List Operand → Nat → Nat
  | [], m => m
  | x :: l, m => tmpsM l (match x with | .tmp t => Nat.lor m (bitN t) | _ => m)
/-- The temporaries that an operation looks at. -/
def looksM (all : List Oper) (o : Oper) : Nat :=
  tmpsM o.op.operands.toList (match o.guard with
  | none => 0
  | some (j, _) => (match nth? all j with
    | some oj => (match oj.dst with | some d => bitN d | none => 0)
    | none => 0))
/-- .. or writes. -/
def mindsM (all : List Oper) (o : Oper) : Nat := match o.dst with | some d => Nat.lor (looksM all o) (bitN d) | none => looksM all o
def mindsL (all : List Oper) : List Oper → List Nat
  | [] => []
  | o :: r => mindsM all o :: mindsL all r
/-- Whoever minds what i writes waits for it. -/
def apartL (i d : Nat) : List Nat → List Nat → Nat → Bool
  | [], [], _ => true
  | m :: ms, a :: an, j => bb (bb (Nat.beq i j) true (bb (kept m d) (kept a i) true)) (apartL i d ms an (Nat.succ j)) false
  | _, _, _ => false
/-- Whoever minds what i writes waits for it, or is waited for. -/
def apartAll (i ai d : Nat) : List Nat → List Nat → Nat → Bool
  | [], [], _ => true
  | m :: ms, a :: an, j => bb (bb (Nat.beq i j) true (bb (kept m d) (bb (kept a i) true (kept ai j)) true)) (apartAll i ai d ms an (Nat.succ j)) false
  | _, _, _ => false
/-- An operation: its place, what it waits for, what must be ahead of it, whether it may come as soon as what it waits for is there, and again. -/
structure Itm where
  i : Nat
  o : Oper
  w : Nat
  an : Nat
  li : Bool
def itms (E : Env) (all : List Oper) (an ms : List Nat) : List Oper → List Nat → Nat → Option (List Itm)
  | [], [], _ => some []
  | o :: r, a :: ar, i => (match itms E all an ms r ar (Nat.succ i) with
    | some l => bb (bb (Nat.ble (bitN i) (waitsM o)) false (match o.dst with | some d => apartAll i a d ms an 0 | none => true))
        (bb (match o.guard with | some (j, _) => kept (waitsM o) j | none => true)
          (some ({ i, o, w := waitsM o, an := a, li := bb (lightK (kindOf E o.op)) (match o.dst with | some d => bb (kept (looksM all o) d) false (apartL i d ms an 0) | none => true) false } :: l)) none) none
    | none => none)
  | _, _, _ => none
def nextLight (A : Nat) : List Itm → Option Itm
  | [] => none
  | t :: r => bb (bb (kept A t.i) false (bb t.li (allIn t.w A) false)) (some t) (nextLight A r)
def readyHeavy (A : Nat) : List Itm → List Itm
  | [] => []
  | t :: r => bb (bb (kept A t.i) false (allIn t.w A)) (t :: readyHeavy A r) (readyHeavy A r)
def fullN (A : Nat) : List Itm → Bool
  | [] => true
  | t :: r => bb (kept A t.i) (fullN A r) false
mutual
/-- Are they the same to the sign? -/
def eqV : AV → AV → Bool
  | .bool a, .bool b => (match a, b with | true, true | false, false => true | _, _ => false)
  | .int j a, .int k b => kindEq j k && intEq a b
  | .str a, .str b => eqN a b
  | .nilptr, .nilptr | .nilslice, .nilslice | .nilmap, .nilmap | .nilfunc, .nilfunc | .nilIface, .nilIface => true
  | .ptr p o, .ptr q u => Pos.beq p q && Nat.beq o u
  | .gptr p o, .gptr q u => Nat.beq p q && Nat.beq o u
  | .slice p o n c s e, .slice p' o' n' c' s' e' => Pos.beq p p' && Nat.beq o o' && Nat.beq n n' && Nat.beq c c' && Nat.beq s s' && (match e, e' with | true, true | false, false => true | _, _ => false)
  | .map p, .map q => Pos.beq p q
  | .func f c, .func g d => Nat.beq f g && eqVs c d
  | .iface t v, .iface u x => Nat.beq t u && eqV v x
  | .agg l, .agg m => eqVs l m
  | .tuple l, .tuple m => eqVs l m
  | _, _ => false
def eqVs : List AV → List AV → Bool
  | [], [] => true
  | x :: l, y :: m => eqV x y && eqVs l m
  | _, _ => false
end
/-- A quiet operation that may be behind in the model: it still gives what it gave. -/
def againB (cx : Cx) (all : List Oper) (nm : List Tmp) (o : Oper) (fr : Rg) : Option (Box Rg) :=
  match kindOf cx.E o.op with
  | .quiet => (match quietB cx.E cx.W cx.nt nm o.op with
    | some ⟨q⟩ => (match o.dst with
      | none => guardB cx all nm o.guard (fun c l tm df h nx k => ob (q l tm h) fun _ => fr c l tm df h nx k) (fun c _ l tm df h nx k => fr c l tm df h nx k)
      | some d => (match rdB cx.W cx.nt nm (.tmp d) with
        | some ⟨f⟩ => guardB cx all nm o.guard (fun c l tm df h nx k => ob (q l tm h) fun v => bb (eqV v (f l tm)) (fr c l tm df h nx k) none) (fun c _ l tm df h nx k => fr c l tm df h nx k)
        | none => none))
    | none => none)
  | _ => some ⟨fr⟩
/-- All of these that no effect so far has waited for. -/
def againsB (cx : Cx) (all : List Oper) (nm : List Tmp) (A must : Nat) (fr : Rg) : List Itm → Option (Box Rg)
  | [] => some ⟨fr⟩
  | t :: r => (match againsB cx all nm A must fr r with
    | some ⟨g⟩ => bb (bb (kept A t.i) (bb t.li (bb (kept must t.i) false true) false) false) (againB cx all nm t.o g) (some ⟨g⟩)
    | none => none)
mutual
def drawB (cx : Cx) (all : List Oper) (its : List Itm) : Nat → Nat → Nat → List Tmp → Option (Box Rg)
  | 0, _, _, _ => none
  | n + 1, A, must, nm => match nextLight A its with
    | some t => (match drawB cx all its n (Nat.lor A (bitN t.i)) must (namesOf nm t.o.dst) with
      | some ⟨fr⟩ => stepB cx all nm t.o fr
      | none => none)
    | none => (match readyHeavy A its with
      | [] => bb (fullN A its) (some ⟨fun _ _ tm df h nx k => k tm df h nx⟩) none
      | l => altsB cx all its n A must nm l)
def altsB (cx : Cx) (all : List Oper) (its : List Itm) : Nat → Nat → Nat → List Tmp → List Itm → Option (Box Rg)
  | _, _, _, _, [] => none
  | 0, _, _, _, _ => none
  | n + 1, A, must, nm, t :: r => (match drawB cx all its n (Nat.lor A (bitN t.i)) (Nat.lor (bitN t.i) (Nat.lor t.an must)) (namesOf nm t.o.dst) with
    | some ⟨fr⟩ => (match againsB cx all (namesOf nm t.o.dst) A (Nat.lor (bitN t.i) (Nat.lor t.an must)) fr its with
      | some ⟨fr'⟩ => (match stepB cx all nm t.o fr' with
        | some ⟨g⟩ => (match r with
          | [] => some ⟨g⟩
          | _ => (match altsB cx all its n A must nm r with
            | some ⟨g'⟩ => some ⟨fun c l tm df h nx k => appR (g c l tm df h nx k) (g' c l tm df h nx k)⟩
            | none => none))
        | none => none)
      | none => none)
    | none => none)
end
/-- A panic out of such a region: only where no call is deferred: a deferred one may see temporaries that lag behind. -/
def bareP (pe : FC → AV → K) : FC → AV → K := fun c v tm df h nx => dfC df (pe c v tm [] h nx) (fun _ _ _ => none) (fun _ _ => none)
def drawnB (cx : Cx) (all : List Oper) : Option (Box Rg) :=
  match itms cx.E all (ancs all []) (mindsL all all) all (ancs all []) 0 with
  | some its => drawB { E := cx.E, W := cx.W, nt := cx.nt, pe := bareP cx.pe, rd := cx.rd } all its (Nat.mul 3 (Nat.succ (lenL all 0))) 0 0 []
  | none => none

/-! ### Code -/
def gotoB (kx : KX) (kn : K) (j : Option Code) : K :=
  match j with
  | none => kn
  | some .ret => kx 0
  | some (.exit id) => kx (Nat.succ id)
  | _ => fun _ _ _ _ => none
def psOk (W nt : Nat) : List Tmp → Bool
  | [] => true
  | p :: ps => if kept W p && Nat.blt p nt then psOk W nt ps else false
def codeB (cx : Cx) : Code → Option (Box Cd)
  | .skip | .label _ => some ⟨fun _ tm df h nx kn _ => kn tm df h nx⟩
  | .region _ ops false => (match opsB cx ops.toList ops.toList [] with | some ⟨f⟩ => some ⟨fun c tm df h nx kn _ => f c [] tm df h nx kn⟩ | none => none)
  | .region _ ops true => (match drawnB cx ops.toList with | some ⟨f⟩ => some ⟨fun c tm df h nx kn _ => f c [] tm df h nx kn⟩ | none => none)
  | .seq a b => (match codeB cx a, codeB cx b with | some ⟨fa⟩, some ⟨fb⟩ => some ⟨fun c tm df h nx kn kx => fa c tm df h nx (fun tm df h nx => fb c tm df h nx kn kx) kx⟩ | _, _ => none)
  | .cond x a b => (match rdB cx.W cx.nt [] x, codeB cx a, codeB cx b with | some ⟨f⟩, some ⟨fa⟩, some ⟨fb⟩ => some ⟨fun c tm df h nx kn kx => boolC (f [] tm) (fun t => bb t (fa c tm df h nx kn kx) (fb c tm df h nx kn kx)) none⟩ | _, _, _ => none)
  | .block id b => (match codeB cx b with | some ⟨fb⟩ => some ⟨fun c tm df h nx kn kx => fb c tm df h nx kn (fun e => bb (Nat.beq e (Nat.succ id)) kn (kx e))⟩ | none => none)
  | .loop b => (match codeB cx b with | some ⟨fb⟩ => some ⟨fun c tm df h nx kn kx => iterC fb 1000000 c tm df h nx kn kx⟩ | none => none)
  | .exit id => some ⟨fun _ tm df h nx _ kx => kx (Nat.succ id) tm df h nx⟩
  | .ret => some ⟨fun _ tm df h nx _ kx => kx 0 tm df h nx⟩
  | .rangeFunc f ps as_ bd => if cx.rd then none else if psOk cx.W cx.nt ps.toList then (match rdB cx.W cx.nt [] f with
    | some ⟨g⟩ => some ⟨fun c tm df h nx kn kx => funC (g [] tm) (fun _ _ =>
        ob (c (g [] tm) [.yield (Pos.succ nx)] (Tr.set (some (.loop .ready none cx.W cx.nt tm ps.toList as_ bd)) (Pos.succ nx) (Tr.set (some (.deferred false)) nx h)) (Pos.succ (Pos.succ nx)))
          (mapL fun r => crC r
            (fun _ h' nx' => match Tr.get (Pos.succ nx) h' with
              | some (.loop .busy ..) => none
              | some (.loop _ p W nt tm' ps' a' b') => gotoB kx kn p tm (.collected nx :: df) (Tr.set (some (.loop .exhausted p W nt tm' ps' a' b')) (Pos.succ nx) h') nx'
              | _ => none)
            (fun v h' nx' => cx.pe c v tm (.collected nx :: df) h' nx'))) (fun _ => none) none⟩
    | none => none) else none
  | .scope _ | .goto _ | .refuse _ => some ⟨fun _ _ _ _ _ _ _ => none⟩

/-! ### Which temporaries have a slot -/
def useO (D W : Nat) : Operand → Nat
  | .tmp t => bb (kept D t) W (Nat.lor W (bitN t))
  | _ => W
def useOs (D : Nat) : List Operand → Nat → Nat
  | [], W => W
  | x :: l, W => useOs D l (useO D W x)
def useG (all : List Oper) (D W : Nat) : Option (Nat × Bool) → Nat
  | none => W
  | some (j, _) => match nth? all j with | some o => (match o.dst with | some d => bb (kept D d) W (Nat.lor W (bitN d)) | none => W) | none => W
def useR (all : List Oper) : List Oper → Nat → Nat → Nat
  | [], _, W => W
  | o :: l, D, W => useR all l (match o.dst with | some d => Nat.lor D (bitN d) | none => D) (useG all D (useOs D o.op.operands.toList W) o.guard)
def useC : Code → Nat → Nat
  | .region _ ops _, W => useR ops.toList ops.toList 0 W
  | .seq a b, W | .rangeFunc _ _ a b, W => useC b (useC a W)
  | .cond x a b, W => useC b (useC a (useO 0 W x))
  | .block _ b, W | .loop b, W | .scope b, W => useC b W
  | _, W => W
def useF : Code → Nat → Nat
  | .rangeFunc f ps a b, W => useF b (useF a (ps.toList.foldl (fun W p => Nat.lor W (bitN p)) (useO 0 W f)))
  | .seq a b, W => useF b (useF a W)
  | .cond _ a b, W => useF b (useF a W)
  | .block _ b, W | .loop b, W | .scope b, W => useF b W
  | _, W => W
def useRes : List ResultVar → Nat → Nat
  | [], W => W
  | .tmp t :: l, W | .cell t _ :: l, W => useRes l (Nat.lor W (bitN t))
def wOf (fn : Func) (c : Code) : Nat := useRes fn.results.toList (useF c (useC c 0))

/-! ### Functions -/
def slots0 : Slots := N8.all (N8.all (N8.all AV.undef))
def argT : List AV → Nat → Slots → Slots
  | [], _, t => t
  | v :: l, n, t => argT l (Nat.succ n) (unB (setB n) fun s => s v t)
def resB (E : Env) (W nt : Nat) : List ResultVar → Option (Box (Slots → Heap → Option (List AV)))
  | [] => some ⟨fun _ _ => some []⟩
  | .tmp t :: l => (match rdB W nt [] (.tmp t), resB E W nt l with
    | some ⟨f⟩, some ⟨g⟩ => some ⟨fun tm h => ob (g tm h) fun r => some (f [] tm :: r)⟩
    | _, _ => none)
  | .cell a t :: l => (match rdB W nt [] (.tmp a), resB E W nt l with
    | some ⟨f⟩, some ⟨g⟩ => some ⟨fun tm h => ob (loadA E h t (f [] tm)) fun v => ob (g tm h) fun r => some (v :: r)⟩
    | _, _ => none)
def oneOf (l : List AV) : AV := match l with | [v] => v | l => .tuple l

/-- What a frame is at. -/
inductive Md where
  | returning
  | panicking (v : AV) (recovered : Bool)

/-- A deferred function: it recovers first of all, if it does. -/
abbrev Sd := FC → Md → Heap → Pos → List AV → (Md → Heap → Pos → R) → R
def endD (md : Md) (k : Md → Heap → Pos → R) : K := fun _ df h nx => dfC df (k md h nx) (fun _ _ _ => none) (fun _ _ => none)
def settleM : Md → Md
  | .panicking _ true => .returning
  | m => m
/-- Code whose first operation recovers. -/
def headRec : Code → Option (Option Tmp × List Oper × List Oper × Code)
  | .seq a b => (match headRec a with
    | some (d, r, all, c) => some (d, r, all, .seq c b)
    | none => none)
  | .region _ ops false => (match ops.toList with
    | o :: r => (match o.op, o.guard with
      | .call { callee := .builtin .recover, .. }, none => some (o.dst, r, o :: r, .skip)
      | _, _ => none)
    | [] => none)
  | _ => none
def recB (cx : Cx) (d : Option Tmp) (r all : List Oper) (c : Code) : Option (Box (FC → AV → Slots → Heap → Pos → K → KX → R)) :=
  match opsB cx all r (namesOf [] d), codeB cx c with
  | some ⟨f⟩, some ⟨g⟩ => (match contB cx d (fun c' l tm df h nx k => f c' l tm df h nx k) with
    | some ⟨fc⟩ => some ⟨fun c' v tm h nx kn kx => fc c' v [] tm [] h nx (fun tm df h nx => g c' tm df h nx kn kx)⟩
    | none => none)
  | _, _ => none
def defB (E : Env) (f : FuncId) : Option (Box Sd) :=
  match E.fn f with
  | none => none
  | some fn => match fn.body with
    | none => none
    | some c => if !(Nat.ble fn.ntmps 512) then none else (match fn.results.toList with
      | _ :: _ => none
      | [] => (match headRec c with
        | some (d, r, all, c') => (match recB { E, W := wOf fn c, nt := fn.ntmps, pe := fun _ _ _ _ _ _ => none, rd := false } d r all c' with
          | some ⟨g⟩ => some ⟨fun fc md h nx l k => bb (Nat.ble (lenL l 0) fn.ntmps)
              (match md with
              | .panicking v false => g fc v (argT l 0 slots0) h nx (endD (.panicking v true) k) (fun e => bb (Nat.beq e 0) (endD (.panicking v true) k) (fun _ _ _ _ => none))
              | md => g fc .nilIface (argT l 0 slots0) h nx (endD md k) (fun e => bb (Nat.beq e 0) (endD md k) (fun _ _ _ _ => none))) none⟩
          | none => none)
        | none => none))

/-- A frame's deferred calls are made; then it goes. -/
def leaveB (E : Env) (res : Slots → Heap → Option (List AV)) (fc : FC) (n : Nat) : Md → K :=
  fuelC (fun _ _ _ _ _ => none) (fun ih md tm df h nx =>
    dfC df
      (match md with
      | .returning => ob (res tm h) fun vs => some [.ret (oneOf vs) h nx]
      | .panicking v false => some [.pan v h nx]
      | .panicking _ true => none)
      (fun f as ds => match defB E f with
        | some ⟨g⟩ => g fc md h nx as (fun md h nx => ih (settleM md) tm ds h nx)
        | none => none)
      (fun b ds => match Tr.get b h with
        | some (.deferred false) => ih md tm ds (Tr.set (some (.deferred true)) b h) nx
        | _ => none)) n

def funB (E : Env) (f : FuncId) : Option (Box (FC → List AV → Heap → Pos → R)) :=
  match E.fn f with
  | none => none
  | some fn => match fn.body with
    | none => none
    | some c => if !(Nat.ble fn.ntmps 512) then none else (match resB E (wOf fn c) fn.ntmps fn.results.toList with
      | none => none
      | some ⟨res⟩ => (match codeB { E, W := wOf fn c, nt := fn.ntmps, pe := fun fc v => leaveB E res fc 100 (.panicking v false), rd := false } c with
        | some ⟨b⟩ => some ⟨fun fc l h nx => bb (Nat.ble (lenL l 0) fn.ntmps)
            (b fc (argT l 0 slots0) [] h nx (leaveB E res fc 100 .returning) (fun e => bb (Nat.beq e 0) (leaveB E res fc 100 .returning) (fun _ _ _ _ => none))) none⟩
        | none => none))

/-! ### Rounds of a range over a function -/
def setPs (nt : Nat) : List Tmp → List AV → Slots → Option Slots
  | [], [], t => some t
  | p :: ps, v :: vs, t => bb (Nat.blt p nt) (setPs nt ps vs (Slots.set p v t)) none
  | _, _, _ => none
def endRound (b : Pos) (j : Option Code) : K := fun _ df h nx =>
  dfC df (match Tr.get b h with
    | some (.loop _ _ W nt tm ps a bd) => some [.ret (.bool (match j with | none => true | some _ => false)) (Tr.set (some (.loop (match j with | none => .ready | some _ => .done) j W nt tm ps a bd)) b h) nx]
    | _ => none) (fun _ _ _ => none) (fun _ _ => none)
def jumpOf (e : Nat) : Code := match e with | 0 => .ret | id + 1 => .exit id
def roundB (E : Env) (W nt : Nat) (a bd : Code) : Option (Box (FC → Pos → Slots → Heap → Pos → R)) :=
  match codeB { E, W, nt, pe := fun _ _ _ _ _ _ => none, rd := true } a, codeB { E, W, nt, pe := fun _ _ _ _ _ _ => none, rd := true } bd with
  | some ⟨fa⟩, some ⟨fb⟩ => some ⟨fun fc b tm h nx => fa fc tm [] h nx
      (fun tm df h nx => match Tr.get b h with
        | some (.loop .ready p W nt tm0 ps a bd) => fb fc tm df (Tr.set (some (.loop .busy p W nt tm0 ps a bd)) b h) nx (endRound b none) (fun e => endRound b (some (jumpOf e)))
        | _ => none)
      (fun _ _ _ _ _ => none)⟩
  | _, _ => none

/-! ### A call on the part of the heap that it can reach -/
def hasP (p : Pos) : List (Pos × Obj) → Bool
  | [] => false
  | (q, _) :: l => if Pos.beq p q then true else hasP p l
mutual
def namesV : AV → List Pos
  | .ptr b _ | .slice b _ _ _ _ _ | .map b | .yield b => [b]
  | .func _ c => namesVs c
  | .iface _ v => namesV v
  | .agg l | .tuple l => namesVs l
  | _ => []
def namesVs : List AV → List Pos
  | [] => []
  | v :: l => appL (namesV v) (namesVs l)
end
def namesEs : List (AV × AV) → List Pos
  | [] => []
  | (k, v) :: l => appL (namesV k) (appL (namesV v) (namesEs l))
def namesO : Obj → Option (List Pos)
  | .cells l _ _ _ _ => some (namesVs l)
  | .map es | .umap es | .rmap es => some (namesEs es)
  | _ => none
/-- What can be reached from names on. -/
def reach (h : Heap) : Nat → List Pos → List (Pos × Obj) → Option (List (Pos × Obj))
  | 0, _, _ => none
  | _ + 1, [], S => some S
  | n + 1, p :: ps, S => if hasP p S then reach h n ps S else (match Tr.get p h with
    | some o => (match namesO o with
      | some l => reach h n (appL l ps) ((p, o) :: S)
      | none => none)
    | none => none)
def asRead : Obj → Obj
  | .umap es => .rmap es
  | o => o
def layS : List (Pos × Obj) → Heap → Heap
  | [], h => h
  | (p, o) :: l, h => Tr.set (some o) p (layS l h)
def readS : List (Pos × Obj) → List (Pos × Obj)
  | [] => []
  | (p, o) :: l => (p, asRead o) :: readS l
def eqEs : List (AV × AV) → List (AV × AV) → Bool
  | [], [] => true
  | (a, b) :: l, (c, d) :: m => eqV a c && eqV b d && eqEs l m
  | _, _ => false
def eqB (a b : Bool) : Bool := match a, b with | true, true | false, false => true | _, _ => false
def eqO : Obj → Obj → Bool
  | .cells l a b c e, .cells l' a' b' c' e' => eqVs l l' && eqB a a' && eqB b b' && eqB c c' && Nat.beq e e'
  | .map es, .map es' | .umap es, .umap es' | .rmap es, .rmap es' => eqEs es es'
  | _, _ => false
def sameS (h : Heap) : List (Pos × Obj) → Bool
  | [] => true
  | (p, o) :: l => (match Tr.get p h with | some o' => eqO o o' | none => false) && sameS h l
def eqS : List (Pos × Obj) → List (Pos × Obj) → Bool
  | [], [] => true
  | (p, o) :: l, (q, o') :: m => Pos.beq p q && eqO o o' && eqS l m
  | _, _ => false
/-- What is new in the second. -/
def newS (S : List (Pos × Obj)) : List (Pos × Obj) → List (Pos × Obj)
  | [] => []
  | (p, o) :: l => if hasP p S then newS S l else (p, o) :: newS S l
/-- New names for what is new. -/
def renP (m : List (Pos × Pos)) (p : Pos) : Pos := match m with
  | [] => p
  | (q, r) :: m => if Pos.beq p q then r else renP m p
mutual
def renV (m : List (Pos × Pos)) : AV → AV
  | .ptr b o => .ptr (renP m b) o
  | .slice b o n c z e => .slice (renP m b) o n c z e
  | .map b => .map (renP m b)
  | .yield b => .yield (renP m b)
  | .func f c => .func f (renVs m c)
  | .iface t v => .iface t (renV m v)
  | .agg l => .agg (renVs m l)
  | .tuple l => .tuple (renVs m l)
  | v => v
def renVs (m : List (Pos × Pos)) : List AV → List AV
  | [] => []
  | v :: l => renV m v :: renVs m l
end
def renEs (m : List (Pos × Pos)) : List (AV × AV) → List (AV × AV)
  | [] => []
  | (k, v) :: l => (renV m k, renV m v) :: renEs m l
def renO (m : List (Pos × Pos)) : Obj → Obj
  | .cells l a b c e => .cells (renVs m l) a b c e
  | .map es => .map (renEs m es)
  | .umap es => .umap (renEs m es)
  | .rmap es => .rmap (renEs m es)
  | o => o
def mkRen : List (Pos × Obj) → Pos → List (Pos × Pos)
  | [], _ => []
  | (p, _) :: l, n => (p, n) :: mkRen l (Pos.succ n)
def renS (m : List (Pos × Pos)) : List (Pos × Obj) → List (Pos × Obj)
  | [] => []
  | (p, o) :: l => (renP m p, renO m o) :: renS m l
def afterP : List (Pos × Obj) → Pos → Pos
  | [], n => n
  | _ :: l, n => afterP l (Pos.succ n)
def namesS : List (Pos × Obj) → List Pos
  | [] => []
  | (p, _) :: l => p :: namesS l
/-- What a call comes to, in names of its own: the value, what has become of what was handed in, what is new. -/
structure Trim where
  v : AV
  b : List (Pos × Option Obj)
  n : List (Pos × Obj)
def backS (m : List (Pos × Pos)) (h : Heap) : List (Pos × Obj) → List (Pos × Option Obj)
  | [] => []
  | (q, _) :: l => (q, match Tr.get q h with | some o => some (renO m o) | none => none) :: backS m h l
def trim (S : List (Pos × Obj)) (r : CR) : Option Trim :=
  match r with
  | .ret v h _ => (match reach h 10000 (appL (namesV v) (namesS S)) [] with
    | some T => some { v := renV (mkRen (newS S T) (afterP S .h)) v, b := backS (mkRen (newS S T) (afterP S .h)) h S, n := renS (mkRen (newS S T) (afterP S .h)) (newS S T) }
    | none => none)
  | .pan _ _ _ => none
def eqBk : List (Pos × Option Obj) → List (Pos × Option Obj) → Bool
  | [], [] => true
  | (p, some o) :: l, (q, some o') :: m => Pos.beq p q && eqO o o' && eqBk l m
  | (p, none) :: l, (q, none) :: m => Pos.beq p q && eqBk l m
  | _, _ => false
def allSame (x : Trim) (S : List (Pos × Obj)) : List CR → Bool
  | [] => true
  | r :: l => (match trim S r with | some y => eqV x.v y.v && eqBk x.b y.b && eqS x.n y.n | none => false) && allSame x S l
def trimR (S : List (Pos × Obj)) (rs : List CR) : Option Trim :=
  match rs with
  | [] => none
  | r :: l => (match trim S r with
    | some x => bb (allSame x S l) (some x) none
    | none => none)
/-- A call that is known. -/
structure Fact where
  f : Nat
  l : List AV
  s : List (Pos × Obj)
  t : Trim
def findF (f : Nat) (l : List AV) (S : List (Pos × Obj)) : List Fact → Option Trim
  | [] => none
  | x :: r => bb (bb (Nat.beq x.f f) (bb (eqVs x.l l) (eqS x.s S) false) false) (some x.t) (findF f l S r)
def isoI (F : List Fact) (f : Nat) (call : List AV → Heap → Pos → R) (l : List AV) (S : List (Pos × Obj)) : Option Trim :=
  match findF f l S F with
  | some t => some t
  | none => ob (call l (layS S .leaf) (afterP S .h)) (trimR S)
/-- Back to the names that they had. -/
def mkBack : List (Pos × Obj) → List (Pos × Obj) → List (Pos × Pos) → List (Pos × Pos)
  | (p, _) :: l, (q, _) :: m, r => (q, p) :: mkBack l m r
  | _, _, r => r
def layO (m : List (Pos × Pos)) : List (Pos × Obj) → List (Pos × Option Obj) → Heap → Heap
  | (p, o) :: l, (_, b) :: bs, h => (match o with
    | .umap _ => layO m l bs h
    | _ => Tr.set (match b with | some o' => some (renO m o') | none => none) p (layO m l bs h))
  | _, _, h => h
/-- None of these is but read. -/
def noR : List (Pos × Obj) → Bool
  | [] => true
  | (_, .rmap _) :: _ => false
  | _ :: l => noR l
def isoR (S S' : List (Pos × Obj)) (h : Heap) (nx : Pos) (t : Trim) : R :=
  bb (noR t.n) (some [.ret (renV (mkBack S S' (mkRen t.n nx)) t.v) (layS (renS (mkBack S S' (mkRen t.n nx)) t.n) (layO (mkBack S S' (mkRen t.n nx)) S t.b h)) (afterP t.n nx)]) none
def isoB (F : List Fact) (f : Nat) (call : List AV → Heap → Pos → R) (l : List AV) (h : Heap) (nx : Pos) : R :=
  match reach h 10000 (namesVs l) [] with
  | some S => forceVs (renVs (mkRen S .h) l) fun l' => forceS (renS (mkRen S .h) (readS S)) fun S' => ob (isoI F f call l' S') (isoR S S' h nx)
  | none => none

/-- Calls, to a depth. -/
def execS (E : Env) (F : List Fact) (lo : FC → FC) (n : Nat) : FC :=
  fuelC (fun _ _ _ _ => none) (fun ih v l h nx =>
    funC v
      (fun f cap => match funB E f with
        | some ⟨g⟩ => bb (memN f E.iso) (isoB F f (fun l h nx => g (lo ih) l h nx) (appL l cap) h nx) (g ih (appL l cap) h nx)
        | none => none)
      (fun b => match Tr.get b h with
        | some (.loop _ _ W nt tm ps a bd) => (match roundB E W nt a bd, setPs nt ps l tm with
          | some ⟨g⟩, some tm' => g ih b tm' h nx
          | _, _ => none)
        | _ => none)
      none) n
/-- Calls deep down. -/
def exec0 (E : Env) (F : List Fact) : FC := execS E F (fun ih => ih) 60
/-- Calls: those on a part of the heap by the one above: equal ones are then the same term. -/
def exec (E : Env) (F : List Fact) (n : Nat) : FC := execS E F (fun _ => exec0 E F) n
/-- The facts are so. -/
def factB (E : Env) (F : List Fact) (f : Nat) (l : List AV) (S : List (Pos × Obj)) : Option Trim :=
  match funB E f with
  | some ⟨g⟩ => ob (g (exec0 E F) l (layS S .leaf) (afterP S .h)) (trimR S)
  | none => none
def eqTrim (x y : Trim) : Bool := eqV x.v y.v && eqBk x.b y.b && eqS x.n y.n
def factOk (E : Env) (F : List Fact) (x : Fact) : Bool := match factB E F x.f x.l x.s with | some t => eqTrim t x.t | none => false
end Go.AM
end
