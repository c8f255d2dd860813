import GoSem.Step
set_option linter.all false
noncomputable section
namespace Sd
open Go

/-! A binary trie of a fixed shape. -/
inductive T (α : Type) where
  | nil
  | node (l : T α) (v : Option α) (r : T α)
def T.get {α : Type} (t : T α) : Nat → Option α :=
  T.rec (fun _ => none) (fun _ v _ gl gr n => Nat.rec v (fun k _ => Bool.rec (gr (Nat.div k 2)) (gl (Nat.div k 2)) (Nat.beq (Nat.mod k 2) 0)) n) t
def T.set {α : Type} (t : T α) (n : Nat) (x : Option α) : T α :=
  T.rec (motive := fun _ => Nat → T α) (fun _ => .nil) (fun l v r sl sr n => Nat.rec (.node l x r) (fun k _ => Bool.rec (.node l v (sr (Nat.div k 2))) (.node (sl (Nat.div k 2)) v r) (Nat.beq (Nat.mod k 2) 0)) n) t n
def T.full {α : Type} (d : Nat) : T α := Nat.rec .nil (fun _ t => .node t none t) d
def T.upd {α : Type} (t : T α) (n : Nat) (x : α) : T α :=
  T.rec (motive := fun _ => Nat → T α) (fun _ => .nil) (fun l v r sl sr n => Nat.rec (.node l (Option.rec none (fun _ => some x) v) r) (fun k _ => Bool.rec (.node l v (sr (Nat.div k 2))) (.node (sl (Nat.div k 2)) v r) (Nat.beq (Nat.mod k 2) 0)) n) t n

def depthFor : Nat → Nat → Nat
  | 0, _ => 0
  | f + 1, n => match n with
    | 0 => 0
    | n => depthFor f (n / 2) + 1

abbrev Env := T Value

inductive LObj where
  | row (e : TypeId) (n : Nat) (c : T Value)
  | orow (e : TypeId) (n : Nat) (c : T Value)
  | map (es : List (Value × Value × Nat)) (clock : Nat)
  | siter (s : ByteArray) (pos : Nat)
  | miter (m : Option Nat) (since : Nat) (seen : List Nat) (stepped : Nat)
  | loop (env : Env) (ps : Array Tmp) (assign body : Code) (d : Nat) (busy : Bool)
  | deferred

structure LS where
  heap : T LObj
  next : Nat
  floor : Nat
  dfr : List Nat

inductive Ext where
  | compare | indexByte | noEscape | mapsClone

structure Ctx where
  P : Program
  ro : Nat → Option (T Value)
  ext : FuncId → Option Ext
  quiet : FuncId → Bool
  memo : FuncId → List Value → Option Value

def UNK : Nat := 18446744073709551616
def bigBytes : Nat := 1099511627776
def heapDepth : Nat := 20

def pureRun {α : Type} (P : Program) : Sem α → Option α
  | .pure a => some a
  | .program k => pureRun P (k P)
  | .mark _ k => pureRun P k
  | _ => none

/-! values -/
/-- what a token stands for -/
def hasTok : Nat → Value → Bool
  | 1, .int .i64 _ => true
  | 2, .string _ => true
  | 3, .bool _ => true
  | 4, .slice _ _ _ => true
  | _, _ => false
def atomic : Value → Bool
  | .bool _ | .int _ _ | .float _ _ | .complex _ _ _ | .string _ | .nilFunc | .nilIface => true
  | .pointer none | .map none | .chan none => true
  | .slice none 0 0 => true
  | _ => false
def allAtomic : List Value → Bool
  | [] => true
  | v :: l => match atomic v with | true => allAtomic l | false => false
def flat : Value → Bool
  | .agg cs => allAtomic cs.toList
  | .tuple cs => allAtomic cs.toList
  | v => atomic v

def ev1 (env : Env) : Operand → Option Value
  | .tmp t => env.get t
  | .const v => match flat v with | true => some v | false => none
  | .global g => some (.pointer (some ⟨2 * g + 1, 0, none⟩))
  | .func f => some (.func (.func f) #[] #[])
def ρ (env : Env) (x : Operand) : Value := (ev1 env x).getD undef
def all1 (env : Env) : List Operand → Option (List Value)
  | [] => some []
  | x :: xs => match ev1 env x with
    | some v => match all1 env xs with
      | some vs => some (v :: vs)
      | none => none
    | none => none
def flatOps (env : Env) (o : Oper) : Bool := o.op.operands.toList.all fun x => match ev1 env x with | some v => flat v | none => false

/-! whole numbers, quickly -/
def nmod2 (n : Nat) : Bool := Nat.beq (Nat.mod n 2) 0
def ltI : Int → Int → Bool
  | .ofNat a, .ofNat b => Nat.blt a b
  | .ofNat _, .negSucc _ => false
  | .negSucc _, .ofNat _ => true
  | .negSucc a, .negSucc b => Nat.blt b a
def eqI : Int → Int → Bool
  | .ofNat a, .ofNat b => Nat.beq a b
  | .negSucc a, .negSucc b => Nat.beq a b
  | _, _ => false
def kindNo : IntKind → Nat
  | .i8 => 0 | .i16 => 1 | .i32 => 2 | .i64 => 3 | .u8 => 4 | .u16 => 5 | .u32 => 6 | .u64 => 7
def wrapF (k : IntKind) (n : Int) : Int :=
  match n with
  | .ofNat m => match k with
    | .i64 => match Nat.blt m 9223372036854775808 with | true => .ofNat m | false => k.wrap n
    | .u32 => .ofNat (Nat.mod m 4294967296)
    | .u8 => .ofNat (Nat.mod m 256)
    | .u64 => .ofNat (Nat.mod m 18446744073709551616)
    | _ => k.wrap n
  | _ => k.wrap n
def modulus : IntKind → Option Nat
  | .u8 => some 256
  | .u32 => some 4294967296
  | .u64 => some 18446744073709551616
  | _ => none
def bits2 (f : Nat → Nat → Nat) (k : IntKind) (x y : Int) : Option Value :=
  match modulus k with
  | some q => match x with
    | .ofNat m => match y with
      | .ofNat n => some (.int k (.ofNat (f (Nat.mod m q) (Nat.mod n q))))
      | _ => none
    | _ => none
  | none => none
def shrF (k : IntKind) (x y : Int) : Option Value :=
  match x with
  | .ofNat m => match y with
    | .ofNat s => match Nat.ble s k.bits with
      | true => some (.int k (.ofNat (Nat.div m (Nat.pow 2 s))))
      | false => none
    | _ => none
  | _ => none
def quoF (k : IntKind) (x y : Int) : Option Value :=
  match x with
  | .ofNat m => match y with
    | .ofNat (s + 1) => some (.int k (wrapF k (.ofNat (Nat.div m (s + 1)))))
    | _ => none
  | _ => none
def remF (k : IntKind) (x y : Int) : Option Value :=
  match x with
  | .ofNat m => match y with
    | .ofNat (s + 1) => some (.int k (.ofNat (Nat.mod m (s + 1))))
    | _ => none
  | _ => none
def fastInt (op : BinOp) (k : IntKind) (x y : Int) : Option Value :=
  match op with
  | .add => some (.int k (wrapF k (Int.add x y)))
  | .sub => some (.int k (wrapF k (Int.sub x y)))
  | .mul => some (.int k (wrapF k (Int.mul x y)))
  | .eql => some (.bool (eqI x y))
  | .neq => some (.bool (not (eqI x y)))
  | .lss => some (.bool (ltI x y))
  | .gtr => some (.bool (ltI y x))
  | .leq => some (.bool (not (ltI y x)))
  | .geq => some (.bool (not (ltI x y)))
  | .and => bits2 Nat.land k x y
  | .or => bits2 Nat.lor k x y
  | .xor => bits2 Nat.xor k x y
  | .quo => quoF k x y
  | .rem => remF k x y
  | _ => none
def fastBin (op : BinOp) (a b : Value) : Option Value :=
  match a with
  | .int k x => match b with
    | .int k' y => match op with
      | .shr => shrF k x y
      | .shl => none
      | op => match Nat.beq (kindNo k) (kindNo k') with
        | true => fastInt op k x y
        | false => none
    | _ => none
  | _ => none

/-! the heap -/
def rowOf (C : Ctx) (σ : LS) (b : Nat) : Option (T Value) :=
  match nmod2 b with
  | true => match σ.heap.get (Nat.div b 2) with
    | some (.row _ _ c) => some c
    | some (.orow _ _ c) => some c
    | _ => none
  | false => C.ro (Nat.div b 2)
def readCells (c : T Value) : Nat → Nat → Option (List Value)
  | _, 0 => some []
  | off, n + 1 => match c.get off with
    | some v => match readCells c (Nat.succ off) n with
      | some vs => some (v :: vs)
      | none => none
    | none => none
def writeCells (c : T Value) (off : Nat) : List Value → T Value
  | [] => c
  | v :: vs => (writeCells c (Nat.succ off) vs).set off (some v)
def rowT (l : List Value) : T Value := writeCells (.full (depthFor 64 l.length)) 0 l

def isAggD : TypeDesc → Bool
  | .struct _ | .array _ _ => true
  | _ => false
def szOf (P : Program) (t : TypeId) : Nat := match P.info? t with | some i => i.size | none => 0
def bytesOfT (P : Program) (t : TypeId) : Nat := match P.info? t with | some i => i.bytes | none => 0
def zeroOf (P : Program) (t : TypeId) : Option Value := match P.info? t with
  | some i => match i.zero with
    | some z => match flat z with | true => some z | false => none
    | none => none
  | none => none

def LS.put (σ : LS) (b : Nat) (o : Option LObj) : LS := ⟨σ.heap.set b o, σ.next, σ.floor, σ.dfr⟩
def LS.new (σ : LS) (o : LObj) : LS := ⟨σ.heap.set σ.next (some o), Nat.succ σ.next, σ.floor, σ.dfr⟩
/-- a private block that may be turned -/
def mine (σ : LS) (b : Nat) : Option LObj :=
  match nmod2 b with
  | true => match Nat.ble σ.floor (Nat.div b 2) with
    | true => σ.heap.get (Nat.div b 2)
    | false => none
  | false => none
/-- a private block that is looked at -/
def seen (σ : LS) (b : Nat) : Option LObj :=
  match nmod2 b with
  | true => σ.heap.get (Nat.div b 2)
  | false => none

def loadAt (C : Ctx) (t : TypeId) (c : T Value) (off : Nat) : Option Value :=
  match C.P.underlying t with
  | some d => match isAggD d with
    | true => match szOf C.P t with
      | 0 => none
      | n => match readCells c off n with
        | some l => some (.agg ⟨l⟩)
        | none => none
    | false => c.get off
  | none => none
def loadL (C : Ctx) (σ : LS) (t : TypeId) (p : Value) : Option Value :=
  match p with
  | .pointer (some ⟨b, off, none⟩) => match rowOf C σ b with
    | some c => loadAt C t c off
    | none => none
  | _ => none
def oneC : Value → Bool
  | .agg _ | .tuple _ => false
  | _ => true
def allOne : List Value → Bool
  | [] => true
  | v :: l => match oneC v with | true => allOne l | false => false
/-- cells written into a private row, from a place on -/
def writeL (σ : LS) (b off : Nat) (vs : List Value) : Option LS :=
  match mine σ b with
  | some (.row e n c) => match Nat.ble (Nat.add off vs.length) n with
    | true => some (σ.put (Nat.div b 2) (some (.row e n (writeCells c off vs))))
    | false => none
  | some (.orow e n c) => match Nat.ble (Nat.add off vs.length) n with
    | true => some (σ.put (Nat.div b 2) (some (.orow e n (writeCells c off vs))))
    | false => none
  | _ => none
def cellsOfV : Value → List Value
  | .agg cs => cs.toList
  | v => [v]
def storeL (C : Ctx) (σ : LS) (t : TypeId) (p v : Value) : Option LS :=
  match p with
  | .pointer (some ⟨b, off, none⟩) =>
    match szOf C.P t with
    | 0 => none
    | n => match Nat.beq (cellsOfV v).length n with
      | true => match allOne (cellsOfV v) with
        | true => writeL σ b off (cellsOfV v)
        | false => none
      | false => none
  | _ => none

abbrev Out := Option (List (Value × LS))
def one (r : Option (Value × LS)) : Out := match r with | some x => some [x] | none => none
def okv (v : Value) (σ : LS) : Out := some [(v, σ)]
def okm (r : Option Value) (σ : LS) : Out := match r with | some v => some [(v, σ)] | none => none
def oks (r : Option LS) (v : Value) : Out := match r with | some σ => some [(v, σ)] | none => none
abbrev CallF := Fn → List Value → LS → Out

def callVal (call : CallF) (f : Value) (args : List Value) (σ : LS) : Out :=
  match f with
  | .func (.func f) first cap => call (.func f) (first.toList ++ args ++ cap.toList) σ
  | .func (.yield l) _ _ => call (.yield l) args σ
  | _ => none

def newRowL (σ : LS) (e : TypeId) (cs : List Value) : Out :=
  okv (.pointer (some ⟨Nat.mul 2 σ.next, 0, none⟩)) (σ.new (.row e cs.length (rowT cs)))

/-! slices -/
def srcCells (C : Ctx) (σ : LS) (sz : Nat) (n : Nat) (x : Value) : Option (List Value) :=
  match x with
  | .slice none _ _ => some []
  | .slice (some ⟨b, off, none⟩) _ _ => match Nat.beq (Nat.mul n sz) 0 with
    | true => some []
    | false => match rowOf C σ b with
      | some c => readCells c off (Nat.mul n sz)
      | none => none
  | .string s => some ((s.data.toList.take n).map fun b => .int .u8 b.toNat)
  | _ => none
def lenL : Value → Option Nat
  | .slice _ n _ => some n
  | .string s => some s.size
  | _ => none
def repeatCells (z : List Value) : Nat → List Value
  | 0 => []
  | n + 1 => z ++ repeatCells z n
def freshRow (σ : LS) (e : TypeId) (n : Nat) (cs : List Value) : Option (Value × LS) :=
  some (.slice (some ⟨Nat.mul 2 σ.next, 0, none⟩) n UNK, σ.new (.orow e cs.length (rowT cs)))
def smallLen (C : Ctx) (e : TypeId) (n : Nat) : Bool := Nat.ble (Nat.mul n (bytesOfT C.P e)) bigBytes && Nat.ble n bigBytes
def appendKnown (C : Ctx) (σ : LS) (e : TypeId) (sz b off l cap m : Nat) (news : List Value) : Option (Value × LS) :=
  match Nat.ble (Nat.add l m) cap with
  | true => match writeL σ b (Nat.add off (Nat.mul l sz)) news with
    | some σ' => some (.slice (some ⟨b, off, none⟩) (Nat.add l m) cap, σ')
    | none => none
  | false => match srcCells C σ sz l (.slice (some ⟨b, off, none⟩) l cap) with
    | some old => freshRow σ e (Nat.add l m) (old ++ news)
    | none => none
def appendOpen (C : Ctx) (σ : LS) (e : TypeId) (sz b off l cap m : Nat) (news : List Value) : Option (Value × LS) :=
  match Nat.beq off (Nat.mul (Nat.sub cap UNK) sz) with
  | true => match mine σ b with
    | some (.orow e' _ _) => match Nat.beq e' e with
      | true => match srcCells C σ sz l (.slice (some ⟨b, off, none⟩) l cap) with
        | some old => freshRow (σ.put (Nat.div b 2) none) e (Nat.add l m) (old ++ news)
        | none => none
      | false => none
    | _ => none
  | false => none
def appendSome (C : Ctx) (σ : LS) (e : TypeId) (sz b off l cap m : Nat) (news : List Value) : Option (Value × LS) :=
  match m with
  | 0 => match Nat.ble l cap with | true => some (.slice (some ⟨b, off, none⟩) l cap, σ) | false => none
  | m => match Nat.blt cap UNK with
    | true => appendKnown C σ e sz b off l cap m news
    | false => appendOpen C σ e sz b off l cap m news
def appendNil (σ : LS) (e : TypeId) (m : Nat) (news : List Value) : Option (Value × LS) :=
  match m with
  | 0 => some (.slice none 0 0, σ)
  | m => freshRow σ e m news
def appendCells (C : Ctx) (σ : LS) (e : TypeId) (sz : Nat) (s : Value) (m : Nat) (news : List Value) : Option (Value × LS) :=
  match Nat.beq news.length (Nat.mul m sz) with
  | true => match s with
    | .slice none 0 0 => match smallLen C e m with
      | true => appendNil σ e m news
      | false => none
    | .slice (some ⟨b, off, none⟩) l cap => match smallLen C e (Nat.add l m) with
      | true => appendSome C σ e sz b off l cap m news
      | false => none
    | _ => none
  | false => none
def appendMany (C : Ctx) (σ : LS) (e : TypeId) (s : Value) (n : Int) : Option (Value × LS) :=
  match zeroOf C.P e with
  | some z => match n with
    | .ofNat n => match szOf C.P e with
      | 0 => none
      | sz => match Nat.ble n 16777216 && Nat.blt 0 n && Nat.beq (cellsOfV z).length sz && allOne (cellsOfV z) with
        | true => appendCells C σ e sz s n (repeatCells (cellsOfV z) n)
        | false => none
    | _ => none
  | none => none
def appendFrom (C : Ctx) (σ : LS) (e : TypeId) (s x : Value) : Option (Value × LS) :=
  match szOf C.P e with
  | 0 => none
  | sz => match zeroOf C.P e with
    | some z => match lenL x with
      | some m => match srcCells C σ sz m x with
        | some news => match allOne news && Nat.beq (cellsOfV z).length sz with
          | true => appendCells C σ e sz s m news
          | false => none
        | none => none
      | none => none
    | none => none
def appendL (C : Ctx) (σ : LS) (ts : Array TypeId) (args : List Value) : Option (Value × LS) :=
  match args with
  | [s, x] => match ts.toList with
    | [t, u] => match C.P.underlying t with
      | some (.slice e) => match C.P.underlying u with
        | some (.int _) => match x with
          | .int _ n => appendMany C σ e s n
          | _ => none
        | some _ => appendFrom C σ e s x
        | none => none
      | _ => none
    | _ => none
  | _ => none
def copyAt (C : Ctx) (σ : LS) (e : TypeId) (base : Option Addr) (n : Nat) (x : Value) : Option (Value × LS) :=
  match szOf C.P e with
  | 0 => none
  | sz => match srcCells C σ sz n x with
    | some cs => match base with
      | none => some (.int .i64 n, σ)
      | some ⟨b, off, none⟩ => match cs with
        | [] => some (.int .i64 n, σ)
        | cs => match allOne cs with
          | true => match writeL σ b off cs with
            | some σ' => some (.int .i64 n, σ')
            | none => none
          | false => none
      | _ => none
    | none => none
def copyL (C : Ctx) (σ : LS) (ts : Array TypeId) (args : List Value) : Option (Value × LS) :=
  match args with
  | [.slice base dl _, x] => match ts[0]? with
    | some t => match C.P.underlying t with
      | some (.slice e) => match lenL x with
        | some m => copyAt C σ e base (Nat.min m dl) x
        | none => none
      | _ => none
    | none => none
  | _ => none
def bound (env : Env) (d : Nat) : Option Operand → Option Nat
  | none => some d
  | some x => match ev1 env x with
    | some (.int _ (.ofNat i)) => some i
    | _ => none
def le3 (a b c : Nat) : Bool := Nat.ble a b && Nat.ble b c
def cutAt (sz b off l h m : Nat) : Value :=
  .slice (some ⟨b, match Nat.beq m l with | true => off | false => Nat.add off (Nat.mul l sz), none⟩) (Nat.sub h l) (Nat.sub m l)
def sliceArr (env : Env) (n sz b off : Nat) (lo hi mx : Option Operand) : Option Value :=
  match bound env 0 lo with
  | some l => match bound env n hi with
    | some h => match mx with
      | none => match le3 l h n && Nat.blt n UNK with
        | true => some (cutAt sz b off l h n)
        | false => none
      | some _ => none
    | none => none
  | none => none
def sliceSl (env : Env) (sz b off len cap : Nat) (lo hi mx : Option Operand) : Option Value :=
  match bound env 0 lo with
  | some l => match bound env len hi with
    | some h => match mx with
      | none => match Nat.blt cap UNK with
        | true => match le3 l h cap with
          | true => some (cutAt sz b off l h cap)
          | false => none
        | false => match le3 l h len with
          | true => some (.slice (some ⟨b, Nat.add off (Nat.mul l sz), none⟩) (Nat.sub h l) (Nat.add cap l))
          | false => none
      | some x => match hi with
        | none => none
        | some _ => match bound env 0 (some x) with
          | some m => match le3 l h m && Nat.ble m len && Nat.blt m UNK && Nat.ble m cap with
            | true => some (cutAt sz b off l h m)
            | false => none
          | none => none
    | none => none
  | none => none
def sliceL (C : Ctx) (env : Env) (t : TypeId) (x : Value) (lo hi mx : Option Operand) : Option Value :=
  match C.P.underlying t with
  | some (.array n e) => match x with
    | .pointer (some ⟨b, off, none⟩) => match szOf C.P e with
      | 0 => none
      | sz => sliceArr env n sz b off lo hi mx
    | _ => none
  | some (.slice e) => match x with
    | .slice (some ⟨b, off, none⟩) len cap => match szOf C.P e with
      | 0 => none
      | sz => sliceSl env sz b off len cap lo hi mx
    | _ => none
  | _ => none

/-! maps -/
def findL (P : Program) (kt : TypeId) (k : Value) : List (Value × Value × Nat) → Nat → Option (Option (Nat × Value × Value × Nat))
  | [], _ => some none
  | (k', v, born) :: es, i => match pureRun P (Op.equal kt k k') with
    | some true => some (some (i, k', v, born))
    | some false => findL P kt k es (i + 1)
    | none => none
def mapOf (σ : LS) (r : Nat) : Option (List (Value × Value × Nat) × Nat) :=
  match seen σ r with
  | some (.map es clock) => some (es, clock)
  | _ => none
def mapMine (σ : LS) (r : Nat) : Option (List (Value × Value × Nat) × Nat) :=
  match mine σ r with
  | some (.map es clock) => some (es, clock)
  | _ => none
def keyFound (C : Ctx) (empty : Bool) (kt : TypeId) (k : Value) (es : List (Value × Value × Nat)) : Option (Option (Nat × Value × Value × Nat)) :=
  match flat k with
  | true => match pureRun C.P (Instr.checkKey empty 10000 kt k) with
    | some () => findL C.P kt k es 0
    | none => none
  | false => none
def entriesOf (σ : LS) (m : Value) : Option (List (Value × Value × Nat)) :=
  match m with
  | .map none => some []
  | .map (some r) => match mapOf σ r with | some x => some x.1 | none => none
  | _ => none
def lookupL (C : Ctx) (σ : LS) (t : TypeId) (m k : Value) (ok : Bool) : Option Value :=
  match C.P.underlying t with
  | some (.map kt et) => match entriesOf σ m with
    | some es => match keyFound C es.isEmpty kt k es with
      | some (some (_, _, v, _)) => some (match ok with | true => .tuple #[v, .bool true] | false => v)
      | some none => match zeroOf C.P et with
        | some z => some (match ok with | true => .tuple #[z, .bool false] | false => z)
        | none => none
      | none => none
    | none => none
  | _ => none
def mapUpdateL (C : Ctx) (σ : LS) (t : TypeId) (m k v : Value) : Option LS :=
  match C.P.underlying t with
  | some (.map kt _) => match m with
    | .map (some r) => match mapMine σ r with
      | some (es, clock) => match keyFound C false kt k es with
        | some (some (i, k', _, born)) => match Instr.sameBits 10000 k' k with
          | true => some (σ.put (Nat.div r 2) (some (.map (es.set i (k, v, born)) clock)))
          | false => none
        | some none => some (σ.put (Nat.div r 2) (some (.map (es ++ [(k, v, clock)]) (clock + 1))))
        | none => none
      | none => none
    | _ => none
  | _ => none
def deleteL (C : Ctx) (σ : LS) (t : TypeId) (m k : Value) : Option LS :=
  match C.P.underlying t with
  | some (.map kt _) => match m with
    | .map (some r) => match mapMine σ r with
      | some (es, clock) => match keyFound C es.isEmpty kt k es with
        | some (some (i, _, _, _)) => some (σ.put (Nat.div r 2) (some (.map (es.eraseIdx i) clock)))
        | some none => some (σ.put (Nat.div r 2) (some (.map es clock)))
        | none => none
      | none => none
    | _ => none
  | _ => none
def clearL (C : Ctx) (σ : LS) (t : TypeId) (m : Value) : Option LS :=
  match C.P.underlying t with
  | some (.map _ _) => match m with
    | .map none => some σ
    | .map (some r) => match mapMine σ r with
      | some (_, clock) => some (σ.put (Nat.div r 2) (some (.map [] clock)))
      | none => none
    | _ => none
  | _ => none
def newPtr (σ : LS) (o : LObj) : Option (Value × LS) := some (.pointer (some ⟨Nat.mul 2 σ.next, 0, none⟩), σ.new o)
def rangeL (C : Ctx) (σ : LS) (t : TypeId) (x : Value) : Option (Value × LS) :=
  match C.P.underlying t with
  | some .string => match x with
    | .string s => newPtr σ (.siter s 0)
    | _ => none
  | some (.map _ _) => match x with
    | .map none => newPtr σ (.miter none 0 [] 0)
    | .map (some r) => match mapOf σ r with
      | some (_, clock) => newPtr σ (.miter (some r) clock [] clock)
      | none => none
    | _ => none
  | _ => none
def overV : Value := .tuple #[.bool false]
def nextStr (σ : LS) (b : Nat) (s : ByteArray) (pos : Nat) : Out :=
  match Nat.blt pos s.size with
  | true => match Utf8.decode s pos with
    | (c, width) => okv (.tuple #[.bool true, .int .i64 pos, .int .i32 c]) (σ.put (Nat.div b 2) (some (.siter s (Nat.add pos width))))
  | false => okv overV σ
def nextMap (σ : LS) (b m since : Nat) (sn : List Nat) (last : Nat) (es : List (Value × Value × Nat)) (clock : Nat) : Out :=
  if !sn.isEmpty && !es.isEmpty && es.all (fun e => decide (e.2.2 ≥ last)) then none else
  let left := es.filter fun e => !sn.contains e.2.2
  let old := left.filter fun e => decide (e.2.2 < since)
  let new := left.filter fun e => decide (e.2.2 ≥ since)
  some ((if old.isEmpty then [(overV, σ)] else []) ++ (old ++ new).map fun e =>
    (.tuple #[.bool true, e.1, e.2.1], σ.put (Nat.div b 2) (some (.miter (some m) since (sn ++ [e.2.2]) clock))))
def nextL (σ : LS) (it : Value) (isString : Bool) : Out :=
  match it with
  | .pointer (some ⟨b, 0, none⟩) => match mine σ b with
    | some (.siter s pos) => match isString with | true => nextStr σ b s pos | false => none
    | some (.miter none _ _ _) => match isString with | true => none | false => okv overV σ
    | some (.miter (some m) since sn last) => match isString with
      | true => none
      | false => match mapOf σ m with
        | some (es, clock) => nextMap σ b m since sn last es clock
        | none => none
    | _ => none
  | _ => none
def entryL (σ : LS) (it : Value) : Option Value :=
  match it with
  | .pointer (some ⟨b, 0, none⟩) => match seen σ b with
    | some (.miter (some m) _ sn stepped) => match sn.getLast? with
      | some stamp => match mapOf σ m with
        | some (es, clock) => match Nat.beq clock stepped with
          | true => match es.find? (fun e => Nat.beq e.2.2 stamp) with
            | some e => some (.tuple #[e.1, e.2.1])
            | none => none
          | false => none
        | none => none
      | none => none
    | _ => none
  | _ => none

/-! comparing with nil; addresses; bytes -/
def samePtr (P : Program) (e : TypeId) (a b : Addr) : Option Bool :=
  match a with
  | ⟨x, o, none⟩ => match b with
    | ⟨y, q, none⟩ => match Nat.beq x y with
      | true => match szOf P e with
        | 0 => none
        | _ => some (Nat.beq o q)
      | false => none
    | _ => none
  | _ => none
def cmpNil (P : Program) (t : TypeId) (x y : Value) : Option Bool :=
  match P.underlying t with
  | some (.pointer e) => match x with
    | .pointer none => match y with | .pointer b => some b.isNone | _ => none
    | .pointer (some a) => match y with | .pointer none => some false | .pointer (some b) => samePtr P e a b | _ => none
    | _ => none
  | some (.slice _) => match x with
    | .slice none _ _ => match y with | .slice b _ _ => some b.isNone | _ => none
    | .slice (some _) _ _ => match y with | .slice none _ _ => some false | _ => none
    | _ => none
  | some (.map _ _) => match x with
    | .map none => match y with | .map b => some b.isNone | _ => none
    | .map (some _) => match y with | .map none => some false | _ => none
    | _ => none
  | some (.func _ _ _) => match x with
    | .nilFunc => match y with | .nilFunc => some true | .func _ _ _ => some false | _ => none
    | .func _ _ _ => match y with | .nilFunc => some false | _ => none
    | _ => none
  | some (.interface _) => match x with
    | .nilIface => match y with | .iface _ _ => some false | _ => none
    | .iface _ _ => match y with | .nilIface => some false | _ => none
    | _ => none
  | _ => none
def bytesL : List Value → Option (List UInt8)
  | [] => some []
  | .int .u8 n :: cs => match bytesL cs with
    | some l => some (UInt8.ofNat n.toNat :: l)
    | none => none
  | _ :: _ => none
def sliceBytes (C : Ctx) (σ : LS) (x : Value) : Option ByteArray :=
  match x with
  | .slice none _ _ => some ⟨⟨[]⟩⟩
  | .slice (some ⟨b, off, none⟩) len _ => match len with
    | 0 => some ⟨⟨[]⟩⟩
    | len => match rowOf C σ b with
      | some c => match readCells c off len with
        | some l => match bytesL l with
          | some l => some ⟨⟨l⟩⟩
          | none => none
        | none => none
      | none => none
  | _ => none
def strM (r : Option ByteArray) : Option Value := match r with | some s => some (.string s) | none => none
def convertL (C : Ctx) (σ : LS) (s d : TypeId) (x : Value) : Option Value :=
  match C.P.underlying d with
  | some .string => match C.P.underlying s with
    | some (.slice e) => match C.P.underlying e with
      | some (.int .u8) => strM (sliceBytes C σ x)
      | _ => none
    | _ => none
  | some .unsafePointer => match C.P.underlying s with
    | some (.pointer t) => match x with
      | .pointer (some ⟨b, off, none⟩) => match seen σ b with
        | some (.row _ n _) => match szOf C.P t with
          | 0 => none
          | _ => match Nat.blt off n with
            | true => some x
            | false => none
        | _ => none
      | _ => none
    | _ => none
  | some (.pointer u) => match C.P.underlying s with
    | some .unsafePointer => match x with
      | .pointer (some ⟨b, off, none⟩) => match seen σ b with
        | some (.row e n _) => match szOf C.P u with
          | 0 => none
          | _ => match liesAt C.P C.P.depth e (n / C.P.cellsOf e) off u 1 with
            | true => some x
            | false => none
        | _ => none
      | _ => none
    | _ => none
  | _ => none
def unsafeStr (σ : LS) (P : Program) (u : TypeId) (b off n : Nat) : Option (Value × LS) :=
  match mine σ b with
  | some (.orow e _ c) => match Nat.beq e u && Nat.beq (szOf P u) 1 && Nat.ble n bigBytes with
    | true => match readCells c off n with
      | some l => match bytesL l with
        | some s => some (.string ⟨⟨s⟩⟩, σ.put (Nat.div b 2) none)
        | none => none
      | none => none
    | false => none
  | _ => none
def unsafeStringL (C : Ctx) (σ : LS) (ts : Array TypeId) (args : List Value) : Option (Value × LS) :=
  match args with
  | [.pointer p, .int _ (.ofNat n)] => match ts[0]? with
    | some t => match C.P.underlying t with
      | some (.pointer u) => match n with
        | 0 => some (.string ⟨⟨[]⟩⟩, σ)
        | n => match p with
          | some ⟨b, off, none⟩ => unsafeStr σ C.P u b off n
          | _ => none
      | _ => none
    | none => none
  | _ => none

def pureOp (C : Ctx) (o : Oper) (env : Env) (σ : LS) : Out :=
  match pureRun C.P (execOp (ρ env) o) with
  | some (.value v) => match flat v with
    | true => okv v σ
    | false => none
  | _ => none
def pureIf (b : Bool) (C : Ctx) (o : Oper) (env : Env) (σ : LS) : Out :=
  match b with
  | true => pureOp C o env σ
  | false => none

def lenAt (C : Ctx) (o : Oper) (d : TypeDesc) (args : List Value) (env : Env) (σ : LS) : Out :=
  match d with
  | .string => match args with
    | [.string s] => okv (.int .i64 s.size) σ
    | [.chan (some 2)] => okv (.chan (some 1)) σ
    | _ => none
  | .slice _ => match args with
    | [.slice _ n _] => okv (.int .i64 n) σ
    | [.chan (some 4)] => okv (.chan (some 1)) σ
    | _ => none
  | .map _ _ => match args with
    | [.map none] => okv (.int .i64 0) σ
    | [.map (some r)] => match mapOf σ r with | some (es, _) => okv (.int .i64 es.length) σ | none => none
    | _ => none
  | _ => pureIf (flatOps env o) C o env σ
def lenOp (C : Ctx) (o : Oper) (c : Call) (args : List Value) (env : Env) (σ : LS) : Out :=
  match c.argTypes[0]? with
  | some t => match C.P.underlying t with
    | some d => lenAt C o d args env σ
    | none => none
  | none => none
def capOp (C : Ctx) (c : Call) (args : List Value) (σ : LS) : Out :=
  match args with
  | [.slice _ _ cap] => match Nat.blt cap UNK with
    | true => match c.argTypes[0]? with
      | some t => match C.P.underlying t with
        | some (.slice _) => okv (.int .i64 cap) σ
        | _ => none
      | none => none
    | false => none
  | _ => none
def sliceDataOp (args : List Value) (σ : LS) : Out :=
  match args with
  | [.slice none _ _] => okv (.pointer none) σ
  | [.slice (some a) (n + 1) cap] => match Nat.ble (n + 1) cap with | true => okv (.pointer (some a)) σ | false => none
  | _ => none
def builtinL (C : Ctx) (o : Oper) (b : Builtin) (c : Call) (args : List Value) (env : Env) (σ : LS) : Out :=
  match b with
  | .len => lenOp C o c args env σ
  | .cap => capOp C c args σ
  | .append => one (appendL C σ c.argTypes args)
  | .copy => one (copyL C σ c.argTypes args)
  | .delete => match args with
    | [m, k] => match c.argTypes[0]? with | some t => oks (deleteL C σ t m k) (.tuple #[]) | none => none
    | _ => none
  | .clear => match args with
    | [m] => match c.argTypes[0]? with | some t => oks (clearL C σ t m) (.tuple #[]) | none => none
    | _ => none
  | .unsafeSliceData => sliceDataOp args σ
  | .unsafeString => one (unsafeStringL C σ c.argTypes args)
  | .min => pureIf (flatOps env o) C o env σ
  | .max => pureIf (flatOps env o) C o env σ
  | _ => none

def moveOp (env : Env) (x : Operand) (σ : LS) : Out := okm (ev1 env x) σ
def pickOp (env : Env) (c a b : Operand) (σ : LS) : Out :=
  match ev1 env c with
  | some (.bool t) => match t with
    | true => okm (ev1 env a) σ
    | false => okm (ev1 env b) σ
  | _ => none
def allocOp (C : Ctx) (e : TypeId) (σ : LS) : Out :=
  match zeroOf C.P e with
  | some z => newRowL σ e (cellsOfV z)
  | none => none
def boxOp (env : Env) (e : TypeId) (x : Operand) (σ : LS) : Out :=
  match ev1 env x with
  | some v => newRowL σ e (cellsOfV v)
  | none => none
def loadOp (C : Ctx) (env : Env) (t : TypeId) (a : Operand) (σ : LS) : Out :=
  match ev1 env a with
  | some p => okm (loadL C σ t p) σ
  | none => none
def storeOp (C : Ctx) (env : Env) (t : TypeId) (a x : Operand) (σ : LS) : Out :=
  match ev1 env a with
  | some p => match ev1 env x with
    | some v => oks (storeL C σ t p v) undef
    | none => none
  | none => none
def nilCheckOp (env : Env) (x : Operand) (σ : LS) : Out :=
  match ev1 env x with
  | some (.pointer (some a)) => okv (.pointer (some a)) σ
  | some (.func (.func f) a b) => okv (.func (.func f) a b) σ
  | some (.iface t v) => okv (.iface t v) σ
  | _ => none
def fieldAt (C : Ctx) (s : TypeId) (f b off : Nat) (σ : LS) : Out :=
  match C.P.underlying s with
  | some (.struct fs) => match fs[f]? with
    | some fd => match szOf C.P fd.type with
      | 0 => none
      | _ => okv (.pointer (some ⟨b, Nat.add off fd.offset, none⟩)) σ
    | none => none
  | _ => none
def fieldAddrOp (C : Ctx) (env : Env) (s : TypeId) (x : Operand) (f : Nat) (σ : LS) : Out :=
  match ev1 env x with
  | some (.pointer (some ⟨b, off, none⟩)) => fieldAt C s f b off σ
  | _ => none
def idx (i : Value) (len : Nat) : Option Nat :=
  match i with
  | .int _ (.ofNat k) => match Nat.blt k len with | true => some k | false => none
  | _ => none
def idxPtr (i : Value) (len b off sz : Nat) (σ : LS) : Out :=
  match sz with
  | 0 => none
  | sz => match idx i len with
    | some k => okv (.pointer (some ⟨b, Nat.add off (Nat.mul k sz), none⟩)) σ
    | none => none
def indexAt (C : Ctx) (t : TypeId) (x i : Value) (σ : LS) : Out :=
  match C.P.underlying t with
  | some (.array len e) => match x with
    | .pointer (some ⟨b, off, none⟩) => idxPtr i len b off (szOf C.P e) σ
    | _ => none
  | some (.slice e) => match x with
    | .slice (some ⟨b, off, none⟩) len _ => idxPtr i len b off (szOf C.P e) σ
    | _ => none
  | _ => none
def indexAddrOp (C : Ctx) (env : Env) (t : TypeId) (x i : Operand) (σ : LS) : Out :=
  match ev1 env x with
  | some x => match ev1 env i with
    | some i => indexAt C t x i σ
    | none => none
  | none => none
def extractOp (env : Env) (t : Operand) (ix : Nat) (σ : LS) : Out :=
  match ev1 env t with
  | some (.tuple vs) => okm (vs.toList[ix]?) σ
  | _ => none
def sliceOp (C : Ctx) (o : Oper) (env : Env) (t : TypeId) (x : Operand) (lo hi mx : Option Operand) (σ : LS) : Out :=
  match ev1 env x with
  | some v => match flat v with
    | true => pureIf (flatOps env o) C o env σ
    | false => okm (sliceL C env t v lo hi mx) σ
  | none => none
def partL (P : Program) (t : TypeId) (cs : Array Value) (off : Nat) : Option Value :=
  match P.underlying t with
  | some d => match isAggD d with
    | true => match szOf P t with
      | 0 => none
      | n => some (.agg (cs.extract off (Nat.add off n)))
    | false => cs[off]?
  | none => none
def fieldOp (C : Ctx) (env : Env) (t : TypeId) (x : Operand) (f : Nat) (σ : LS) : Out :=
  match ev1 env x with
  | some (.agg cs) => match C.P.underlying t with
    | some (.struct fs) => match fs[f]? with
      | some fd => okm (partL C.P fd.type cs fd.offset) σ
      | none => none
    | _ => none
  | _ => none
def indexOp (C : Ctx) (o : Oper) (env : Env) (t : TypeId) (x i : Operand) (σ : LS) : Out :=
  match ev1 env x with
  | some (.agg cs) => match C.P.underlying t with
    | some (.array len e) => match ev1 env i with
      | some iv => match idx iv len with
        | some k => match szOf C.P e with
          | 0 => none
          | sz => okm (partL C.P e cs (Nat.mul k sz)) σ
        | none => none
      | none => none
    | _ => none
  | some (.string _) => pureIf (flatOps env o) C o env σ
  | _ => none
def ifaceOp (C : Ctx) (env : Env) (t : TypeId) (x : Operand) (σ : LS) : Out :=
  match ev1 env x with
  | some v => match C.P.underlying t with
    | some (.interface _) => none
    | some _ => okv (.iface t v) σ
    | none => none
  | none => none
def funcOp (env : Env) (fn : Fn) (a b : Array Operand) (σ : LS) : Out :=
  match fn with
  | .func f => match all1 env a.toList with
    | some a => match all1 env b.toList with
      | some b => okv (.func (.func f) ⟨a⟩ ⟨b⟩) σ
      | none => none
    | none => none
  | _ => none
def placesOf (P : Program) (t : TypeId) : Option (Nat → Option (Nat × Nat)) :=
  match P.underlying t with
  | some (.struct fs) => match pureRun P (fs.mapM fun f => do pure (f.offset, ← Go.sizeOf f.type) : Sem (Array (Nat × Nat))) with
    | some places => some (places[·]?)
    | none => none
  | some (.array _ e) => match szOf P e with
    | 0 => none
    | sz => some fun i => some (i * sz, sz)
  | _ => none
def buildOp (C : Ctx) (env : Env) (t : TypeId) (parts : Array (Nat × Operand)) (σ : LS) : Out :=
  match zeroOf C.P t with
  | some z => match all1 env (parts.toList.map (·.2)) with
    | some vs => match placesOf C.P t with
      | some place => match Instr.fill place ⟨cellsOfV z⟩ ((parts.toList.map (·.1)).zip vs) with
        | some cs => okv (.agg cs) σ
        | none => none
      | none => none
    | none => none
  | none => none
def assertOp (C : Ctx) (env : Env) (x : Operand) (a : TypeId) (ok : Bool) (σ : LS) : Out :=
  match ev1 env x with
  | some (.iface t v) => match C.P.underlying a with
    | some (.interface _) => none
    | some _ => match Nat.beq t a with
      | true => okv (match ok with | true => .tuple #[v, .bool true] | false => v) σ
      | false => none
    | none => none
  | _ => none
def buildSliceOp (C : Ctx) (env : Env) (t : TypeId) (len : Nat) (parts : Array (Nat × Operand)) (σ : LS) : Out :=
  match C.P.underlying t with
  | some (.slice e) => match zeroOf C.P e with
    | some z => match all1 env (parts.toList.map (·.2)) with
      | some vs => match szOf C.P e with
        | 0 => none
        | sz => match Nat.ble (Nat.mul len sz) 16777216 && Nat.beq (cellsOfV z).length sz && Nat.blt len UNK with
          | true => match Instr.fill (fun i => some (i * sz, sz)) ⟨repeatCells (cellsOfV z) len⟩ ((parts.toList.map (·.1)).zip vs) with
            | some cs => okv (.slice (some ⟨Nat.mul 2 σ.next, 0, none⟩) len len) (σ.new (.row e cs.toList.length (rowT cs.toList)))
            | none => none
          | false => none
      | none => none
    | none => none
  | _ => none
def makeSliceAt (C : Ctx) (e : TypeId) (z : Value) (l c : Int) (σ : LS) : Out :=
  match l with
  | .ofNat l => match c with
    | .ofNat c => match szOf C.P e with
      | 0 => none
      | sz => match Nat.ble l c && smallLen C e c && Nat.ble c 16777216 && Nat.beq (cellsOfV z).length sz with
        | true => okv (.slice (some ⟨Nat.mul 2 σ.next, 0, none⟩) l c) (σ.new (.row e (repeatCells (cellsOfV z) c).length (rowT (repeatCells (cellsOfV z) c))))
        | false => none
    | _ => none
  | _ => none
def makeSliceOp (C : Ctx) (env : Env) (t : TypeId) (l c : Operand) (σ : LS) : Out :=
  match C.P.underlying t with
  | some (.slice e) => match zeroOf C.P e with
    | some z => match ev1 env l with
      | some (.int _ l) => match ev1 env c with
        | some (.int _ c) => makeSliceAt C e z l c σ
        | _ => none
      | _ => none
    | none => none
  | _ => none
def lookupOp (C : Ctx) (env : Env) (t : TypeId) (m k : Operand) (ok : Bool) (σ : LS) : Out :=
  match ev1 env m with
  | some m => match ev1 env k with
    | some k => okm (lookupL C σ t m k ok) σ
    | none => none
  | none => none
def mapUpdateOp (C : Ctx) (env : Env) (t : TypeId) (m k v : Operand) (σ : LS) : Out :=
  match ev1 env m with
  | some m => match ev1 env k with
    | some k => match ev1 env v with
      | some v => oks (mapUpdateL C σ t m k v) undef
      | none => none
    | none => none
  | none => none
def rangeOp (C : Ctx) (env : Env) (t : TypeId) (x : Operand) (σ : LS) : Out :=
  match ev1 env x with | some v => one (rangeL C σ t v) | none => none
def nextOp (env : Env) (it : Operand) (s : Bool) (σ : LS) : Out :=
  match ev1 env it with | some v => nextL σ v s | none => none
def entryOp (env : Env) (it : Operand) (σ : LS) : Out :=
  match ev1 env it with | some v => okm (entryL σ v) σ | none => none
def convertOp (C : Ctx) (o : Oper) (env : Env) (s d : TypeId) (x : Operand) (σ : LS) : Out :=
  match ev1 env x with
  | some v => match flat v with
    | true => pureOp C o env σ
    | false => okm (convertL C σ s d v) σ
  | none => none
def isCmp : BinOp → Bool
  | .eql | .neq | .lss | .leq | .gtr | .geq => true
  | _ => false
def numTok : Value → Bool
  | .chan (some 1) => true
  | .int .i64 _ => true
  | _ => false
def tokBin (op : BinOp) (v u : Value) (σ : LS) : Out :=
  match isCmp op && numTok v && numTok u with
  | true => some [(.bool true, σ), (.bool false, σ)]
  | false => none
def binSlow (C : Ctx) (o : Oper) (env : Env) (op : BinOp) (t : TypeId) (v u : Value) (σ : LS) : Out :=
  match flat v && flat u with
  | true => pureOp C o env σ
  | false => match op with
    | .eql => match cmpNil C.P t v u with | some b => okv (.bool b) σ | none => none
    | .neq => match cmpNil C.P t v u with | some b => okv (.bool (not b)) σ | none => none
    | _ => none
def binOpOp (C : Ctx) (o : Oper) (env : Env) (op : BinOp) (t : TypeId) (x y : Operand) (σ : LS) : Out :=
  match ev1 env x with
  | some v => match ev1 env y with
    | some u => match fastBin op v u with
      | some r => okv r σ
      | none => binSlow C o env op t v u σ
    | none => none
  | none => none
def unOpOp (C : Ctx) (o : Oper) (env : Env) (x : Operand) (σ : LS) : Out :=
  match ev1 env x with
  | some v => pureIf (flat v) C o env σ
  | none => none
def callOp (call : CallF) (env : Env) (f : Operand) (args : Array Operand) (σ : LS) : Out :=
  match ev1 env f with
  | some fv => match all1 env args.toList with
    | some args => callVal call fv args σ
    | none => none
  | none => none
def invokeOp (C : Ctx) (call : CallF) (env : Env) (r : Operand) (name : String) (args : Array Operand) (σ : LS) : Out :=
  match ev1 env r with
  | some (.iface t v) => match all1 env args.toList with
    | some args => match C.P.info? t with
      | some i => match C.P.underlying t with
        | some (.pointer _) => match i.methods.find? (·.name == name) with
          | some m => match m.func with
            | some (f, true) => match m.path.isEmpty with
              | true => call (.func f) (v :: args) σ
              | false => none
            | _ => none
          | none => none
        | _ => none
      | none => none
    | none => none
  | _ => none
def builtinOp (C : Ctx) (o : Oper) (b : Builtin) (c : Call) (env : Env) (σ : LS) : Out :=
  match all1 env c.args.toList with
  | some args => builtinL C o b c args env σ
  | none => none
def callee (C : Ctx) (call : CallF) (o : Oper) (c : Call) (env : Env) (σ : LS) : Out :=
  match c.callee with
  | .value f => callOp call env f c.args σ
  | .builtin b => builtinOp C o b c env σ
  | .invoke r name => invokeOp C call env r name c.args σ

def evOp (C : Ctx) (call : CallF) (o : Oper) (env : Env) (σ : LS) : Out :=
  match o.op with
  | .move x => moveOp env x σ
  | .assign x => moveOp env x σ
  | .pick c a b => pickOp env c a b σ
  | .alloc e => allocOp C e σ
  | .box e x => boxOp env e x σ
  | .load t a => loadOp C env t a σ
  | .store t a x => storeOp C env t a x σ
  | .nilCheck x => nilCheckOp env x σ
  | .fieldAddr s x f => fieldAddrOp C env s x f σ
  | .indexAddr t x i => indexAddrOp C env t x i σ
  | .extract t ix => extractOp env t ix σ
  | .slice t x lo hi mx => sliceOp C o env t x lo hi mx σ
  | .build t parts => buildOp C env t parts σ
  | .field t x f => fieldOp C env t x f σ
  | .index t x i => indexOp C o env t x i σ
  | .makeInterface t x => ifaceOp C env t x σ
  | .makeFunc fn a b => funcOp env fn a b σ
  | .typeAssert x _ a ok => assertOp C env x a ok σ
  | .buildSlice t len parts => buildSliceOp C env t len parts σ
  | .makeSlice t l c => makeSliceOp C env t l c σ
  | .makeMap _ r => match r with
    | none => okv (.map (some (Nat.mul 2 σ.next))) (σ.new (.map [] 0))
    | some _ => none
  | .lookup t m k ok => lookupOp C env t m k ok σ
  | .mapUpdate t m k v => mapUpdateOp C env t m k v σ
  | .insert t m k v => mapUpdateOp C env t m k v σ
  | .range t x => rangeOp C env t x σ
  | .next it s => nextOp env it s σ
  | .entry it => entryOp env it σ
  | .convert s d x => convertOp C o env s d x σ
  | .binOp op t x y _ => binOpOp C o env op t x y σ
  | .unOp _ _ x => unOpOp C o env x σ
  | .call c => callee C call o c env σ
  | _ => none

/-- the same, with what is known of tokens -/
def tokOp (o : Oper) (env : Env) (σ : LS) : Out :=
  match o.op with
  | .binOp op _ x y _ => match ev1 env x with
    | some v => match ev1 env y with
      | some u => tokBin op v u σ
      | none => none
    | none => none
  | _ => none
def evOpT (C : Ctx) (call : CallF) (o : Oper) (env : Env) (σ : LS) : Out :=
  match evOp C call o env σ with
  | some l => some l
  | none => tokOp o env σ
/-- whether the operation is wanted; none: not known -/
def wantedL (ops : Array Oper) (env : Env) (o : Oper) : Option Bool :=
  match o.guard with
  | none => some true
  | some (j, want) => match ops[j]? with
    | some oj => match oj.dst with
      | some d => match env.get d with
        | some (.bool b) => match b with | true => some want | false => some (not want)
        | some (.chan (some _)) => none
        | some _ => some false
        | none => none
      | none => none
    | none => none
def putD (env : Env) (d : Option Tmp) (v : Value) : Env := match d with | some d => env.upd d v | none => env

/-- the lists of outcomes one after the other -/
def allOf {α β : Type} (f : α → Option (List β)) : List α → Option (List β)
  | [] => some []
  | a :: l => match l with
    | [] => f a
    | l => match f a with
      | some x => match allOf f l with
        | some y => some (x ++ y)
        | none => none
      | none => none

def opsStep (C : Ctx) (call : CallF) (ops : Array Oper) (o : Oper) (ih : Env → LS → Option (List (Env × LS))) (env : Env) (σ : LS) : Option (List (Env × LS)) :=
  match wantedL ops env o with
  | some true => match evOpT C call o env σ with
    | some l => allOf (fun r => ih (putD env o.dst r.1) r.2) l
    | none => none
  | some false => ih (putD env o.dst undef) σ
  | none => none
def evOps (C : Ctx) (call : CallF) (ops : Array Oper) : List Oper → Env → LS → Option (List (Env × LS))
  | [], env, σ => some [(env, σ)]
  | o :: rest, env, σ => opsStep C call ops o (evOps C call ops rest) env σ

/-! regions that draw their order -/
def isM : Op → Bool
  | .store .. | .mapUpdate .. | .insert .. | .next .. | .range .. => true
  | .call c => match c.callee with
    | .builtin .len | .builtin .cap | .builtin .min | .builtin .max | .builtin .unsafeSliceData => false
    | _ => true
  | _ => false
def isL : Op → Bool
  | .load .. | .lookup .. | .entry .. | .convert .. => true
  | .call c => match c.callee with
    | .builtin .len => true
    | _ => false
  | _ => false
/-- what lays a block, and does nothing else -/
def isA : Op → Bool
  | .alloc _ | .box .. | .buildSlice .. | .makeSlice .. | .makeMap .. => true
  | _ => false
def opAt (ops : Array Oper) (i : Nat) : Op := match ops[i]? with | some o => o.op | none => .move (.const undef)
def onsOf (o : Oper) : List Nat := (o.after.toList.filter (Region.binds .any)).map (·.on)
def maskAt (tab : T Nat) (i : Nat) : Nat := match tab.get i with | some m => m | none => 0
def orAll (tab : T Nat) : List Nat → Nat
  | [] => 0
  | e :: l => Nat.lor (Nat.lor (Nat.pow 2 e) (maskAt tab e)) (orAll tab l)
def masks : List Oper → Nat → T Nat → T Nat
  | [], _, t => t
  | o :: rest, i, t => masks rest (Nat.succ i) (t.set i (some (orAll t (onsOf o))))
def canonGo (tab : T Nat) (all : List Nat) : List Nat → Nat → List Nat
  | [], done => all.filter fun i => !done.testBit i
  | m :: ms, done => (all.filter fun i => (maskAt tab m).testBit i && !done.testBit i) ++ (m :: canonGo tab all ms (Nat.lor done (Nat.lor (maskAt tab m) (Nat.pow 2 m))))
structure Plan where
  tab : T Nat
  order : List Nat
  ms : List Nat
  late : List (Nat × Nat × Nat)
def planOf (ops : Array Oper) : Plan :=
  let all := List.range ops.size
  let tab := masks ops.toList 0 (.full (depthFor 64 ops.size))
  let ms := all.filter fun i => isM (opAt ops i)
  let late := (all.filter fun i => isL (opAt ops i)).map fun i =>
    (i, (ms.filter fun m => (maskAt tab i).testBit m).length, ms.length - (ms.filter fun m => (maskAt tab m).testBit i).length)
  ⟨tab, canonGo tab all ms 0, ms, late⟩
def nodupN : List Nat → Bool
  | [] => true
  | a :: l => !(l.any (Nat.beq a)) && nodupN l
def tmpsOf (xs : List Operand) : List Tmp := xs.filterMap fun x => match x with | .tmp t => some t | _ => none
def usedBy (ops : Array Oper) (o : Oper) : List Tmp :=
  tmpsOf o.op.operands.toList ++ (match o.guard with | some (j, _) => (match ops[j]? with | some oj => oj.dst.toList | none => []) | none => [])
def maskOk (ops : Array Oper) (tab : T Nat) (i : Nat) : Bool :=
  match ops[i]? with
  | some o => ((onsOf o).all fun e => Nat.blt e i) && Nat.beq (maskAt tab i) (orAll tab (onsOf o))
  | none => false
def useOk (ops : Array Oper) (tab : T Nat) (seen i : Nat) (o : Oper) : Bool :=
  (List.range ops.size).all fun j => match ops[j]? with
    | some oj => match oj.dst with
      | some t => !((usedBy ops o).any (Nat.beq t)) || ((maskAt tab i).testBit j && Nat.testBit seen j)
      | none => true
    | none => true
/-- the order: every operation behind what it uses; what turns something behind everything in front of it -/
def orderOk (ops : Array Oper) (tab : T Nat) : List Nat → Nat → Bool
  | [], _ => true
  | i :: rest, seen => match ops[i]? with
    | some o => useOk ops tab seen i o && (!isM o.op || Nat.beq (Nat.land seen (maskAt tab i)) seen) && !(isM o.op && isA o.op) && !(isM o.op && isL o.op) && !(isL o.op && isA o.op) && orderOk ops tab rest (Nat.lor seen (Nat.pow 2 i))
    | none => false
def lateOk (tab : T Nat) (ms : List Nat) (i : Nat) (x : Nat × Nat × Nat) : Bool :=
  match x with
  | (j, lo, hi) => Nat.beq j i && (Nat.beq lo 0 || (maskAt tab i).testBit (ms.getD (lo - 1) 0)) && (Nat.beq hi ms.length || (maskAt tab (ms.getD hi 0)).testBit i) && Nat.ble lo hi && Nat.ble hi ms.length
def planOk (ops : Array Oper) (p : Plan) : Bool :=
  Nat.beq p.order.length ops.size && nodupN p.order && (p.order.all fun i => Nat.blt i ops.size) &&
  nodupN (ops.toList.filterMap (·.dst)) && ((List.range ops.size).all (maskOk ops p.tab)) && orderOk ops p.tab p.order 0 &&
  (p.ms == p.order.filter fun i => isM (opAt ops i)) && (p.order.all fun i => !isL (opAt ops i) || p.late.any (lateOk p.tab p.ms i))
/-- one operation of a line -/
def step1 (C : Ctx) (call : CallF) (ops : Array Oper) (o : Oper) (env : Env) (σ : LS) : Option (Value × LS) :=
  match wantedL ops env o with
  | some true => match evOp C call o env σ with
    | some [r] => match !isM o.op || Nat.ble σ.next r.2.next with
      | true => some r
      | false => none
    | _ => none
  | some false => some (undef, σ)
  | none => none
/-- the run in the canonical order, with the heaps behind each op that turns something (the newest first) -/
def lineStep (C : Ctx) (call : CallF) (ops : Array Oper) (o : Oper) (ih : Env → LS → List LS → Option (Env × LS × List LS)) (env : Env) (σ : LS) (st : List LS) : Option (Env × LS × List LS) :=
  match step1 C call ops o env σ with
  | some (v, σ') => ih (putD env o.dst v) σ' (match isM o.op with | true => σ' :: st | false => st)
  | none => none
def evLine (C : Ctx) (call : CallF) (ops : Array Oper) : List Nat → Env → LS → List LS → Option (Env × LS × List LS)
  | [], env, σ, st => some (env, σ, st)
  | i :: rest, env, σ, st => match ops[i]? with
    | some o => lineStep C call ops o (evLine C call ops rest) env σ st
    | none => none
def veqA : Value → Value → Bool
  | .bool a, .bool b => a == b
  | .int j a, .int k b => Nat.beq (kindNo j) (kindNo k) && eqI a b
  | .string a, .string b => a.data.toList == b.data.toList
  | .pointer a, .pointer b => decide (a = b)
  | .slice a l c, .slice b m d => decide (a = b) && Nat.beq l m && Nat.beq c d
  | .map a, .map b => decide (a = b)
  | .nilFunc, .nilFunc => true
  | .nilIface, .nilIface => true
  | .iface t (.pointer a), .iface u (.pointer b) => Nat.beq t u && decide (a = b)
  | .func (.func f) ⟨[]⟩ ⟨[]⟩, .func (.func g) ⟨[]⟩ ⟨[]⟩ => Nat.beq f g
  | .chan (some a), .chan (some b) => Nat.beq a b
  | _, _ => false
def veqL : List Value → List Value → Bool
  | [], [] => true
  | a :: l, b :: m => veqA a b && veqL l m
  | _, _ => false
def veq : Value → Value → Bool
  | .agg a, .agg b => veqL a.toList b.toList
  | .tuple a, .tuple b => veqL a.toList b.toList
  | a, b => veqA a b
def stageAt (st : List LS) (k : Nat) : Option LS := st[st.length - 1 - k]?
def loadAt1 (C : Ctx) (env : Env) (st : List LS) (o : Oper) (v : Value) (k : Nat) : Bool :=
  match stageAt st k with
  | some σ => match evOp C (fun _ _ _ => none) o env σ with
    | some [(u, _)] => veq u v
    | _ => false
  | none => false
def loadAll (C : Ctx) (env : Env) (st : List LS) (o : Oper) (v : Value) (lo hi : Nat) : Bool :=
  (List.range (hi + 1 - lo)).all fun k => loadAt1 C env st o v (lo + k)
def loadAgrees (C : Ctx) (ops : Array Oper) (env : Env) (st : List LS) (i lo hi : Nat) : Bool :=
  match ops[i]? with
  | some o => match wantedL ops env o with
    | some true => match o.dst with
      | some d => match env.get d with
        | some v => loadAll C env st o v lo hi
        | none => false
      | none => false
    | some false => true
    | none => false
  | none => false
def loadsAgree (C : Ctx) (ops : Array Oper) (env : Env) (st : List LS) : List (Nat × Nat × Nat) → Bool
  | [] => true
  | (i, lo, hi) :: rest => loadAgrees C ops env st i lo hi && loadsAgree C ops env st rest
def drawRun (C : Ctx) (call : CallF) (ops : Array Oper) (env : Env) (σ : LS) (p : Plan) : Option (List (Env × LS)) :=
  match evLine C call ops p.order env σ [σ] with
  | some (env', σ', st) => match loadsAgree C ops env' st p.late with
    | true => some [(env', σ')]
    | false => none
  | none => none
def evDraw (C : Ctx) (call : CallF) (ops : Array Oper) (env : Env) (σ : LS) : Option (List (Env × LS)) :=
  match planOk ops (planOf ops) with
  | true => drawRun C call ops env σ (planOf ops)
  | false => none

inductive Ex where
  | normal | exit (id : Nat) | goto (l : Nat) | ret
abbrev Outs := Option (List (Ex × Env × LS))
abbrev RunF := Code → Env → LS → Outs

def norm (r : Env × LS) : Ex × Env × LS := (.normal, r.1, r.2)
def regionR (r : Option (List (Env × LS))) : Outs := match r with | some l => some (l.map norm) | none => none
def thenRun (run : RunF) (c : Code) (r : Ex × Env × LS) : Outs :=
  match r with
  | (.normal, env, σ) => run c env σ
  | r => some [r]
def seqRun (run : RunF) (a b : Code) (env : Env) (σ : LS) : Outs :=
  match run a env σ with
  | some l => allOf (thenRun run b) l
  | none => none
def condRun (run : RunF) (c : Operand) (a b : Code) (env : Env) (σ : LS) : Outs :=
  match ev1 env c with
  | some (.bool t) => match t with
    | true => run a env σ
    | false => run b env σ
  | _ => none
def unblock (id : Nat) (r : Ex × Env × LS) : Ex × Env × LS :=
  match r with
  | (.exit id', env, σ) => match Nat.beq id' id with
    | true => (.normal, env, σ)
    | false => r
  | r => r
def blockRun (run : RunF) (id : Nat) (a : Code) (env : Env) (σ : LS) : Outs :=
  match run a env σ with
  | some l => some (l.map (unblock id))
  | none => none
def scopeNext (ih : Code → Env → LS → Outs) (body : Code) (r : Ex × Env × LS) : Outs :=
  match r with
  | (.goto g, env, σ) => match findLabel body g with
    | some rest => ih rest env σ
    | none => some [r]
  | r => some [r]
def scopeRun (run : RunF) (body : Code) : Nat → Code → Env → LS → Outs
  | 0, _, _, _ => none
  | k + 1, c, env, σ => match run c env σ with
    | some l => allOf (scopeNext (scopeRun run body k) body) l
    | none => none
def afterRange (env : Env) (d : Nat) (r : Value × LS) : Outs :=
  match r.2.heap.get (Nat.succ d) with
  | some (.loop _ _ _ _ _ false) => match r.2.heap.get d with
    | some .deferred => some [(.normal, env, { r.2.put (Nat.succ d) none with dfr := d :: r.2.dfr })]
    | _ => none
  | _ => none
/-- a function of the program's own, with a body -/
def enters (C : Ctx) (f : Value) : Bool :=
  match f with
  | .func (.func f) _ _ => match C.P.funcs[f]? with
    | some fn => fn.body.isSome
    | none => false
  | _ => false
def rangeRun (C : Ctx) (call : CallF) (f : Operand) (ps : Array Tmp) (assign body : Code) (env : Env) (σ : LS) : Outs :=
  match ev1 env f with
  | some fv => match enters C fv with
    | true => match callVal call fv [.func (.yield (Nat.mul 2 (Nat.succ σ.next))) #[] #[]] ((σ.new .deferred).new (.loop env ps assign body σ.next false)) with
      | some rs => allOf (afterRange env σ.next) rs
      | none => none
    | false => none
  | none => none
def codeStep (C : Ctx) (call : CallF) (round : Bool) (n : Nat) (run : RunF) (c : Code) (env : Env) (σ : LS) : Outs :=
  match c with
  | .skip => some [(.normal, env, σ)]
  | .region _ ops draw => match draw with
    | true => regionR (evDraw C call ops env σ)
    | false => regionR (evOps C call ops ops.toList env σ)
  | .seq a b => seqRun run a b env σ
  | .cond c a b => condRun run c a b env σ
  | .block id a => blockRun run id a env σ
  | .loop a => seqRun run a (.loop a) env σ
  | .scope a => match round with | true => none | false => scopeRun run a n a env σ
  | .rangeFunc f ps assign body => match round with | true => none | false => rangeRun C call f ps assign body env σ
  | .exit id => some [(.exit id, env, σ)]
  | .ret => some [(.ret, env, σ)]
  | .label _ => some [(.normal, env, σ)]
  | .goto l => some [(.goto l, env, σ)]
  | .refuse _ => none
def evCode (C : Ctx) (call : CallF) (round : Bool) : Nat → RunF
  | 0 => fun _ _ _ => none
  | n + 1 => codeStep C call round n (evCode C call round n)

def startEnv : List Value → Nat → Env → Env
  | [], _, e => e
  | v :: vs, i, e => startEnv vs (Nat.succ i) (e.upd i v)
def resultL (C : Ctx) (env : Env) (σ : LS) : ResultVar → Option Value
  | .tmp t => env.get t
  | .cell a ty => match env.get a with | some p => loadL C σ ty p | none => none
def resultsAll (C : Ctx) (env : Env) (σ : LS) : List ResultVar → Option (List Value)
  | [] => some []
  | r :: rs => match resultL C env σ r with
    | some v => match resultsAll C env σ rs with
      | some vs => some (v :: vs)
      | none => none
    | none => none
def resultsL (C : Ctx) (rs : List ResultVar) (env : Env) (σ : LS) : Option Value :=
  match rs with
  | [r] => resultL C env σ r
  | rs => match resultsAll C env σ rs with | some l => some (.tuple ⟨l⟩) | none => none
def killAll (σ : LS) : List Nat → LS
  | [] => σ
  | d :: ds => killAll (σ.put d none) ds
def leaveAt (C : Ctx) (rs : List ResultVar) (dfr : List Nat) (floor : Nat) (env : Env) (σ : LS) : Out :=
  match resultsL C rs env σ with
  | some v => okv v { σ with dfr := dfr, floor := floor }
  | none => none
def leave (C : Ctx) (rs : List ResultVar) (dfr : List Nat) (floor : Nat) (r : Ex × Env × LS) : Out :=
  match r with
  | (.ret, env, σ) => leaveAt C rs dfr floor env (killAll σ σ.dfr)
  | (.normal, env, σ) => leaveAt C rs dfr floor env (killAll σ σ.dfr)
  | _ => none
def allSame : List (Value × LS) → Option Value
  | [] => none
  | (v, _) :: l => match l with
    | [] => match flat v with | true => some v | false => none
    | l => match allSame l with
      | some u => match flat v && veq v u with | true => some v | false => none
      | none => none
def extL (C : Ctx) (σ : LS) (x : Ext) (args : List Value) : Option (Value × LS) :=
  match x, args with
  | .compare, [a, b] => match sliceBytes C σ a with
    | some s => match sliceBytes C σ b with
      | some t => some (.int .i64 (Extern.BytealgCompare.cmp s t), σ)
      | none => none
    | none => none
  | .indexByte, [.string s, .int .u8 n] => some (.int .i64 (match (List.range s.size).find? fun i => s[i]! == UInt8.ofNat n.toNat with | some i => (i : Int) | none => -1), σ)
  | .noEscape, [x] => some (x, σ)
  | .mapsClone, [.iface t (.map (some r))] => match mapOf σ r with
    | some (es, clock) => some (.iface t (.map (some (Nat.mul 2 σ.next))), σ.new (.map es clock))
    | none => none
  | _, _ => none
def finish (C : Ctx) (f : FuncId) (fn : Func) (σ : LS) (l : List (Ex × Env × LS)) : Out :=
  match allOf (leave C fn.results.toList σ.dfr σ.floor) l with
  | some rs => match C.quiet f with
    | true => match allSame rs with
      | some v => okv v σ
      | none => none
    | false => some rs
  | none => none
def setParams : List Tmp → List Value → Env → Env
  | t :: ts, v :: vs, e => setParams ts vs (e.upd t v)
  | _, _, e => e
def bodyRun (C : Ctx) (call : CallF) (fuel : Nat) (f : FuncId) (fn : Func) (c : Code) (args : List Value) (σ : LS) : Out :=
  match evCode C call false fuel c (startEnv args 0 (rowT (List.replicate fn.ntmps undef))) { σ with dfr := [], floor := match C.quiet f with | true => σ.next | false => σ.floor } with
  | some l => finish C f fn σ l
  | none => none
def allFlat : List Value → Bool
  | [] => true
  | v :: l => match flat v with | true => allFlat l | false => false
/-- flat, or some flat values together -/
def flat2 : Value → Bool
  | .tuple cs => allFlat cs.toList
  | v => flat v
def memoAt (C : Ctx) (f : FuncId) (args : List Value) : Option Value :=
  match C.memo f args with
  | some v => match flat2 v && allFlat args with | true => some v | false => none
  | none => none
def enterRun (C : Ctx) (call : CallF) (fuel : Nat) (f : FuncId) (args : List Value) (σ : LS) : Out :=
  match C.ext f with
  | some x => one (extL C σ x args)
  | none => match memoAt C f args with
    | some v => okv v σ
    | none => match C.P.funcs[f]? with
      | some fn => match fn.body with
        | some c => bodyRun C call fuel f fn c args σ
        | none => none
      | none => none
def flip (o : Option LObj) (was : Bool) : Option LObj :=
  match o with
  | some (.loop env ps assign body d busy) => match busy == was with
    | true => some (.loop env ps assign body d (not was))
    | false => none
  | _ => none
def roundBody (C : Ctx) (call : CallF) (fuel l : Nat) (body : Code) (dfr : List Nat) (env1 : Env) (σ1 : LS) : Out :=
  match evCode C call true fuel body env1 σ1 with
  | some [(.normal, _, σ2)] => match flip (mine σ2 l) true with
    | some o => okv (.bool true) { σ2.put (Nat.div l 2) (some o) with dfr := dfr }
    | none => none
  | _ => none
def roundRun (C : Ctx) (call : CallF) (fuel l : Nat) (env : Env) (ps : Array Tmp) (assign body : Code) (args : List Value) (dfr : List Nat) (σ : LS) : Out :=
  match evCode C call true fuel assign (setParams ps.toList args env) σ with
  | some [(.normal, env1, σ1)] => match flip (mine σ1 l) false with
    | some o => roundBody C call fuel l body dfr env1 (σ1.put (Nat.div l 2) (some o))
    | none => none
  | _ => none
def yieldRun (C : Ctx) (call : CallF) (fuel l : Nat) (args : List Value) (σ : LS) : Out :=
  match mine σ l with
  | some (.loop env ps assign body _ false) => match Nat.beq ps.size args.length with
    | true => roundRun C call fuel l env ps assign body args σ.dfr { σ with dfr := [] }
    | false => none
  | _ => none
def callStep (C : Ctx) (fuel : Nat) (ih : CallF) : CallF := fun f args σ =>
  match f with
  | .func f => enterRun C ih fuel f args σ
  | .yield l => yieldRun C ih fuel l args σ
  | _ => none
def evCall (C : Ctx) (fuel : Nat) : Nat → CallF
  | 0 => fun _ _ _ => none
  | n + 1 => callStep C fuel (evCall C fuel n)
def LS.empty : LS := ⟨.full heapDepth, 0, 0, []⟩
end Sd
