/- A run of a closed call that hangs on no tape: the evaluator. Blocks are numbered by the run itself; append always moves unless the capacity that is known suffices. -/
import Derived.Test.YtgflhpfeghplpaaGreatDoorProg
import Derived.KernelRfl
import Derived.Laws.Sem
set_option maxRecDepth 100000
namespace Go.Proofs.YtgflhpfeghplpaaGreatDoor
namespace Ev

/-! ### 1. Tables by number -/
inductive Tr (α : Type) where
  | leaf
  | node (l : Tr α) (v : Option α) (r : Tr α)
noncomputable def Tr.get {α : Type} (n : Nat) (t : Tr α) (k : Nat) : Option α :=
  Nat.rec (motive := fun _ => Tr α → Nat → Option α) (fun _ _ => none)
    (fun _ ih t k => Tr.rec (motive := fun _ => Option α) none
      (fun l v r _ _ => Nat.rec (motive := fun _ => Option α) v (fun k _ => Bool.rec (motive := fun _ => Option α) (ih r (Nat.div k 2)) (ih l (Nat.div k 2)) (Nat.beq (Nat.mod k 2) 0)) k) t) n t k
noncomputable def Tr.set {α : Type} (n : Nat) (t : Tr α) (k : Nat) (x : α) : Tr α :=
  Nat.rec (motive := fun _ => Tr α → Nat → Tr α) (fun t _ => t)
    (fun _ ih t k => Tr.rec (motive := fun _ => Tr α)
      (Nat.rec (motive := fun _ => Tr α) (.node .leaf (some x) .leaf) (fun k _ => Bool.rec (motive := fun _ => Tr α) (.node .leaf none (ih .leaf (Nat.div k 2))) (.node (ih .leaf (Nat.div k 2)) none .leaf) (Nat.beq (Nat.mod k 2) 0)) k)
      (fun l v r _ _ => Nat.rec (motive := fun _ => Tr α) (.node l (some x) r) (fun k _ => Bool.rec (motive := fun _ => Tr α) (.node l v (ih r (Nat.div k 2))) (.node (ih l (Nat.div k 2)) v r) (Nat.beq (Nat.mod k 2) 0)) k) t) n t k
def deep : Nat := 64

/-! ### 2. What there is -/
inductive AO where
  | cells (cs : List Value) (elem : TypeId) (exact : Bool)
  | map (es : List (Value × Value))
  | dead
structure AW where
  objs : Tr AO
  next : Nat
noncomputable def AW.get (s : AW) (b : Nat) : Option AO := s.objs.get deep b
noncomputable def AW.set (s : AW) (b : Nat) (o : AO) : AW := { s with objs := s.objs.set deep b o }
noncomputable def AW.push (s : AW) (o : AO) : AW := { objs := s.objs.set deep s.next o, next := s.next + 1 }
abbrev Tm := Tr Value
structure PItem where
  i : Nat
  isE : Bool
  pend : List Nat
abbrev CallT := FuncId → List Nat → List Value → AW → Option (Value × AW)
structure Cfg where
  P : Program
  /-- the program's variables that may be read -/
  G : Nat
  plans : Nat → Nat → Option (List PItem)
  /-- the functions that may be entered -/
  mask : Nat
  /-- summaries of functions with a body -/
  sp : Nat → Option (CallT → List Nat → List Value → AW → Option (Value × AW))
  /-- functions without one that yield a value -/
  ext : Nat → Option (List Value → AW → Option Value)

/-! ### 3. Values -/
def scalar : Value → Bool
  | .bool _ => true
  | .int _ _ => true
  | .float _ _ => true
  | .string _ => true
  | _ => false
def flat : Value → Bool
  | .agg cs => cs.toList.all scalar
  | v => scalar v
/-- A value without an address. -/
def closed0 : Value → Bool
  | .pointer none => true
  | .slice none _ _ => true
  | .map none => true
  | .nilFunc => true
  | .nilIface => true
  | .func _ fs bs => fs.isEmpty && bs.isEmpty
  | .tuple vs => vs.isEmpty
  | v => scalar v
def closed : Value → Bool
  | .agg cs => cs.toList.all closed0
  | .tuple cs => cs.toList.all closed0
  | v => closed0 v
def undefV : Value := .tuple #[]
noncomputable def evalO (C : Cfg) (t : Tm) : Operand → Option Value
  | .tmp i => some ((t.get deep i).getD undefV)
  | .const v => bif closed v then some v else none
  | .global g => bif Nat.blt g C.G then some (.pointer (some ⟨g, 0, none⟩)) else none
  | .func f => some (.func (.func f) #[] #[])
/-- A run that looks at no memory. -/
def prun {α : Type} (P : Program) : Sem α → Option α
  | .pure a => some a
  | .program k => prun P (k P)
  | .mark _ k => prun P k
  | _ => none
def sz (P : Program) (t : TypeId) : Nat := match P.info? t with
  | some i => i.size
  | none => 0
def agg? (P : Program) (t : TypeId) : Option Bool := match P.underlying t with
  | some (.struct _) => some true
  | some (.array _ _) => some true
  | some _ => some false
  | none => none
/-- n cells from i on. -/
def cut {α : Type} (cs : List α) (i n : Nat) : Option (List α) :=
  let r := (cs.drop i).take n
  bif Nat.beq r.length n then some r else none
/-- cells laid over others from i on -/
def lay {α : Type} (cs : List α) (i : Nat) (xs : List α) : Option (List α) :=
  bif Nat.ble (i + xs.length) cs.length then some (cs.take i ++ xs ++ cs.drop (i + xs.length)) else none
def junk : Value := .chan none
def notJunk : Value → Bool
  | .chan _ => false
  | _ => true
noncomputable def cellsAt (s : AW) (b o n : Nat) : Option (List Value) := match s.get b with
  | some (.cells cs _ _) => match cut cs o n with
    | some xs => bif xs.all notJunk then some xs else none
    | none => none
  | _ => none
def zeroOf (P : Program) (t : TypeId) : Option Value := match P.info? t with
  | some i => match i.zero with
    | some z => bif (z.cells.toList.all closed0) then some z else none
    | none => none
  | none => none
def partOf (P : Program) (t : TypeId) (cs : Array Value) (off : Nat) : Option Value := do
  match ← agg? P t with
  | true => some (.agg (cs.extract off (off + sz P t)))
  | false => cs[off]?
def emptyAt : Addr := ⟨0, 0, some 7⟩

def noInt (P : Program) (xt : Option TypeId) : Bool := match xt with
  | some t => match P.underlying t with
    | some (.int _) => false
    | some _ => true
    | none => false
  | none => false
def bytesOf (P : Program) (t : TypeId) : Nat := match P.info? t with
  | some i => i.bytes
  | none => 0

/-! ### 4. Operations that may be done early -/
structure VR where
  v : Value
  rd : List Nat := []
  al : Option AO := none
def evals (ev : Operand → Option Value) : List Operand → Option (List Value)
  | [] => some []
  | x :: r => do
    let v ← ev x
    let vs ← evals ev r
    some (v :: vs)
def evalO? (ev : Operand → Option Value) : Option Operand → Option (Option Value)
  | none => some none
  | some x => (ev x).map some
def evParts (ev : Operand → Option Value) : List (Nat × Operand) → Option (List (Nat × Value))
  | [] => some []
  | (i, x) :: r => do
    let v ← ev x
    let vs ← evParts ev r
    some ((i, v) :: vs)
def natOf : Value → Option Nat
  | .int _ (.ofNat n) => some n
  | _ => none
def natD (x : Option Value) (d : Nat) : Option Nat := match x with
  | some v => natOf v
  | none => some d
noncomputable def loadV (P : Program) (s : AW) (t : TypeId) (b o : Nat) : Option Value := match agg? P t with
  | some true => (cellsAt s b o (sz P t)).map fun cs => .agg cs.toArray
  | some false => match cellsAt s b o 1 with
    | some [v] => some v
    | _ => none
  | none => none
/-- What only reckons, at operands without an address. -/
def vflat (C : Cfg) (ev : Operand → Option Value) (o : Oper) : Option VR := do
  let vs ← evals ev o.op.operands.toList
  bif vs.all flat then
    match prun C.P (execOp (fun x => (ev x).getD undefV) o) with
    | some (.value v) => bif flat v then some { v } else none
    | _ => none
  else none
def nilEq (d : TypeDesc) : Value → Value → Option Bool
  | .pointer none, .pointer b => match d with | .pointer _ => some b.isNone | _ => none
  | .pointer (some _), .pointer none => match d with | .pointer _ => some false | _ => none
  | .slice none _ _, .slice b _ _ => match d with | .slice _ => some b.isNone | _ => none
  | .slice (some _) _ _, .slice none _ _ => match d with | .slice _ => some false | _ => none
  | .map none, .map b => match d with | .map _ _ => some b.isNone | _ => none
  | .map (some _), .map none => match d with | .map _ _ => some false | _ => none
  | _, _ => none
def sliceV (P : Program) (t : TypeId) (x : Value) (lo hi mx : Option Value) : Option Value := do
  match P.underlying t, x with
  | some (.slice e), .slice a n ca =>
    let h ← natD hi n
    let l ← natD lo 0
    match mx with
    | none =>
      bif Nat.ble l h && Nat.ble h ca && Nat.blt 0 (sz P e) then
        match a with
        | none => some (.slice none (h - l) (ca - l))
        | some a => match a.spot with
          | none => some (.slice (some ⟨a.block, a.off + l * sz P e, none⟩) (h - l) (ca - l))
          | some _ => some (.slice (some a) 0 0)
      else none
    | some m => do
      let m ← natOf m
      bif hi.isSome && Nat.beq l h && Nat.beq h m && Nat.ble m ca && Nat.blt 0 (sz P e) then
        match a with
        | none => some (.slice none 0 0)
        | some _ => some (.slice (some emptyAt) 0 0)
      else none
  | _, _ => none
def toME (es : List (Value × Value)) : List MapEntry := es.map fun e => { key := e.1, val := e.2, born := 0 }
def findV (P : Program) (t : TypeId) (k : Value) (empty : Bool) (es : List (Value × Value)) : Option (Option (Nat × Value)) := do
  bif flat k then do
    let _ ← prun P (Instr.checkKey empty 10000 t k)
    prun P (Instr.findKey t k (toME es))
  else none
def vMove (ev : Operand → Option Value) (x : Operand) : Option VR := do some { v := ← ev x }
def vPick (ev : Operand → Option Value) (c a b : Operand) : Option VR := do
  match ← ev c with
  | .bool true => some { v := ← ev a }
  | .bool false => some { v := ← ev b }
  | _ => none
def vAlloc (C : Cfg) (nb : Nat) (e : TypeId) : Option VR := do
  let z ← zeroOf C.P e
  some { v := .pointer (some ⟨nb, 0, none⟩), al := some (.cells z.cells.toList e true) }
def vBox (nb : Nat) (ev : Operand → Option Value) (e : TypeId) (x : Operand) : Option VR := do
  let v ← ev x
  some { v := .pointer (some ⟨nb, 0, none⟩), al := some (.cells v.cells.toList e true) }
def vBuild (C : Cfg) (ev : Operand → Option Value) (t : TypeId) (parts : Array (Nat × Operand)) : Option VR := do
  let ps ← evParts ev parts.toList
  let z ← zeroOf C.P t
  match C.P.underlying t with
  | some (.struct fs) => bif fs.toList.all (fun f => Nat.blt 0 (sz C.P f.type)) then do
      let cs ← Instr.fill (fun i => (fs[i]?).map fun f => (f.offset, sz C.P f.type)) z.cells ps
      some { v := .agg cs }
    else none
  | _ => none
def vBuildSlice (C : Cfg) (nb : Nat) (ev : Operand → Option Value) (t : TypeId) (n : Nat) (parts : Array (Nat × Operand)) : Option VR := do
  let ps ← evParts ev parts.toList
  match C.P.underlying t with
  | some (.slice e) => do
    let z ← zeroOf C.P e
    let k := sz C.P e
    bif Nat.ble (n * k) 4096 && Nat.blt 0 z.cells.size && Nat.blt 0 k then do
      let cs ← Instr.fill (fun i => some (i * k, k)) ((Array.range (n * k)).map fun i => z.cells[i % z.cells.size]!) ps
      some { v := .slice (some ⟨nb, 0, none⟩) n n, al := some (.cells cs.toList e true) }
    else none
  | _ => none
noncomputable def vLoad (C : Cfg) (ev : Operand → Option Value) (s : AW) (t : TypeId) (a : Operand) : Option VR := do
  match ← ev a with
  | .pointer (some ⟨b, o, none⟩) => do some { v := ← loadV C.P s t b o, rd := [b] }
  | _ => none
def vNil (ev : Operand → Option Value) (x : Operand) : Option VR := do
  let v ← ev x
  match v with
  | .pointer (some _) => some { v }
  | .slice _ _ _ => some { v }
  | .func (.func _) _ _ => some { v }
  | .iface _ _ => some { v }
  | _ => none
def smallI : Int → Bool
  | .ofNat n => Nat.ble n 1000000000000
  | .negSucc n => Nat.ble n 1000000000000
def fastInt (op : BinOp) (a b : Int) : Option Value := match op with
  | .lss => some (.bool (decide (a < b)))
  | .leq => some (.bool (decide (a ≤ b)))
  | .gtr => some (.bool (decide (a > b)))
  | .geq => some (.bool (decide (a ≥ b)))
  | .eql => some (.bool (decide (a = b)))
  | .neq => some (.bool !(decide (a = b)))
  | .add => bif smallI (a + b) then some (.int .i64 (a + b)) else none
  | .sub => bif smallI (a - b) then some (.int .i64 (a - b)) else none
  | _ => none
def vBin2 (C : Cfg) (op : BinOp) (t : TypeId) (a b : Value) : Option VR :=
  match op with
  | .eql => do
    let d ← C.P.underlying t
    let r ← nilEq d a b
    some { v := .bool r }
  | .neq => do
    let d ← C.P.underlying t
    let r ← nilEq d a b
    some { v := .bool !r }
  | .gtr => match a, b with
    | .int .i64 (.ofNat n), .complex .f64 k 0 => bif Nat.ble n k then some { v := .bool false } else none
    | _, _ => none
  | _ => none
def fastV (op : BinOp) (a b : Value) : Option Value := match a, b with
  | .int .i64 m, .int .i64 n => fastInt op m n
  | _, _ => none
def vBin (C : Cfg) (ev : Operand → Option Value) (o : Oper) (op : BinOp) (t : TypeId) (x y : Operand) : Option VR := do
  let a ← ev x
  let b ← ev y
  match fastV op a b with
  | some v => some { v }
  | none => match vflat C ev o with
    | some r => some r
    | none => vBin2 C op t a b
def vMakeI (C : Cfg) (ev : Operand → Option Value) (t : TypeId) (x : Operand) : Option VR := do
  let v ← ev x
  match C.P.underlying t with
  | some (.interface _) => none
  | some _ => some { v := .iface t v }
  | none => none
def vMakeF (ev : Operand → Option Value) (fn : Fn) (first captured : Array Operand) : Option VR := do
  let fs ← evals ev first.toList
  let cs ← evals ev captured.toList
  some { v := .func fn fs.toArray cs.toArray }
def vMakeM (nb : Nat) (r : Option Operand) : Option VR := match r with
  | none => some { v := .map (some nb), al := some (.map []) }
  | some _ => none
def vMakeS (C : Cfg) (nb : Nat) (ev : Operand → Option Value) (t : TypeId) (l c : Operand) : Option VR := do
  let n ← natOf (← ev l)
  let k ← natOf (← ev c)
  match C.P.underlying t with
  | some (.slice e) => do
    let z ← zeroOf C.P e
    bif Nat.ble n k && Nat.ble (bytesOf C.P e * k) 1048576 && Nat.ble k 1048576 && Nat.beq z.cells.size (sz C.P e) && Nat.blt 0 (sz C.P e) then
      some { v := .slice (some ⟨nb, 0, none⟩) n k, al := some (.cells ((Array.range (k * sz C.P e)).map fun i => z.cells[i % z.cells.size]!).toList e true) }
    else none
  | _ => none
def vSlice (C : Cfg) (ev : Operand → Option Value) (o : Oper) (t : TypeId) (x : Operand) (lo hi mx : Option Operand) : Option VR := do
  match ← ev x with
  | .string _ => vflat C ev o
  | v => do
    let lo ← evalO? ev lo
    let hi ← evalO? ev hi
    let mx ← evalO? ev mx
    let r ← sliceV C.P t v lo hi mx
    some { v := r }
def vFieldAddr (C : Cfg) (ev : Operand → Option Value) (t : TypeId) (x : Operand) (f : Nat) : Option VR := do
  match ← ev x with
  | .pointer (some ⟨b, o, none⟩) => match C.P.underlying t with
    | some (.struct fs) => do
      let f ← fs[f]?
      bif Nat.beq (sz C.P f.type) 0 then none else some { v := .pointer (some ⟨b, o + f.offset, none⟩) }
    | _ => none
  | _ => none
def vField (C : Cfg) (ev : Operand → Option Value) (t : TypeId) (x : Operand) (f : Nat) : Option VR := do
  match ← ev x with
  | .agg cs => match C.P.underlying t with
    | some (.struct fs) => do
      let f ← fs[f]?
      some { v := ← partOf C.P f.type cs f.offset }
    | _ => none
  | _ => none
def vIndexAddr (C : Cfg) (ev : Operand → Option Value) (t : TypeId) (x ix : Operand) : Option VR := do
  let i ← natOf (← ev ix)
  match C.P.underlying t, ← ev x with
  | some (.slice e), .slice (some ⟨b, o, none⟩) n _ => bif Nat.blt i n && Nat.blt 0 (sz C.P e) then some { v := .pointer (some ⟨b, o + i * sz C.P e, none⟩) } else none
  | some (.array n e), .pointer (some ⟨b, o, none⟩) => bif Nat.blt i n && Nat.blt 0 (sz C.P e) then some { v := .pointer (some ⟨b, o + i * sz C.P e, none⟩) } else none
  | _, _ => none
def vIndex (C : Cfg) (ev : Operand → Option Value) (o : Oper) (t : TypeId) (x ix : Operand) : Option VR := do
  match ← ev x with
  | .string _ => vflat C ev o
  | .agg cs => do
    let i ← natOf (← ev ix)
    match C.P.underlying t with
    | some (.array n e) => bif Nat.blt i n && Nat.blt 0 (sz C.P e) then do some { v := ← partOf C.P e cs (i * sz C.P e) } else none
    | _ => none
  | _ => none
noncomputable def vLookup (C : Cfg) (ev : Operand → Option Value) (s : AW) (t : TypeId) (x ix : Operand) (ok : Bool) : Option VR := do
  let k ← ev ix
  match C.P.underlying t, ← ev x with
  | some (.map kt et), .map (some b) => do
    match s.get b with
    | some (.map es) => do
      let z ← zeroOf C.P et
      match ← findV C.P kt k es.isEmpty es with
      | some (_, v) => some { v := bif ok then .tuple #[v, .bool true] else v, rd := [b] }
      | none => some { v := bif ok then .tuple #[z, .bool false] else z, rd := [b] }
    | _ => none
  | _, _ => none
def vExtract (ev : Operand → Option Value) (x : Operand) (i : Nat) : Option VR := do
  match ← ev x with
  | .tuple vs => do some { v := ← vs[i]? }
  | _ => none
def vLen (C : Cfg) (ev : Operand → Option Value) (o : Oper) (args : Array Operand) (argTypes : Array TypeId) : Option VR :=
  match args.toList, argTypes.toList with
  | [x], [t] => do
    match C.P.underlying t, ← ev x with
    | some (.slice _), .slice _ n _ => some { v := .int .i64 n }
    | _, _ => vflat C ev o
  | _, _ => none
noncomputable def vCap (C : Cfg) (ev : Operand → Option Value) (s : AW) (args : Array Operand) (argTypes : Array TypeId) : Option VR :=
  match args.toList, argTypes.toList with
  | [x], [t] => do
    match C.P.underlying t, ← ev x with
    | some (.slice _), .slice (some ⟨b, _, none⟩) _ ca => match s.get b with
      | some (.cells _ _ true) => some { v := .int .i64 ca, rd := [b] }
      | _ => some { v := .complex .f64 ca 0, rd := [b] }
    | _, _ => none
  | _, _ => none
noncomputable def vBuiltin (C : Cfg) (ev : Operand → Option Value) (s : AW) (o : Oper) (b : Builtin) (args : Array Operand) (argTypes : Array TypeId) : Option VR :=
  match b with
  | .len => vLen C ev o args argTypes
  | .cap => vCap C ev s args argTypes
  | .min => vflat C ev o
  | .max => vflat C ev o
  | _ => none
noncomputable def vCall (C : Cfg) (ev : Operand → Option Value) (s : AW) (o : Oper) (c : Call) : Option VR :=
  match c.callee with
  | .builtin b => vBuiltin C ev s o b c.args c.argTypes
  | _ => none
noncomputable def vop (C : Cfg) (nb : Nat) (ev : Operand → Option Value) (s : AW) (o : Oper) : Option VR :=
  match o.op with
  | .move x => vMove ev x
  | .assign x => vMove ev x
  | .pick c a b => vPick ev c a b
  | .alloc e => vAlloc C nb e
  | .box e x => vBox nb ev e x
  | .build t parts => vBuild C ev t parts
  | .buildSlice t n parts => vBuildSlice C nb ev t n parts
  | .load t a => vLoad C ev s t a
  | .nilCheck x => vNil ev x
  | .binOp op t x y _ => vBin C ev o op t x y
  | .unOp _ _ _ => vflat C ev o
  | .convert _ _ _ => vflat C ev o
  | .makeInterface t x => vMakeI C ev t x
  | .makeFunc fn first captured => vMakeF ev fn first captured
  | .makeMap _ r => vMakeM nb r
  | .makeSlice t l c => vMakeS C nb ev t l c
  | .slice t x lo hi mx => vSlice C ev o t x lo hi mx
  | .fieldAddr t x f => vFieldAddr C ev t x f
  | .field t x f => vField C ev t x f
  | .indexAddr t x ix => vIndexAddr C ev t x ix
  | .index t x ix => vIndex C ev o t x ix
  | .lookup t x ix ok => vLookup C ev s t x ix ok
  | .extract x i => vExtract ev x i
  | .call c => vCall C ev s o c
  | _ => none

/-! ### 5. Operations in their order -/
def isE : Op → Bool
  | .store _ _ _ => true
  | .mapUpdate _ _ _ _ => true
  | .insert _ _ _ _ => true
  | .call { callee := .builtin b, .. } => match b with
    | .len => false
    | .cap => false
    | .min => false
    | .max => false
    | _ => true
  | .call _ => true
  | _ => false
def free (prot : List Nat) (b : Nat) : Bool := !(prot.any fun x => Nat.beq x b)
/-- May the block be written? -/
def ownB (C : Cfg) (prot : List Nat) (b : Nat) : Bool := Nat.ble C.G b && free prot b
noncomputable def writeAt (C : Cfg) (prot : List Nat) (s : AW) (b o : Nat) (xs : List Value) : Option AW :=
  match s.get b with
  | some (.cells cs e x) => bif ownB C prot b && xs.all Value.oneCell' then do
      let cs' ← lay cs o xs
      some (s.set b (.cells cs' e x))
    else none
  | _ => none
noncomputable def srcCells (s : AW) (size : Nat) (n : Nat) : Value → Option (List Value)
  | .slice (some ⟨b, o, none⟩) _ _ => cellsAt s b o (n * size)
  | .slice (some ⟨_, _, some _⟩) _ _ => bif Nat.beq n 0 then some [] else none
  | .slice none _ _ => bif Nat.beq n 0 then some [] else none
  | .string t => bif Nat.beq size 1 then some (((t.extract 0 n).data.map fun b => Value.int .u8 b.toNat).toList) else none
  | _ => none
def lenV : Value → Option Nat
  | .slice _ n _ => some n
  | .string t => some t.size
  | _ => none
/-- append(xs, make([]T, k)...) where that makes a new row. -/
noncomputable def appendZ (C : Cfg) (s : AW) (t : TypeId) (v x : Value) : Option (Value × AW) := do
  match C.P.underlying t, v with
  | some (.slice e), .slice (some ⟨b, o, none⟩) n ca => bif Nat.blt 0 (sz C.P e) then do
      let k ← natOf x
      let z ← zeroOf C.P e
      let old ← cellsAt s b o (n * sz C.P e)
      match s.get b with
      | some (.cells _ _ true) =>
        bif !(Nat.ble (n + k) ca) && Nat.beq z.cells.size (sz C.P e) && Nat.ble (bytesOf C.P e) 65536 && Nat.blt 0 (bytesOf C.P e) && Nat.ble (n + k) 1048576 && Nat.blt 0 k then
          some (.slice (some ⟨s.next, 0, none⟩) (n + k) (n + k), s.push (.cells (old ++ (Builtin.zeroCells z.cells k).toList) e false))
        else none
      | _ => none
    else none
  | _, _ => none
def isIntT (P : Program) (xt : Option TypeId) : Bool := match xt with
  | some t => match P.underlying t with
    | some (.int _) => true
    | _ => false
  | none => false
noncomputable def appendV (C : Cfg) (prot : List Nat) (s : AW) (t : TypeId) (xt : Option TypeId) (v x : Value) : Option (Value × AW) := do
  match C.P.underlying t, v with
  | some (.slice e), .slice a n ca => bif noInt C.P xt && Nat.blt 0 (sz C.P e) then do
      let k ← lenV x
      let xs ← srcCells s (sz C.P e) k x
      bif Nat.ble (n + k) ca then
        bif Nat.beq k 0 then some (.slice a n ca, s) else
          match a with
          | some ⟨b, o, none⟩ => do
            let s' ← writeAt C prot s b (o + n * sz C.P e) xs
            some (.slice a (n + k) ca, s')
          | _ => none
      else do
        let z ← zeroOf C.P e
        bif Nat.beq z.cells.size (sz C.P e) && Nat.ble (bytesOf C.P e) 65536 && Nat.blt 0 (bytesOf C.P e) && Nat.ble (n + k) 1048576 then
          match a with
          | some ⟨b, o, none⟩ => do
            let old ← cellsAt s b o (n * sz C.P e)
            match s.get b with
            | some (.cells cs e' ex) =>
              bif ex then some (.slice (some ⟨s.next, 0, none⟩) (n + k) (n + k), s.push (.cells (old ++ xs) e false))
              else bif ownB C prot b && Nat.beq e e' && Nat.beq (o + ca * sz C.P e) cs.length && xs.all Value.oneCell' then
                some (.slice (some ⟨s.next, 0, none⟩) (n + k) (n + k), (s.set b .dead).push (.cells (old ++ xs) e false))
              else none
            | _ => none
          | some ⟨0, 0, some 7⟩ => bif Nat.beq n 0 && Nat.beq ca 0 then some (.slice (some ⟨s.next, 0, none⟩) k k, s.push (.cells xs e false)) else none
          | none => bif Nat.beq n 0 && Nat.beq ca 0 then some (.slice (some ⟨s.next, 0, none⟩) k k, s.push (.cells xs e false)) else none
          | _ => none
        else none
    else none
  | _, _ => none
noncomputable def copyV (C : Cfg) (prot : List Nat) (s : AW) (t : TypeId) (v x : Value) : Option (Value × AW) := do
  match C.P.underlying t, v with
  | some (.slice e), .slice a n _ => bif Nat.blt 0 (sz C.P e) then do
      let k ← lenV x
      let xs ← srcCells s (sz C.P e) (Nat.min k n) x
      bif Nat.beq (Nat.min k n) 0 then some (.int .i64 (Nat.min k n), s) else
        match a with
        | some ⟨b, o, none⟩ => do
          let s' ← writeAt C prot s b o xs
          some (.int .i64 (Nat.min k n), s')
        | _ => none
    else none
  | _, _ => none
def updV (k v : Value) : List (Value × Value) → Nat → List (Value × Value)
  | [], _ => []
  | _ :: es, 0 => (k, v) :: es
  | e :: es, i + 1 => e :: updV k v es i
noncomputable def mapUpd (C : Cfg) (prot : List Nat) (s : AW) (t : TypeId) (m k v : Value) : Option AW := do
  match C.P.underlying t, m with
  | some (.map kt _), .map (some b) => do
    match s.get b with
    | some (.map es) => bif ownB C prot b then do
        match ← findV C.P kt k false es with
        | some (i, _) => do
          let e ← es[i]?
          let k' ← prun C.P (Instr.keyThatStays e.1 k)
          some (s.set b (.map (updV k' v es i)))
        | none => some (s.set b (.map (es ++ [(k, v)])))
      else none
    | _ => none
  | _, _ => none
def target (C : Cfg) (ev : Operand → Option Value) (c : Call) : Option (FuncId × List Value) := do
  let args ← evals ev c.args.toList
  match c.callee with
  | .value f => do
    match ← ev f with
    | .func (.func f) first captured => some (f, first.toList ++ args ++ captured.toList)
    | _ => none
  | .invoke r name => do
    match ← ev r with
    | .iface t v => do
      let i ← C.P.info? t
      let m ← i.methods.find? (·.name == name)
      bif m.path.isEmpty then
        match m.func, C.P.underlying t with
        | some (f, true), some (.pointer _) => some (f, v :: args)
        | _, _ => none
      else none
    | _ => none
  | .builtin _ => none
noncomputable def eStore (C : Cfg) (prot : List Nat) (ev : Operand → Option Value) (s : AW) (t : TypeId) (a x : Operand) : Option (Value × AW) := do
  let v ← ev x
  match ← ev a with
  | .pointer (some ⟨b, o, none⟩) => bif Nat.beq v.cells.size (sz C.P t) && Nat.blt 0 (sz C.P t) then do
      let s' ← writeAt C prot s b o v.cells.toList
      some (undefV, s')
    else none
  | _ => none
noncomputable def eMap (C : Cfg) (prot : List Nat) (ev : Operand → Option Value) (s : AW) (t : TypeId) (m k x : Operand) : Option (Value × AW) := do
  let s' ← mapUpd C prot s t (← ev m) (← ev k) (← ev x)
  some (undefV, s')
noncomputable def eAppend (C : Cfg) (prot : List Nat) (ev : Operand → Option Value) (s : AW) (args : Array Operand) (argTypes : Array TypeId) : Option (Value × AW) :=
  match args.toList, argTypes[0]? with
  | [x, y], some t => do
    let x ← ev x
    let y ← ev y
    bif isIntT C.P argTypes[1]? then appendZ C s t x y else appendV C prot s t argTypes[1]? x y
  | _, _ => none
noncomputable def eCopy (C : Cfg) (prot : List Nat) (ev : Operand → Option Value) (s : AW) (args : Array Operand) (argTypes : Array TypeId) : Option (Value × AW) :=
  match args.toList, argTypes[0]? with
  | [x, y], some t => do copyV C prot s t (← ev x) (← ev y)
  | _, _ => none
noncomputable def eBuiltin (C : Cfg) (prot : List Nat) (ev : Operand → Option Value) (s : AW) (b : Builtin) (args : Array Operand) (argTypes : Array TypeId) : Option (Value × AW) :=
  match b with
  | .append => eAppend C prot ev s args argTypes
  | .copy => eCopy C prot ev s args argTypes
  | _ => none
noncomputable def eFunc (C : Cfg) (call : CallT) (prot : List Nat) (ev : Operand → Option Value) (s : AW) (c : Call) : Option (Value × AW) := do
  let (f, args) ← target C ev c
  match C.ext f with
  | some g => do
    let v ← g args s
    some (v, s)
  | none => call f prot args s
noncomputable def eCall (C : Cfg) (call : CallT) (prot : List Nat) (ev : Operand → Option Value) (s : AW) (c : Call) : Option (Value × AW) :=
  match c.callee with
  | .builtin b => eBuiltin C prot ev s b c.args c.argTypes
  | _ => eFunc C call prot ev s c
noncomputable def eop (C : Cfg) (call : CallT) (prot : List Nat) (ev : Operand → Option Value) (s : AW) (o : Oper) : Option (Value × AW) :=
  match o.op with
  | .store t a x => eStore C prot ev s t a x
  | .mapUpdate t m k x => eMap C prot ev s t m k x
  | .insert t m k x => eMap C prot ev s t m k x
  | .call c => eCall C call prot ev s c
  | _ => none

/-! ### 6. Regions, code, calls -/
noncomputable def want (t : Tm) (ops : Array Oper) (o : Oper) : Bool := match o.guard with
  | none => true
  | some (j, w) => match (ops[j]?).bind (·.dst) with
    | some d => match t.get deep d with
      | some (.bool b) => b == w
      | _ => false
    | none => false
noncomputable def put (n : Nat) (t : Tm) (d : Option Tmp) (v : Value) : Option Tm := match d with
  | none => some t
  | some d => bif Nat.blt d n then some (t.set deep d v) else none
/-- One operation; what it read or made. -/
noncomputable def step1 (C : Cfg) (call : CallT) (prot : List Nat) (t : Tm) (s : AW) (ops : Array Oper) (o : Oper) : Option (Value × AW × List Nat) :=
  bif want t ops o then
    bif isE o.op then do
      let (v, s') ← eop C call prot (evalO C t) s o
      some (v, s', [])
    else do
      let r ← vop C s.next (evalO C t) s o
      bif r.rd.all (fun b => Nat.blt b s.next) then
        match r.al with
        | none => some (r.v, s, r.rd)
        | some ob => some (r.v, s.push ob, s.next :: r.rd)
      else none
  else some (undefV, s, [])
noncomputable def seqOps (C : Cfg) (call : CallT) (prot : List Nat) (n : Nat) (ops : Array Oper) : List Oper → Tm → AW → Option (Tm × AW)
  | [], t, s => some (t, s)
  | o :: r, t, s => do
    let (v, s', _) ← step1 C call prot t s ops o
    let t' ← put n t o.dst v
    seqOps C call prot n ops r t' s'
/-- The blocks that what is not surely done yet has touched. -/
def touched (pend : List Nat) : List (Nat × List Nat) → List Nat
  | [] => []
  | (i, bs) :: r => bif pend.any (fun j => Nat.beq i j) then bs ++ touched pend r else touched pend r
noncomputable def anyOps (C : Cfg) (call : CallT) (prot : List Nat) (n : Nat) (ops : Array Oper) : List PItem → List (Nat × List Nat) → Tm → AW → Option (Tm × AW)
  | [], _, t, s => some (t, s)
  | p :: r, h, t, s => do
    let o ← ops[p.i]?
    let (v, s', bs) ← step1 C call (bif p.isE then touched p.pend h ++ prot else prot) t s ops o
    let t' ← put n t o.dst v
    anyOps C call prot n ops r (bif p.isE then h else (p.i, bs) :: h) t' s'
inductive Ex where
  | normal
  | exit (id : Nat)
  | ret
noncomputable def code (C : Cfg) (call : CallT) (f : FuncId) (prot : List Nat) (n : Nat) : Nat → Code → Tm → AW → Option (Ex × Tm × AW)
  | 0, _, _, _ => none
  | k + 1, c, t, s => match c with
    | .skip => some (.normal, t, s)
    | .label _ => some (.normal, t, s)
    | .seq x y => match code C call f prot n k x t s with
      | some (.normal, t', s') => code C call f prot n k y t' s'
      | e => e
    | .cond c x y => match evalO C t c with
      | some (.bool true) => code C call f prot n k x t s
      | some (.bool false) => code C call f prot n k y t s
      | _ => none
    | .block id x => match code C call f prot n k x t s with
      | some (.exit id', t', s') => bif Nat.beq id' id then some (.normal, t', s') else some (.exit id', t', s')
      | e => e
    | .loop x => match code C call f prot n k x t s with
      | some (.normal, t', s') => code C call f prot n k (.loop x) t' s'
      | e => e
    | .scope x => code C call f prot n k x t s
    | .exit id => some (.exit id, t, s)
    | .ret => some (.ret, t, s)
    | .region _ ops false => (seqOps C call prot n ops ops.toList t s).map fun (t, s) => (.normal, t, s)
    | .region id ops true => match C.plans f id with
      | some ps => (anyOps C call prot n ops ps [] t s).map fun (t, s) => (.normal, t, s)
      | none => none
    | _ => none
noncomputable def resultsV (C : Cfg) (t : Tm) (s : AW) : List ResultVar → Option (List Value)
  | [] => some []
  | .tmp i :: r => do
    let vs ← resultsV C t s r
    some ((t.get deep i).getD undefV :: vs)
  | .cell a ty :: r => do
    match (t.get deep a).getD undefV with
    | .pointer (some ⟨b, o, none⟩) => do
      let v ← loadV C.P s ty b o
      let vs ← resultsV C t s r
      some (v :: vs)
    | _ => none
noncomputable def args0 : List Value → Nat → Tm → Tm
  | [], _, t => t
  | v :: r, i, t => args0 r (i + 1) (t.set deep i v)
def fuel : Nat := 100000
noncomputable def bodyF (C : Cfg) (call : CallT) : CallT := fun f prot args s =>
  match C.P.funcs[f]? with
  | some fn => match fn.body with
    | some c => bif Nat.ble args.length fn.ntmps && Nat.ble fn.ntmps 10000 then
        match code C call f prot fn.ntmps fuel c (args0 args 0 .leaf) s with
        | some (.exit _, _, _) => none
        | some (_, t, s') => match resultsV C t s' fn.results.toList with
          | some [v] => some (v, s')
          | some vs => some (.tuple vs.toArray, s')
          | none => none
        | none => none
      else none
    | none => none
  | none => none
noncomputable def callF (C : Cfg) : Nat → CallT
  | 0, _, _, _, _ => none
  | k + 1, f, prot, args, s => match C.sp f with
    | some g => g (callF C k) prot args s
    | none => bif C.mask.testBit f then bodyF C (callF C k) f prot args s else none
end Ev
end Go.Proofs.YtgflhpfeghplpaaGreatDoor
