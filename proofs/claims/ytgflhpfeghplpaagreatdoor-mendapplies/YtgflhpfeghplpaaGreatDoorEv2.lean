/- The evaluator's summaries of functions that look at a capacity, or defer; orders of regions. -/
import Derived.Test.YtgflhpfeghplpaaGreatDoorEv1
set_option maxRecDepth 100000
namespace Go.Proofs.YtgflhpfeghplpaaGreatDoor
namespace Ev
/-- The same value? (of those that occur) -/
def veq : Value → Value → Bool
  | .bool a, .bool b => a == b
  | .int k a, .int k' b => k == k' && decide (a = b)
  | .string a, .string b => a.toList == b.toList
  | .pointer none, .pointer none => true
  | .pointer (some a), .pointer (some b) => Nat.beq a.block b.block && Nat.beq a.off b.off && a.spot.isNone && b.spot.isNone
  | .slice none n k, .slice none m l => Nat.beq n m && Nat.beq k l
  | .slice (some a) n k, .slice (some b) m l => Nat.beq a.block b.block && Nat.beq a.off b.off && a.spot.isNone && b.spot.isNone && Nat.beq n m && Nat.beq k l
  | _, _ => false
def vseq : List Value → List Value → Bool
  | [], [] => true
  | a :: r, b :: r' => veq a b && vseq r r'
  | _, _ => false
/-- slices.Insert of one element ahead of others: its body is run twice: where the capacity is known to be full, and where one place more is known to be there. -/
noncomputable def insertV (C : Cfg) (f : FuncId) (call : CallT) (prot : List Nat) (args : List Value) (s : AW) : Option (Value × AW) := do
  match args with
  | [.slice (some ⟨b, o, none⟩) n ca, i, .slice (some ⟨b', o', none⟩) 1 ca'] => do
    let k ← natOf i
    match s.get b with
    | some (.cells cs e false) =>
      bif Nat.blt k n && ownB C prot b && Nat.beq ca n && Nat.beq (sz C.P e) 1 && Nat.beq (o + ca) cs.length then do
        let old ← cellsAt s b o n
        let all := List.range s.next
        let (v1, s1) ← bodyF C call f all args (s.set b (.cells cs e true))
        let (v2, s2) ← bodyF C call f all [.slice (some ⟨s.next, 0, none⟩) n (n + 1), i, .slice (some ⟨b', o', none⟩) 1 ca'] ((s.set b .dead).push (.cells (old ++ [junk]) e false))
        match v1, s1.get s.next, v2, s2.get s.next with
        | .slice (some ⟨c1, d1, none⟩) l1 k1, some (.cells cs1 e1 false), .slice (some ⟨c2, d2, none⟩) l2 k2, some (.cells cs2 e2 false) =>
          bif Nat.beq c1 s.next && Nat.beq c2 s.next && Nat.beq d1 d2 && Nat.beq l1 l2 && Nat.beq k1 k2 && Nat.beq e1 e2 && vseq cs1 cs2 && Nat.beq s1.next (s.next + 1) && Nat.beq s2.next (s.next + 1) then some (v2, s2) else none
        | _, _, _, _ => none
      else bodyF C call f prot args s
    | _ => bodyF C call f prot args s
  | _ => bodyF C call f prot args s
/-- slices.overlaps of two slices in two blocks. -/
noncomputable def apartV (args : List Value) (s : AW) : Option Value :=
  match args with
  | [.slice (some ⟨b, _, none⟩) n _, .slice (some ⟨b', _, none⟩) m _] =>
    match s.get b, s.get b' with
    | some (.cells _ _ _), some (.cells (_ :: _) _ _) => bif Nat.beq b b' || Nat.beq n 0 || Nat.beq m 0 then none else some (.bool false)
    | _, _ => none
  | _ => none
/-- (*meter.Meter).Run of work that comes to its end. -/
noncomputable def runV (C : Cfg) (tp tb : TypeId) (call : CallT) (prot : List Nat) (args : List Value) (s : AW) : Option (Value × AW) := do
  match args with
  | [.pointer (some ⟨b, o, none⟩), .func (.func f) first captured] =>
    let (_, s3) ← call f (s.next :: (s.next + 1) :: prot) (first.toList ++ captured.toList) ((s.push (.cells [.pointer (some ⟨b, o, none⟩)] tp true)).push (.cells [.bool false] tb true))
    let s4 ← writeAt C prot s3 (s.next + 1) 0 [.bool true]
    some (.bool true, s4)
  | _ => none
/-! Orders -/
def isReady (ops : Array Oper) (l : List Nat) (i : Nat) : Bool :=
  match ops[i]? with
  | some o => o.after.toList.all fun e => !Region.binds .any e || l.any (fun j => Nat.beq j e.on)
  | none => false
def lookE (ops : Array Oper) (i : Nat) : Bool := match ops[i]? with
  | some o => isE o.op
  | none => false
def orderOf (ops : Array Oper) : Nat → List Nat → List Nat → List Nat
  | 0, _, _ => []
  | n + 1, l, rest => match rest.find? (fun i => !lookE ops i && isReady ops l i) with
    | some i => i :: orderOf ops n (i :: l) (rest.filter fun j => !Nat.beq i j)
    | none => match rest.find? (fun i => isReady ops l i) with
      | some i => i :: orderOf ops n (i :: l) (rest.filter fun j => !Nat.beq i j)
      | none => []
/-- The ancestors of each, as a set of bits. -/
def ancs (ops : Array Oper) : List Nat → List (Nat × Nat) → List (Nat × Nat)
  | [], acc => acc
  | i :: r, acc =>
    let m := match ops[i]? with
      | some o => o.after.toList.foldl (fun s e => bif Region.binds .any e then (s ||| (1 <<< e.on)) ||| (match acc.find? (fun p => Nat.beq p.1 e.on) with | some p => p.2 | none => 0) else s) 0
      | none => 0
    ancs ops r ((i, m) :: acc)
def ancOf (acc : List (Nat × Nat)) (i : Nat) : Nat := match acc.find? (fun p => Nat.beq p.1 i) with
  | some p => p.2
  | none => 0
def planOf (ops : Array Oper) : List PItem :=
  let l := orderOf ops ops.size [] (List.range ops.size)
  let acc := ancs ops l []
  go acc l []
where
  go (acc : List (Nat × Nat)) : List Nat → List Nat → List PItem
    | [], _ => []
    | i :: r, vs => bif lookE ops i then { i, isE := true, pend := vs.filter fun v => !(ancOf acc i).testBit v } :: go acc r vs
      else { i, isE := false, pend := [] } :: go acc r (i :: vs)
end Ev
end Go.Proofs.YtgflhpfeghplpaaGreatDoor
