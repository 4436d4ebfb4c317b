import Derived.Calls
import Derived.MapKept
import Derived.Laws.Sem
import Derived.Lib.Strings
import Derived.Laws.IdiomCopy
import Derived.Laws.World
import Derived.Laws.Entries
import Derived.Laws.Cells
import Derived.ChangeKeysEq
import Derived.Laws.Tables
import Derived.Great.BuildSlice
import Derived.Laws.Pointers
import Derived.Laws.StructEq
import Derived.Laws.Slices
import Derived.LaidEqlPtr
import Derived.Lib.ConvBytes
import Derived.Laws.BytesArg
import Derived.Laws.Strings
import Derived.IntWalk
import Derived.RangeFuncIn
import Derived.RangeFuncLeaves
import Derived.RangeFuncRecord
import Derived.RangeFuncSeq
import Derived.LoopNIn
import Derived.OrdersIn
import Derived.TacticsIn
import Derived.RangeFuncNested
/- A machine of our own for Go's operations, over a heap of its own. What it computes the program computes, too: the texts behind this one show it. -/
namespace Go.Proofs.Yteffhomollmpdaa.AM
open Go
set_option linter.unusedVariables false

/-! ### tables by number -/
inductive Tr (α : Type) where
  | nil
  | node (v : Option α) (l r : Tr α)
noncomputable def Tr.get {α : Type} (t : Tr α) : Nat → Option α :=
  Tr.rec (motive := fun _ => Nat → Option α) (fun _ => none) (fun v l r gl gr k => Nat.rec (motive := fun _ => Option α) v (fun p _ => Bool.rec (motive := fun _ => Option α) (gr (Nat.div p 2)) (gl (Nat.div p 2)) (Nat.beq (Nat.mod p 2) 0)) k) t
noncomputable def Tr.set {α : Type} (v : Option α) (f : Nat) : Tr α → Nat → Tr α :=
  Nat.rec (motive := fun _ => Tr α → Nat → Tr α) (fun t _ => t)
    (fun _ ih t => Tr.rec (motive := fun _ => Nat → Tr α)
      (fun k => Nat.rec (motive := fun _ => Tr α) (.node v .nil .nil) (fun p _ => Bool.rec (motive := fun _ => Tr α) (.node none .nil (ih .nil (Nat.div p 2))) (.node none (ih .nil (Nat.div p 2)) .nil) (Nat.beq (Nat.mod p 2) 0)) k)
      (fun u l r _ _ k => Nat.rec (motive := fun _ => Tr α) (.node v l r) (fun p _ => Bool.rec (motive := fun _ => Tr α) (.node u l (ih r (Nat.div p 2))) (.node u (ih l (Nat.div p 2)) r) (Nat.beq (Nat.mod p 2) 0)) k) t) f
theorem half_eq {α : Type} (p : Nat) (x y : α) : Bool.rec (motive := fun _ => α) y x (Nat.beq (Nat.mod p 2) 0) = bif Nat.beq ((p + 1) % 2) 1 then x else y := by
  have e : Nat.mod p 2 = p % 2 := rfl
  rw [e]
  rcases Nat.mod_two_eq_zero_or_one p with h | h
  · have h2 : (p + 1) % 2 = 1 := by omega
    rw [h, h2]; rfl
  · have h2 : (p + 1) % 2 = 0 := by omega
    rw [h, h2]; rfl
theorem Tr.get_node {α : Type} (v : Option α) (l r : Tr α) (k : Nat) : (Tr.node v l r).get k = bif Nat.beq k 0 then v else bif Nat.beq (k % 2) 1 then l.get ((k - 1) / 2) else r.get ((k - 1) / 2) := by
  cases k with
  | zero => rfl
  | succ p => exact half_eq p (l.get (p / 2)) (r.get (p / 2))
theorem Tr.set_nil {α : Type} (v : Option α) (f k : Nat) : Tr.set v (f + 1) .nil k = bif Nat.beq k 0 then .node v .nil .nil else bif Nat.beq (k % 2) 1 then .node none (Tr.set v f .nil ((k - 1) / 2)) .nil else .node none .nil (Tr.set v f .nil ((k - 1) / 2)) := by
  cases k with
  | zero => rfl
  | succ p => exact half_eq p (Tr.node none (Tr.set v f Tr.nil (p / 2)) Tr.nil) (Tr.node none Tr.nil (Tr.set v f Tr.nil (p / 2)))
theorem Tr.set_node {α : Type} (v : Option α) (f : Nat) (u : Option α) (l r : Tr α) (k : Nat) : Tr.set v (f + 1) (.node u l r) k = bif Nat.beq k 0 then .node v l r else bif Nat.beq (k % 2) 1 then .node u (Tr.set v f l ((k - 1) / 2)) r else .node u l (Tr.set v f r ((k - 1) / 2)) := by
  cases k with
  | zero => rfl
  | succ p => exact half_eq p (Tr.node u (Tr.set v f l (p / 2)) r) (Tr.node u l (Tr.set v f r (p / 2)))
noncomputable section
def Tr.put {α : Type} (t : Tr α) (k : Nat) (v : Option α) : Tr α := Tr.set v (k + 1) t k
def Tr.ofList {α : Type} : List α → Nat → Tr α → Tr α
  | [], _, t => t
  | x :: l, k, t => Tr.ofList l (k + 1) (t.put k (some x))

/-! ### objects, heaps -/
inductive AObj where
  /-- cells of our own; z: no mark of a string lies on them -/
  | cells (cs : List Value) (z : Bool)
  | ro (cs : List Value)
  | map (l : List (Value × Value))
  | siter (s : ByteArray) (pos : Nat)
  /-- a map whose entries lie in whatever order -/
  | fmap (l : List (Value × Value))
structure AHeap where
  t : Tr AObj
  next : Nat
def AHeap.get (h : AHeap) (id : Nat) : Option AObj := h.t.get id
def AHeap.set (h : AHeap) (id : Nat) (o : AObj) : AHeap := ⟨h.t.put id (some o), h.next⟩
def AHeap.kill (h : AHeap) (id : Nat) : AHeap := ⟨h.t.put id none, h.next⟩
def AHeap.new (h : AHeap) (id : Nat) (o : AObj) : AHeap := ⟨h.t.put id (some o), bif Nat.blt id h.next then h.next else id + 1⟩
def rd (h : AHeap) (id : Nat) : Option (List Value) :=
  match h.get id with
  | some (.cells cs _) => some cs
  | some (.ro cs) => some cs
  | _ => none

/-! ### types -/
inductive TK where
  | bool | int (k : IntKind) | string | ptr (e : Nat) | slice (e : Nat) | array (n e : Nat) | map (k e : Nat)
  | struct (fs : List (Nat × Nat)) (q : Bool) | func | iface | other
structure TI where
  k : TK
  size : Nat
  bytes : Nat
  zero : Value
def TK.agg : TK → Bool
  | .struct _ _ | .array _ _ => true
  | _ => false

/-! ### an activation's places -/
structure AAct where
  n : Nat
  t : Tr Value
def AAct.at (a : AAct) (t : Nat) : Value := Bool.rec (motive := fun _ => Value) undef (Option.rec (motive := fun _ => Value) undef (fun v => v) (a.t.get t)) (Nat.blt t a.n)
def AAct.put (a : AAct) (dst : Option Nat) (v : Value) : AAct := Nat.rec (motive := fun _ => AAct) ⟨0, Option.rec (motive := fun _ => Tr Value) a.t (fun d => a.t.put d (some v)) dst⟩ (fun m _ => ⟨Nat.succ m, Option.rec (motive := fun _ => Tr Value) a.t (fun d => a.t.put d (some v)) dst⟩) a.n
theorem AAct.put_eq (a : AAct) (dst : Option Nat) (v : Value) : a.put dst v = ⟨a.n, Option.rec (motive := fun _ => Tr Value) a.t (fun d => a.t.put d (some v)) dst⟩ := by
  obtain ⟨n, t⟩ := a
  cases n <;> rfl
theorem AAct.at_eq (a : AAct) (t : Nat) : a.at t = bif Nat.blt t a.n then (a.t.get t).getD undef else undef := by
  unfold AAct.at
  cases Nat.blt t a.n with
  | false => rfl
  | true => cases a.t.get t <;> rfl
theorem AAct.put_none (a : AAct) (v : Value) : a.put none v = a := AAct.put_eq a none v
theorem AAct.put_some (a : AAct) (d : Nat) (v : Value) : a.put (some d) v = ⟨a.n, a.t.put d (some v)⟩ := AAct.put_eq a (some d) v
def aev (a : AAct) : Operand → Value
  | .tmp t => a.at t
  | .const v => v
  | .global g => .pointer (some ⟨g, 0, none⟩)
  | .func f => .func (.func f) #[] #[]

/-! ### cells -/
def over : List Value → List Value → Option (List Value)
  | cs, [] => some cs
  | [], _ :: _ => none
  | _ :: cs, v :: vs => match over cs vs with | some r => some (v :: r) | none => none
def putAt : List Value → Nat → List Value → Option (List Value)
  | cs, 0, vs => over cs vs
  | [], _ + 1, _ => none
  | c :: cs, o + 1, vs => match putAt cs o vs with | some r => some (c :: r) | none => none
def cut (cs : List Value) (o n : Nat) : Option (List Value) :=
  let r := (cs.drop o).take n
  bif Nat.beq r.length n then some r else none
/-- one cell's value -/
def one : Value → Bool
  | .agg _ | .tuple _ => false
  | _ => true
def ones (l : List Value) : Bool := l.all one
def CAPX : Nat := 18446744073709551616
def eqB : List UInt8 → List UInt8 → Bool
  | [], [] => true
  | a :: x, b :: y => bif Nat.beq a.toNat b.toNat then eqB x y else false
  | _, _ => false
def ltB : List UInt8 → List UInt8 → Bool
  | _, [] => false
  | [], _ :: _ => true
  | a :: x, b :: y => bif Nat.blt a.toNat b.toNat then true else bif Nat.beq a.toNat b.toNat then ltB x y else false
def bl (s : ByteArray) : List UInt8 := s.data.toList
def lb (l : List UInt8) : ByteArray := ⟨⟨l⟩⟩
def byteV (b : UInt8) : Value := .int .u8 (b.toNat : Int)

def aload (T : Tr TI) (h : AHeap) (t : Nat) (a : Value) : Option Value :=
  match a with
  | .pointer (some ⟨id, o, none⟩) =>
    match T.get t, rd h id with
    | some i, some cs => bif i.k.agg then (match cut cs o i.size with | some r => some (.agg ⟨r⟩) | none => none) else cs[o]?
    | _, _ => none
  | _ => none
def aput (h : AHeap) (id o : Nat) (vs : List Value) : Option AHeap :=
  match h.get id with
  | some (.cells cs z) => bif ones vs then (match putAt cs o vs with | some r => some (h.set id (.cells r z)) | none => none) else none
  | _ => none
def astore (T : Tr TI) (h : AHeap) (t : Nat) (a v : Value) : Option AHeap :=
  match a with
  | .pointer (some ⟨id, o, none⟩) =>
    match T.get t with
    | some i => bif Nat.beq v.cells.toList.length i.size then aput h id o v.cells.toList else none
    | none => none
  | _ => none
def aneu (h : AHeap) (nid : Nat) (v : Value) : Option (Value × AHeap) :=
  bif ones v.cells.toList then some (.pointer (some ⟨nid, 0, none⟩), h.new nid (.cells v.cells.toList true)) else none
def afill (pl : Nat → Option (Nat × Nat)) : List Value → List (Nat × Value) → Option (List Value)
  | cs, [] => some cs
  | cs, (i, v) :: rest =>
    match pl i with
    | none => none
    | some (off, size) => bif Nat.beq v.cells.toList.length size then (match putAt cs off v.cells.toList with | some r => afill pl r rest | none => none) else none
def sizes (T : Tr TI) : List (Nat × Nat) → Option (List (Nat × Nat))
  | [] => some []
  | (o, t) :: r => match T.get t, sizes T r with | some i, some l => some ((o, i.size) :: l) | _, _ => none
def abuild (T : Tr TI) (t : Nat) (parts : List (Nat × Value)) : Option Value :=
  match T.get t with
  | some ⟨.struct fs _, _, _, z⟩ => match sizes T fs with
    | some pl => match afill (fun i => pl[i]?) z.cells.toList parts with | some r => some (.agg ⟨r⟩) | none => none
    | none => none
  | some ⟨.array _ e, _, _, z⟩ => match T.get e with
    | some i => match afill (fun j => some (j * i.size, i.size)) z.cells.toList parts with | some r => some (.agg ⟨r⟩) | none => none
    | none => none
  | _ => none
def reps (z : List Value) : Nat → List Value
  | 0 => []
  | n + 1 => z ++ reps z n
def abuildSlice (T : Tr TI) (h : AHeap) (nid t len : Nat) (parts : List (Nat × Value)) : Option (Value × AHeap) :=
  match T.get t with
  | some ⟨.slice e, _, _, _⟩ => match T.get e with
    | some i => bif Nat.ble (len * i.size) 16777216 && Nat.ble len 16777216 then (bif Nat.beq i.zero.cells.toList.length i.size then (match afill (fun j => some (j * i.size, i.size)) (reps i.zero.cells.toList len) parts with
      | some r => bif ones r then some (.slice (some ⟨nid, 0, none⟩) len len, h.new nid (.cells r true)) else none
      | none => none) else none) else none
    | none => none
  | _ => none

/-! ### plain operations -/
def aint (op : BinOp) (k : IntKind) (x y : Int) : Option Value :=
  match op with
  | .add => some (.int k (k.wrap (x + y)))
  | .sub => some (.int k (k.wrap (x - y)))
  | .mul => some (.int k (k.wrap (x * y)))
  | .quo => if y = 0 then none else some (.int k (k.wrap (x.tdiv y)))
  | .rem => if y = 0 then none else some (.int k (x.tmod y))
  | .and => some (.int k (k.wrap ((BitVec.ofInt k.bits x &&& BitVec.ofInt k.bits y).toNat : Int)))
  | .or => some (.int k (k.wrap ((BitVec.ofInt k.bits x ||| BitVec.ofInt k.bits y).toNat : Int)))
  | .xor => some (.int k (k.wrap ((BitVec.ofInt k.bits x ^^^ BitVec.ofInt k.bits y).toNat : Int)))
  | .andNot => some (.int k (k.wrap ((BitVec.ofInt k.bits x &&& ~~~BitVec.ofInt k.bits y).toNat : Int)))
  | .eql => some (.bool (x == y))
  | .neq => some (.bool (x != y))
  | .lss => some (.bool (x < y))
  | .leq => some (.bool (x ≤ y))
  | .gtr => some (.bool (x > y))
  | .geq => some (.bool (x ≥ y))
  | _ => none
def ashift (op : BinOp) (k : IntKind) (x y : Int) : Option Value :=
  if y < 0 then none else
  match op with
  | .shl => some (.int k (k.wrap (x * 2 ^ (min y.toNat k.bits))))
  | .shr => some (.int k (x.fdiv (2 ^ (min y.toNat k.bits))))
  | _ => none
def astr (op : BinOp) (x y : ByteArray) : Option Value :=
  match op with
  | .add => bif Nat.ble ((bl x).length + (bl y).length) 9223372036854775807 then some (.string (lb (bl x ++ bl y))) else none
  | .eql => some (.bool (eqB (bl x) (bl y)))
  | .neq => some (.bool (!(eqB (bl x) (bl y))))
  | .lss => some (.bool (ltB (bl x) (bl y)))
  | .leq => some (.bool (ltB (bl x) (bl y) || eqB (bl x) (bl y)))
  | .gtr => some (.bool (!(ltB (bl x) (bl y) || eqB (bl x) (bl y))))
  | .geq => some (.bool (!(ltB (bl x) (bl y))))
  | _ => none
/-- equality of two cells of a plain struct -/
def eqCell (k : TK) (x y : Value) : Option Bool :=
  match k, x, y with
  | .int _, .int j a, .int l b => if j = l then some (a == b) else none
  | .string, .string a, .string b => some (eqB (bl a) (bl b))
  | .bool, .bool a, .bool b => some (a == b)
  | _, _, _ => none
def eqCells (T : Tr TI) : List (Nat × Nat) → List Value → List Value → Option Bool
  | [], [], [] => some true
  | (_, t) :: fs, x :: xs, y :: ys =>
    match T.get t with
    | some i => match eqCell i.k x y, eqCells T fs xs ys with
      | some a, some b => some (a && b)
      | _, _ => none
    | none => none
  | _, _, _ => none
/-- a plain object's number: none of a string's -/
def unmarked (h : AHeap) (id : Nat) : Bool :=
  match h.get id with
  | some (.cells _ true) => true
  | _ => false
def aeq (T : Tr TI) (h : AHeap) (t : Nat) (x y : Value) : Option Bool :=
  match x, y with
  | .bool a, .bool b => match T.get t with
    | some ⟨.bool, _, _, _⟩ => some (a == b)
    | _ => none
  | .pointer none, .pointer b => match T.get t with
    | some ⟨.ptr _, _, _, _⟩ => some b.isNone
    | _ => none
  | .pointer (some _), .pointer none => match T.get t with
    | some ⟨.ptr _, _, _, _⟩ => some false
    | _ => none
  | .pointer (some ⟨i, o, none⟩), .pointer (some ⟨j, p, none⟩) => match T.get t with
    | some ⟨.ptr e, _, _, _⟩ => match T.get e with
      | some ei => bif Nat.beq ei.size 0 then none else bif unmarked h i && unmarked h j then some (Nat.beq i j && Nat.beq o p) else none
      | none => none
    | _ => none
  | .map none, .map b => match T.get t with
    | some ⟨.map _ _, _, _, _⟩ => some b.isNone
    | _ => none
  | .map (some _), .map none => match T.get t with
    | some ⟨.map _ _, _, _, _⟩ => some false
    | _ => none
  | .slice none 0 0, .slice b _ _ => match T.get t with
    | some ⟨.slice _, _, _, _⟩ => some b.isNone
    | _ => none
  | .slice (some _) _ _, .slice none 0 0 => match T.get t with
    | some ⟨.slice _, _, _, _⟩ => some false
    | _ => none
  | .nilFunc, .nilFunc => match T.get t with
    | some ⟨.func, _, _, _⟩ => some true
    | _ => none
  | .func _ _ _, .nilFunc => match T.get t with
    | some ⟨.func, _, _, _⟩ => some false
    | _ => none
  | .agg xs, .agg ys => match T.get t with
    | some ⟨.struct fs true, _, _, _⟩ => eqCells T fs xs.toList ys.toList
    | _ => none
  | _, _ => none
def abin (T : Tr TI) (h : AHeap) (op : BinOp) (t : Nat) (x y : Value) : Option Value :=
  match x, y with
  | .int k a, .int j b =>
    match op with
    | .shl | .shr => ashift op k a b
    | _ => if k = j then aint op k a b else none
  | .string a, .string b => astr op a b
  | _, _ =>
    match op with
    | .eql => (aeq T h t x y).map .bool
    | .neq => (aeq T h t x y).map fun b => .bool (!b)
    | _ => none
def aun (op : UnOp) (x : Value) : Option Value :=
  match op, x with
  | .neg, .int k n => some (.int k (k.wrap (0 - n)))
  | .xor, .int k n => aint .xor k (if k.signed then -1 else k.max) n
  | .not, .bool b => some (.bool (!b))
  | _, _ => none
def bytesOfCells : List Value → Option (List UInt8)
  | [] => some []
  | .int .u8 n :: r => match bytesOfCells r with | some l => some (UInt8.ofNat n.toNat :: l) | none => none
  | _ => none
def aconv (T : Tr TI) (h : AHeap) (nid src dst : Nat) (x : Value) : Option (Value × AHeap) :=
  match T.get src, T.get dst, x with
  | some _, some ⟨.int k, _, _, _⟩, .int _ n => some (.int k (k.wrap n), h)
  | some _, some ⟨.string, _, _, _⟩, .string s => some (.string s, h)
  | some _, some ⟨.slice e, _, _, _⟩, .string s => match T.get e with
    | some ⟨.int .u8, 1, 1, _⟩ => some (.slice (some ⟨nid, 0, none⟩) (bl s).length (CAPX + 1), h.new nid (.cells ((bl s).map byteV) false))
    | _ => none
  | some ⟨.slice e, _, _, _⟩, some ⟨.string, _, _, _⟩, .slice none 0 0 => match T.get e with
    | some ⟨.int .u8, _, _, _⟩ => some (.string (lb []), h)
    | _ => none
  | some ⟨.slice e, _, _, _⟩, some ⟨.string, _, _, _⟩, .slice (some ⟨id, o, none⟩) len _ => match T.get e, rd h id with
    | some ⟨.int .u8, _, _, _⟩, some cs => match cut cs o len with
      | some r => match bytesOfCells r with | some l => some (.string (lb l), h) | none => none
      | none => none
    | _, _ => none
  | some ⟨.slice _, _, _, _⟩, some ⟨.slice e, _, _, _⟩, .slice (some ⟨id, o, none⟩) len cap =>
    bif Nat.beq src dst && Nat.blt 0 len then (match T.get e, h.get id with
    | some ⟨.int .u8, _, _, _⟩, some (.cells cs true) => some (.slice (some ⟨id, o, none⟩) len cap, h.set id (.cells cs false))
    | _, _ => none) else none
  | _, _, _ => none
def nat? (x : Value) : Option Nat :=
  match x with
  | .int _ n => if 0 ≤ n then some n.toNat else none
  | _ => none
def optNat (x : Option Value) (d : Nat) : Option Nat :=
  match x with
  | none => some d
  | some v => nat? v
def afieldAddr (T : Tr TI) (s : Nat) (x : Value) (f : Nat) : Option Value :=
  match x with
  | .pointer (some ⟨id, o, none⟩) => match T.get s with
    | some ⟨.struct fs _, _, _, _⟩ => match fs[f]? with
      | some (off, t) => match T.get t with
        | some i => bif Nat.beq i.size 0 then none else some (.pointer (some ⟨id, o + off, none⟩))
        | none => none
      | none => none
    | _ => none
  | _ => none
def part? (T : Tr TI) (t : Nat) (cs : List Value) (off : Nat) : Option Value :=
  match T.get t with
  | some i => bif i.k.agg then (match cut cs off i.size with | some r => some (.agg ⟨r⟩) | none => none) else cs[off]?
  | none => none
def afield (T : Tr TI) (s : Nat) (x : Value) (f : Nat) : Option Value :=
  match x with
  | .agg cs => match T.get s with
    | some ⟨.struct fs _, _, _, _⟩ => match fs[f]? with
      | some (off, t) => part? T t cs.toList off
      | none => none
    | _ => none
  | _ => none
def aindexAddr (T : Tr TI) (t : Nat) (x ix : Value) : Option Value :=
  match ix with
  | .int _ i => match T.get t, x with
    | some ⟨.array n e, _, _, _⟩, .pointer (some ⟨id, o, none⟩) => match T.get e with
      | some ei => if 0 ≤ i ∧ i < n then some (.pointer (some ⟨id, o + i.toNat * ei.size, none⟩)) else none
      | none => none
    | some ⟨.slice e, _, _, _⟩, .slice (some ⟨id, o, none⟩) len _ => match T.get e with
      | some ei => if 0 ≤ i ∧ i < len then some (.pointer (some ⟨id, o + i.toNat * ei.size, none⟩)) else none
      | none => none
    | _, _ => none
  | _ => none
def aindex (T : Tr TI) (t : Nat) (x ix : Value) : Option Value :=
  match ix with
  | .int _ i => match T.get t, x with
    | some ⟨.array n e, _, _, _⟩, .agg cs => match T.get e with
      | some ei => if 0 ≤ i ∧ i < n then part? T e cs.toList (i.toNat * ei.size) else none
      | none => none
    | some ⟨.string, _, _, _⟩, .string s => if 0 ≤ i then (match (bl s)[i.toNat]? with | some b => some (byteV b) | none => none) else none
    | _, _ => none
  | _ => none
/-- the end of what may be sliced of a slice -/
def room (h : AHeap) (sz id o len cap : Nat) (hi : Nat) : Bool :=
  bif Nat.blt cap CAPX then Nat.ble hi cap
  else bif Nat.beq cap (CAPX + sz) then (bif Nat.ble hi len then true else match h.get id with | some (.cells cs _) => Nat.ble (o + hi * sz) cs.length | _ => false) else false
def aslice (T : Tr TI) (h : AHeap) (t : Nat) (x : Value) (lo hi mx : Option Value) : Option Value :=
  match T.get t, x with
  | some ⟨.string, _, _, _⟩, .string s => match mx, optNat lo 0, optNat hi (bl s).length with
    | none, some l, some u => bif Nat.ble l u && Nat.ble u (bl s).length then some (.string (lb (((bl s).drop l).take (u - l)))) else none
    | _, _, _ => none
  | some ⟨.slice e, _, _, _⟩, .slice none 0 0 => match T.get e, mx, optNat lo 0, optNat hi 0 with
    | some _, none, some 0, some 0 => some (.slice none 0 0)
    | _, _, _, _ => none
  | some ⟨.slice e, _, _, _⟩, .slice (some ⟨id, o, none⟩) len cap => match T.get e with
    | some ei =>
      bif Nat.beq ei.size 0 then none else
      match mx, optNat lo 0, optNat hi len with
      | none, some l, some u =>
        bif Nat.ble l u && room h ei.size id o len cap u then
          (bif Nat.blt cap CAPX then some (.slice (some ⟨id, bif Nat.beq cap l then o else o + l * ei.size, none⟩) (u - l) (cap - l))
           else some (.slice (some ⟨id, o + l * ei.size, none⟩) (u - l) cap))
        else none
      | some m, some l, some u => match nat? m with
        | some m => bif hi.isSome && Nat.ble l u && Nat.ble u m && Nat.blt m CAPX && room h ei.size id o len cap m then some (.slice (some ⟨id, bif Nat.beq m l then o else o + l * ei.size, none⟩) (u - l) (m - l)) else none
        | none => none
      | _, _, _ => none
    | none => none
  | some ⟨.array n e, _, _, _⟩, .pointer (some ⟨id, o, none⟩) => match T.get e with
    | some ei => match mx, optNat lo 0, optNat hi n with
      | none, some l, some u => bif Nat.ble l u && Nat.ble u n && Nat.blt n CAPX then some (.slice (some ⟨id, bif Nat.beq n l then o else o + l * ei.size, none⟩) (u - l) (n - l)) else none
      | _, _, _ => none
    | none => none
  | _, _ => none

/-! ### maps -/
def keyEq (x y : Value) : Option Bool :=
  match x, y with
  | .int j a, .int k b => if j = k then some (a == b) else none
  | .string a, .string b => some (eqB (bl a) (bl b))
  | _, _ => none
def mget : List (Value × Value) → Value → Option (Option Value)
  | [], _ => some none
  | (k, v) :: r, x => match keyEq x k with
    | some true => some (some v)
    | some false => mget r x
    | none => none
/-- in whatever order the entries lie -/
def fget (l : List (Value × Value)) (x : Value) : Option (Option Value) :=
  bif l.all (fun p => (keyEq x p.1).isSome) && Nat.ble (l.filter fun p => (keyEq x p.1).getD false).length 1 then mget l x else none
def mput : List (Value × Value) → Value → Value → Option (List (Value × Value))
  | [], x, u => some [(x, u)]
  | (k, v) :: r, x, u => match keyEq x k with
    | some true => some ((x, u) :: r)
    | some false => match mput r x u with | some l => some ((k, v) :: l) | none => none
    | none => none
def mdel : List (Value × Value) → Value → Option (List (Value × Value))
  | [], _ => some []
  | (k, v) :: r, x => match keyEq x k with
    | some true => some r
    | some false => match mdel r x with | some l => some ((k, v) :: l) | none => none
    | none => none
def isKey (T : Tr TI) (kt : Nat) (x : Value) : Bool :=
  match T.get kt, x with
  | some ⟨.int k, _, _, _⟩, .int j _ => decide (k = j)
  | some ⟨.string, _, _, _⟩, .string _ => true
  | _, _ => false
def alookup (T : Tr TI) (h : AHeap) (t : Nat) (m x : Value) (ok : Bool) : Option Value :=
  match T.get t with
  | some ⟨.map kt et, _, _, _⟩ => match T.get et with
    | some ei => bif isKey T kt x then
        (match (match m with
          | .map none => some none
          | .map (some id) => (match h.get id with | some (.map l) => mget l x | some (.fmap l) => fget l x | _ => none)
          | _ => none) with
        | some r => let v := r.getD ei.zero; some (bif ok then .tuple #[v, .bool r.isSome] else v)
        | none => none) else none
    | none => none
  | _ => none
def amapUpdate (T : Tr TI) (h : AHeap) (t : Nat) (m x u : Value) : Option AHeap :=
  match T.get t, m with
  | some ⟨.map kt _, _, _, _⟩, .map (some id) => bif isKey T kt x then (match h.get id with
    | some (.map l) => match mput l x u with | some r => some (h.set id (.map r)) | none => none
    | _ => none) else none
  | _, _ => none
def adelete (T : Tr TI) (h : AHeap) (t : Nat) (m x : Value) : Option AHeap :=
  match T.get t, m with
  | some ⟨.map kt _, _, _, _⟩, .map none => bif isKey T kt x then some h else none
  | some ⟨.map kt _, _, _, _⟩, .map (some id) => bif isKey T kt x then (match h.get id with
    | some (.map l) => match mdel l x with | some r => some (h.set id (.map r)) | none => none
    | _ => none) else none
  | _, _ => none

/-! ### built-in functions -/
def srcCells (h : AHeap) (sz : Nat) (x : Value) : Option (Nat × List Value) :=
  match x with
  | .slice none 0 0 => some (0, [])
  | .slice (some ⟨id, o, none⟩) n _ => match rd h id with
    | some cs => match cut cs o (n * sz) with | some r => some (n, r) | none => none
    | none => none
  | .string s => bif Nat.beq sz 1 then some ((bl s).length, (bl s).map byteV) else none
  | _ => none
def fits (need bytes : Nat) : Bool := Nat.ble ((2 * need + 192) * bytes) 281474976710656 && Nat.ble need 4611686018427387904
def aappend (T : Tr TI) (h : AHeap) (nid : Nat) (ts : List Nat) (s x : Value) : Option (Value × AHeap) :=
  match ts with
  | [st, xt] => match T.get st, T.get xt with
    | some ⟨.slice e, _, _, _⟩, some xi => match xi.k, T.get e with
      | .int _, _ => none
      | _, some ei =>
        bif Nat.beq ei.size 0 then none else
        bif !(Nat.beq ei.zero.cells.toList.length ei.size) then none else
        match srcCells h ei.size x with
        | none => none
        | some (n, news) =>
          bif ones news then
          (match s with
          | .slice none 0 0 => bif Nat.beq n 0 then some (s, h) else bif fits n ei.bytes then some (.slice (some ⟨nid, 0, none⟩) n (CAPX + ei.size), h.new nid (.cells news true)) else none
          | .slice (some ⟨id, o, none⟩) len cap =>
            bif Nat.beq n 0 then some (s, h) else
            bif fits (len + n) ei.bytes then
              (bif Nat.ble (len + n) len then none else
               bif room h ei.size id o 0 cap (len + n) then (match aput h id (o + len * ei.size) news with | some h' => some (.slice (some ⟨id, o, none⟩) (len + n) cap, h') | none => none)
               else match h.get id with
                | some (.cells cs z) => match cut cs o (len * ei.size) with
                  | some old => bif Nat.blt cap CAPX then some (.slice (some ⟨nid, 0, none⟩) (len + n) (CAPX + ei.size), h.new nid (.cells (old ++ news) true))
                    else bif Nat.beq cap (CAPX + ei.size) then some (.slice (some ⟨nid, 0, none⟩) (len + n) (CAPX + ei.size), (h.kill id).new nid (.cells (old ++ news) z)) else none
                  | none => none
                | some (.ro cs) => match cut cs o (len * ei.size) with
                  | some old => bif Nat.blt cap CAPX then some (.slice (some ⟨nid, 0, none⟩) (len + n) (CAPX + ei.size), h.new nid (.cells (old ++ news) true)) else none
                  | none => none
                | _ => none)
            else none
          | _ => none) else none
      | _, none => none
    | _, _ => none
  | _ => none
/-- the first k of what is read -/
def shrink (x : Value) (k : Nat) : Value :=
  match x with
  | .slice a _ c => .slice a k c
  | .string s => .string (lb ((bl s).take k))
  | v => v
def lenOf? (x : Value) : Option Nat :=
  match x with
  | .slice _ n _ => some n
  | .string s => some (bl s).length
  | _ => none
def acopy (T : Tr TI) (h : AHeap) (ts : List Nat) (d x : Value) : Option (Value × AHeap) :=
  match ts, d with
  | dt :: _, .slice (some ⟨id, o, none⟩) dlen _ => match T.get dt with
    | some ⟨.slice e, _, _, _⟩ => match T.get e with
      | some ei => match lenOf? x with
        | some n => match srcCells h ei.size (shrink x (Nat.min n dlen)) with
          | some (k, news) => match aput h id o news with | some h' => some (.int .i64 ((Nat.min n dlen : Nat) : Int), h') | none => none
          | none => none
        | none => none
      | none => none
    | _ => none
  | _, _ => none
def alen (T : Tr TI) (h : AHeap) (t : Nat) (x : Value) : Option Value :=
  match T.get t, x with
  | some ⟨.string, _, _, _⟩, .string s => some (.int .i64 ((bl s).length : Int))
  | some ⟨.slice _, _, _, _⟩, .slice _ n _ => some (.int .i64 (n : Int))
  | some ⟨.array n _, _, _, _⟩, _ => some (.int .i64 (n : Int))
  | some ⟨.map _ _, _, _, _⟩, .map none => some (.int .i64 0)
  | some ⟨.map _ _, _, _, _⟩, .map (some id) => match h.get id with
    | some (.map l) => some (.int .i64 (l.length : Int))
    | _ => none
  | _, _ => none
def aclear (T : Tr TI) (h : AHeap) (t : Nat) (x : Value) : Option AHeap :=
  match x with
  | .map none => some h
  | .slice none _ _ => some h
  | .slice (some _) 0 _ => some h
  | .map (some id) => match h.get id with | some (.map _) => some (h.set id (.map [])) | _ => none
  | .slice (some ⟨id, o, none⟩) n _ => match T.get t with
    | some ⟨.slice e, _, _, _⟩ => match T.get e with
      | some ei => aput h id o (reps ei.zero.cells.toList n)
      | none => none
    | _ => none
  | _ => none
def aminmax (mx : Bool) : Int → IntKind → List Value → Option Value
  | x, k, [] => some (.int k x)
  | x, k, .int _ y :: r => aminmax mx (bif mx then (if y > x then y else x) else (if y < x then y else x)) k r
  | _, _, _ => none
def abuiltin (T : Tr TI) (h : AHeap) (nid : Nat) (b : Builtin) (ts : List Nat) (args : List Value) : Option (Value × AHeap) :=
  match b, args with
  | .len, [x] => match ts with
    | t :: _ => match alen T h t x with | some v => some (v, h) | none => none
    | [] => none
  | .append, [s, x] => aappend T h nid ts s x
  | .copy, [d, x] => acopy T h ts d x
  | .delete, [m, k] => match ts with
    | t :: _ => match adelete T h t m k with | some h' => some (.tuple #[], h') | none => none
    | [] => none
  | .clear, [x] => match ts with
    | t :: _ => match T.get t, aclear T h t x with | some _, some h' => some (.tuple #[], h') | _, _ => none
    | [] => none
  | .min, .int k x :: r => match aminmax false x k r with | some v => some (v, h) | none => none
  | .max, .int k x :: r => match aminmax true x k r with | some v => some (v, h) | none => none
  | _, _ => none

/-! ### an operation -/
def aop (T : Tr TI) (ρ : Operand → Value) (h : AHeap) (nid : Nat) (op : Op) : Option (Value × AHeap) :=
  let v (r : Option Value) : Option (Value × AHeap) := match r with | some x => some (x, h) | none => none
  let u (r : Option AHeap) : Option (Value × AHeap) := match r with | some h' => some (undef, h') | none => none
  match op with
  | .move x => some (ρ x, h)
  | .assign x => some (ρ x, h)
  | .pick c a b => match ρ c with | .bool true => some (ρ a, h) | .bool false => some (ρ b, h) | _ => none
  | .alloc e => match T.get e with | some i => aneu h nid i.zero | none => none
  | .box _ x => aneu h nid (ρ x)
  | .build t ps => v (abuild T t (ps.toList.map fun p => (p.1, ρ p.2)))
  | .buildSlice t len ps => abuildSlice T h nid t len (ps.toList.map fun p => (p.1, ρ p.2))
  | .load t a => v (aload T h t (ρ a))
  | .store t a x => u (astore T h t (ρ a) (ρ x))
  | .nilCheck x => match ρ x with
    | .pointer none | .nilIface | .nilFunc => none
    | .func (.method _) _ _ => none
    | .chan _ => none
    | y => some (y, h)
  | .binOp op t x y _ => v (abin T h op t (ρ x) (ρ y))
  | .unOp op _ x => v (aun op (ρ x))
  | .convert s d x => aconv T h nid s d (ρ x)
  | .makeInterface t x => match T.get t with
    | some ⟨.iface, _, _, _⟩ => none
    | some _ => some (.iface t (ρ x), h)
    | none => none
  | .makeFunc fn first cap => some (.func fn (first.map ρ) (cap.map ρ), h)
  | .makeMap t none => some (.map (some nid), h.new nid (.map []))
  | .makeSlice t l c => match T.get t, nat? (ρ l), nat? (ρ c) with
    | some ⟨.slice e, _, _, _⟩, some l, some c => match T.get e with
      | some i => bif Nat.ble l c && Nat.ble (c * (i.bytes + 1)) 281474976710656 && Nat.beq i.zero.cells.toList.length i.size then some (.slice (some ⟨nid, 0, none⟩) l c, h.new nid (.cells (reps i.zero.cells.toList c) true)) else none
      | none => none
    | _, _, _ => none
  | .slice t x lo hi mx => v (aslice T h t (ρ x) (lo.map ρ) (hi.map ρ) (mx.map ρ))
  | .fieldAddr s x f => v (afieldAddr T s (ρ x) f)
  | .field s x f => v (afield T s (ρ x) f)
  | .indexAddr t x i => v (aindexAddr T t (ρ x) (ρ i))
  | .index t x i => v (aindex T t (ρ x) (ρ i))
  | .lookup t m k ok => v (alookup T h t (ρ m) (ρ k) ok)
  | .mapUpdate t m k x => u (amapUpdate T h t (ρ m) (ρ k) (ρ x))
  | .insert t m k x => u (amapUpdate T h t (ρ m) (ρ k) (ρ x))
  | .extract x i => match ρ x with | .tuple vs => v vs.toList[i]? | _ => none
  | .typeAssert x _ t ok => match T.get t, ρ x with
    | some ⟨.iface, _, _, _⟩, _ => none
    | some i, .iface u y => if u = t then some (bif ok then .tuple #[y, .bool true] else y, h) else bif ok then some (.tuple #[i.zero, .bool false], h) else none
    | _, _ => none
  | .range t x => match T.get t, ρ x with
    | some ⟨.string, _, _, _⟩, .string s => some (.pointer (some ⟨nid, 0, none⟩), h.new nid (.siter s 0))
    | _, _ => none
  | .next it true => match ρ it with
    | .pointer (some ⟨r, 0, none⟩) => match h.get r with
      | some (.siter s pos) => bif Nat.blt pos (bl s).length then
          some (.tuple #[.bool true, .int .i64 pos, .int .i32 (Utf8.decode s pos).1], h.set r (.siter s (pos + (Utf8.decode s pos).2)))
        else some (.tuple #[.bool false], h)
      | _ => none
    | _ => none
  | _ => none
end
end Go.Proofs.Yteffhomollmpdaa.AM

/- The machine's runs: regions, code, calls. -/
namespace Go.Proofs.Yteffhomollmpdaa.AM
open Go
set_option linter.unusedVariables false
noncomputable section

abbrev Ext := List Value → AHeap → Option (Value × AHeap)
structure Env where
  T : Tr TI
  F : Tr Func
  /-- functions whose answer is given -/
  X : Nat → Option Ext
  /-- functions without a body -/
  Y : Nat → Option Ext
  /-- methods: the type, the name, the function; the type that its receiver's pointer leads to, if it is read -/
  M : List (Nat × String × Nat × Option Nat)
  /-- iterators over a slice of numbers, from its end on -/
  R : Nat → Bool
  /-- what reading operations give where the machine alone cannot tell -/
  Tb : Op → List Value → Option Value
abbrev CallF := Nat → List Value → AHeap → Option (Value × AHeap)

def plainT (P : Program) (t : Nat) : Bool := match P.underlying t with | some .bool | some (.int _) | some .string => true | _ => false
/-- structs of numbers, texts and bools alone, whose equality is that of their cells -/
def eqOk (P : Program) (t : Nat) (fs : List Field) : Bool :=
  !P.stoodInHeld t && !P.eqGuardType P.depth t && fs.zipIdx.all (fun p => p.1.name != "_" && Nat.beq p.1.offset p.2 && plainT P p.1.type)
def tkOf (P : Program) (t : Nat) : TK :=
  match P.underlying t with
  | some .bool => .bool
  | some (.int k) => .int k
  | some .string => .string
  | some (.pointer e) => .ptr e
  | some (.slice e) => .slice e
  | some (.array n e) => .array n e
  | some (.map k e) => .map k e
  | some (.struct fs) => .struct (fs.toList.map fun f => (f.offset, f.type)) (eqOk P t fs.toList)
  | some (.func _ _ _) => .func
  | some (.interface _) => .iface
  | _ => .other
def tiOf (P : Program) (t : Nat) : Option TI :=
  match P.info? t with
  | some i => match i.zero, P.underlying t with
    | some z, some _ => some ⟨tkOf P t, i.size, i.bytes, z⟩
    | _, _ => none
  | none => none
def Tr.ofOpt {α : Type} (f : Nat → Option α) : Nat → Tr α → Tr α
  | 0, t => t
  | n + 1, t => (Tr.ofOpt f n t).put n (f n)

def methodOf : List (Nat × String × Nat × Option Nat) → Nat → String → Option (Nat × Option Nat)
  | [], _, _ => none
  | (t, n, f) :: r, u, m => bif Nat.beq t u && decide (n = m) then some f else methodOf r u m
/-- 0: reads at most; 1: lays something new; 2: anything -/
def kindOf : Op → Nat
  | .alloc _ | .box _ _ | .buildSlice _ _ _ | .makeMap _ _ | .makeSlice _ _ _ => 1
  | .store _ _ _ | .mapUpdate _ _ _ _ | .insert _ _ _ _ | .next _ _ | .convert _ _ _ | .range _ _ => 2
  | .call { callee := .builtin .len, .. } | .call { callee := .builtin .min, .. } | .call { callee := .builtin .max, .. } => 0
  | .call _ => 2
  | _ => 0
/-- what an operation gives -/
def astep0 (E : Env) (callf : CallF) (a : AAct) (h : AHeap) (nid : Nat) (o : Oper) : Option (Value × AHeap) :=
  match o.op with
  | .call c => match c.callee with
    | .value f => match aev a f with
      | .func (.func g) first cap => match E.Y g with
        | some y => y (first.toList ++ c.args.toList.map (aev a) ++ cap.toList) h
        | none => callf g (first.toList ++ c.args.toList.map (aev a) ++ cap.toList) h
      | _ => none
    | .builtin b => abuiltin E.T h nid b c.argTypes.toList (c.args.toList.map (aev a))
    | .invoke r m => match aev a r with
      | .iface t v => match methodOf E.M t m with
        | some (g, none) => callf g (v :: c.args.toList.map (aev a)) h
        | some (g, some e) => match aload E.T h e v with
          | some x => callf g (x :: c.args.toList.map (aev a)) h
          | none => none
        | none => none
      | _ => none
  | op => aop E.T (aev a) h nid op
def noDefer : Op → Bool
  | .defer _ => false
  | _ => true
def astep (E : Env) (callf : CallF) (a : AAct) (h : AHeap) (nid : Nat) (o : Oper) : Option (Value × AHeap) :=
  match astep0 E callf a h nid o with
  | some r => some r
  | none => bif Nat.beq (kindOf o.op) 0 && noDefer o.op then (match E.Tb o.op (o.op.operands.toList.map (aev a)) with
    | some v => some (v, h)
    | none => none) else none
def awants (ops : Array Oper) (a : AAct) (o : Oper) : Bool :=
  match o.guard with
  | none => true
  | some (j, want) => match ops[j]? with
    | some p => match p.dst with
      | some d => bif Nat.blt d a.n then (match a.at d with | .bool b => b == want | _ => false) else false
      | none => false
    | none => false
/-- a region in its order -/
def aseq (E : Env) (callf : CallF) (ops : Array Oper) : List Oper → AAct → AHeap → Option (AAct × AHeap)
  | [], a, h => some (a, h)
  | o :: os, a, h =>
    bif awants ops a o then
      (match astep E callf a h h.next o with
      | some (v, h') => aseq E callf ops os (a.put o.dst v) h'
      | none => none)
    else aseq E callf ops os (a.put o.dst undef) h
/-! ### a region that may be carried out in any order that its edges leave open -/
def tmpOf : Operand → Option Nat
  | .tmp t => some t
  | _ => none
/-- the places that an operation looks at -/
def looks (ops : Array Oper) (o : Oper) : List Nat :=
  o.op.operands.toList.filterMap tmpOf ++ (match o.guard with | some (j, _) => (match ops[j]? with | some p => p.dst.toList | none => []) | none => [])
def memN (x : Nat) (l : List Nat) : Bool := l.any (Nat.beq x)
def clash (ops : Array Oper) (o p : Oper) : Bool :=
  (match o.dst with | some d => memN d (looks ops p) || (match p.dst with | some e => Nat.beq d e | none => false) | none => false) || (match p.dst with | some d => memN d (looks ops o) | none => false)
/-- the places: what touches one place is in order -/
def tmpsOk (ops : Array Oper) (b : Array Nat) : List (Oper × Nat) → Bool
  | [] => true
  | (o, i) :: r => r.all (fun q => !(clash ops o q.1) || (b.getD q.2 0).testBit i) && tmpsOk ops b r
def isIn (b : Array Nat) (i j : Nat) : Bool := (b.getD j 0).testBit i
/-- what has been laid and isn't in the heap yet -/
abbrev Pend := List (Nat × AObj)
def vis (b : Array Nat) (base i : Nat) (g : AHeap) (p : Pend) : AHeap := p.foldr (fun q h => bif isIn b q.1 i then ⟨h.t.put (base + q.1) (some q.2), h.next⟩ else h) g
def veq1 : Value → Value → Bool
  | .bool a, .bool b => a == b
  | .int j a, .int k b => decide (j = k) && a == b
  | .string a, .string b => eqB (bl a) (bl b)
  | .pointer none, .pointer none => true
  | .pointer (some ⟨i, o, none⟩), .pointer (some ⟨j, p, none⟩) => Nat.beq i j && Nat.beq o p
  | .slice none l c, .slice none m d => Nat.beq l m && Nat.beq c d
  | .slice (some ⟨i, o, none⟩) l c, .slice (some ⟨j, p, none⟩) m d => Nat.beq i j && Nat.beq o p && Nat.beq l m && Nat.beq c d
  | .map none, .map none => true
  | .map (some i), .map (some j) => Nat.beq i j
  | .nilFunc, .nilFunc => true
  | .nilIface, .nilIface => true
  | _, _ => false
def veqs : List Value → List Value → Bool
  | [], [] => true
  | a :: x, b :: y => veq1 a b && veqs x y
  | _, _ => false
def veq0 : Value → Value → Bool
  | .agg x, .agg y => veqs x.toList y.toList
  | .tuple x, .tuple y => veqs x.toList y.toList
  | a, b => veq1 a b
def veq : Value → Value → Bool
  | .iface t x, .iface u y => Nat.beq t u && veq0 x y
  | a, b => veq0 a b
/-- what looks at nothing but its operands -/
def pureOp : Op → Bool
  | .move _ | .assign _ | .nilCheck _ | .fieldAddr _ _ _ | .field _ _ _ | .indexAddr _ _ _ | .extract _ _ | .unOp _ _ _ | .makeInterface _ _ | .makeFunc _ _ _ | .build _ _ => true
  | _ => false
/-- what was done: the place, what it looked at, what it gave -/
structure DRec where
  i : Nat
  o : Oper
  a : AAct
  v : Value
structure DSt where
  a : AAct
  g : AHeap
  p : Pend
  /-- those that read -/
  rs : List DRec
  /-- those that write, the last one ahead; the heap and what lay beside it ahead of each -/
  ws : List (Nat × AHeap × Pend)
def dstep (E : Env) (callf : CallF) (ops : Array Oper) (b : Array Nat) (base : Nat) (o : Oper) (i : Nat) (s : DSt) : Option DSt :=
  bif !(awants ops s.a o) then some { s with a := s.a.put o.dst undef }
  else match kindOf o.op with
    | 0 => match astep E callf s.a (vis b base i s.g s.p) (base + i) o with
      | some (v, _) => some { s with a := s.a.put o.dst v, rs := bif pureOp o.op then s.rs else ⟨i, o, s.a, v⟩ :: s.rs }
      | none => none
    | 1 => match astep E callf s.a ⟨.nil, base + i⟩ (base + i) o with
      | some (v, h) => match h.get (base + i) with
        | some x => some { s with a := s.a.put o.dst v, p := (i, x) :: s.p }
        | none => none
      | none => none
    | _ => bif (match s.ws with | [] => true | (j, _) :: _ => isIn b j i) then
        (match astep E callf s.a (vis b base i s.g s.p) (base + i) o with
        | some (v, g') => some { s with a := s.a.put o.dst v, g := g', p := s.p.filter (fun q => !(isIn b q.1 i)), ws := (i, s.g, s.p) :: s.ws }
        | none => none) else none
def dgo (E : Env) (callf : CallF) (ops : Array Oper) (b : Array Nat) (base : Nat) : List (Oper × Nat) → DSt → Option DSt
  | [], s => some s
  | (o, i) :: r, s => match dstep E callf ops b base o i s with
    | some s' => dgo E callf ops b base r s'
    | none => none
/-- the heaps at which a reader may come, the last one first: those ahead of writers that don't come ahead of it, and behind writers that don't wait for it -/
def reads (E : Env) (callf : CallF) (b : Array Nat) (base : Nat) (d : DRec) : AHeap → Pend → List (Nat × AHeap × Pend) → Bool
  | g, p, ws =>
    let here : Bool := match astep E callf d.a (vis b base d.i g p) (base + d.i) d.o with | some (v, _) => veq v d.v | none => false
    match ws with
    | [] => here
    | (j, g', p') :: r =>
      (isIn b d.i j || here) && (isIn b j d.i || reads E callf b base d g' p' r)
def adraw0 (E : Env) (callf : CallF) (ops : Array Oper) (a : AAct) (h : AHeap) : Option (AAct × AHeap) :=
  let b := Region.before ops
  let base := h.next
  let l := ops.toList.zipIdx
  bif tmpsOk ops b l && l.all (fun q => q.1.after.all fun e => !(Region.binds .any e) || Nat.blt e.on q.2) then
    match dgo E callf ops b base l ⟨a, ⟨h.t, base + ops.size⟩, [], [], []⟩ with
    | some s => bif s.rs.all (fun d => reads E callf b base d s.g s.p s.ws) then some (s.a, s.p.foldr (fun q h => ⟨h.t.put (base + q.1) (some q.2), h.next⟩) s.g) else none
    | none => none
  else none
/-! ### a map that is laid with its entries, in whatever order -/
def isInsert : Op → Bool
  | .insert _ _ _ _ => true
  | _ => false
structure MSt where
  a : AAct
  m : Option Nat
  ps : List (Nat × Value × Value)
def mstep (E : Env) (callf : CallF) (b : Array Nat) (base : Nat) (o : Oper) (i : Nat) (s : MSt) : Option MSt :=
  match o.guard with
  | some _ => none
  | none => match o.op, s.m with
    | .makeMap _ none, none => some ⟨s.a.put o.dst (.map (some (base + i))), some i, s.ps⟩
    | .insert t mx kx x, some j => match aev s.a mx, E.T.get t with
      | .map (some id), some ⟨.map kt _, _, _, _⟩ => bif Nat.beq id (base + j) && isIn b j i && isKey E.T kt (aev s.a kx) then some ⟨s.a.put o.dst undef, some j, s.ps ++ [(i, aev s.a kx, aev s.a x)]⟩ else none
      | _, _ => none
    | op, m => bif pureOp op then (match astep E callf s.a ⟨.nil, 0⟩ 0 o with
      | some (v, _) => some ⟨s.a.put o.dst v, m, s.ps⟩
      | none => none) else none
def mgo (E : Env) (callf : CallF) (b : Array Nat) (base : Nat) : List (Oper × Nat) → MSt → Option MSt
  | [], s => some s
  | (o, i) :: r, s => match mstep E callf b base o i s with
    | some s' => mgo E callf b base r s'
    | none => none
def apartKeys (ps : List (Nat × Value × Value)) : Bool := ps.all fun p => ps.all fun q => Nat.beq p.1 q.1 || (match keyEq p.2.1 q.2.1 with | some false => true | _ => false)
def adrawM (E : Env) (callf : CallF) (ops : Array Oper) (a : AAct) (h : AHeap) : Option (AAct × AHeap) :=
  let b := Region.before ops
  let base := h.next
  let l := ops.toList.zipIdx
  bif tmpsOk ops b l && l.all (fun q => q.1.after.all fun e => !(Region.binds .any e) || Nat.blt e.on q.2) then
    match mgo E callf b base l ⟨a, none, []⟩ with
    | some ⟨a', some j, ps⟩ => bif apartKeys ps then some (a', ⟨h.t.put (base + j) (some (.fmap (ps.map (·.2)))), base + ops.size⟩) else none
    | _ => none
  else none
def adraw (E : Env) (callf : CallF) (ops : Array Oper) (a : AAct) (h : AHeap) : Option (AAct × AHeap) :=
  bif ops.toList.any (fun o => isInsert o.op) then adrawM E callf ops a h else adraw0 E callf ops a h
def aloop (f : AAct → AHeap → Option (Exit × AAct × AHeap)) : Nat → AAct → AHeap → Option (Exit × AAct × AHeap)
  | 0, _, _ => none
  | n + 1, a, h => match f a h with
    | some (.normal, a', h') => aloop f n a' h'
    | r => r
/-! ### a range over an iterator (slices.Backward over numbers) -/
def intsOf : List Value → Option (List Int)
  | [] => some []
  | .int .i64 n :: r => match intsOf r with | some l => some (n :: l) | none => none
  | _ => none
/-- what the iterator reads: the slice in its box -/
def backList (h : AHeap) (bx o : Nat) : Option (List Int) :=
  match rd h bx with
  | some cs => match cs[o]? with
    | some (.slice A len cap) => bif Nat.ble len 16777216 then (bif Nat.beq len 0 then some [] else match A with
      | some ⟨id, p, none⟩ => match rd h id with
        | some ds => match cut ds p len with | some r => intsOf r | none => none
        | none => none
      | _ => none) else none
    | _ => none
  | none => none
def eqInts : List Int → List Int → Bool
  | [], [] => true
  | a :: x, b :: y => a == b && eqInts x y
  | _, _ => false
def putL (a : AAct) : List Nat → List Value → AAct
  | p :: ps, v :: vs => putL (a.put (some p) v) ps vs
  | _, _ => a
def sameList (h : AHeap) (bx o : Nat) (vs : List Int) : Bool := match backList h bx o with | some l => eqInts l vs | none => false
def arange (full assign : AAct → AHeap → Option (Exit × AAct × AHeap)) (a : AAct) (ps : List Nat) (bx o : Nat) (vs : List Int) : Nat → AHeap → Option (Exit × AHeap)
  | 0, h => some (.normal, h)
  | m + 1, h => bif sameList h bx o vs then
      (match assign (putL a ps [.int .i64 (m : Int), .int .i64 (vs.getD m 0)]) h with
      | some (.normal, a1, h1) => match full a1 h1 with
        | some (.normal, _, h2) => arange full assign a ps bx o vs m h2
        | some (.ret, _, h2) => some (.ret, h2)
        | some (.exit id, _, h2) => some (.exit id, h2)
        | _ => none
      | _ => none) else none
def acode (E : Env) (callf : CallF) (n : Nat) : Code → AAct → AHeap → Option (Exit × AAct × AHeap)
  | .skip, a, h => some (.normal, a, h)
  | .label _, a, h => some (.normal, a, h)
  | .region _ ops draw, a, h => match (bif draw then adraw E callf ops a h else aseq E callf ops ops.toList a h) with
    | some (a', h') => some (.normal, a', h')
    | none => none
  | .seq x y, a, h => match acode E callf n x a h with
    | some (.normal, a', h') => acode E callf n y a' h'
    | r => r
  | .cond c x y, a, h => match aev a c with
    | .bool true => acode E callf n x a h
    | .bool false => acode E callf n y a h
    | _ => none
  | .block id c, a, h => match acode E callf n c a h with
    | some (.exit j, a', h') => some (bif Nat.beq j id then .normal else .exit j, a', h')
    | r => r
  | .loop c, a, h => aloop (acode E callf n c) n a h
  | .exit id, a, h => some (.exit id, a, h)
  | .ret, a, h => some (.ret, a, h)
  | .rangeFunc f ps x y, a, h => match aev a f with
    | .func (.func g) first cap => match first.toList, cap.toList with
      | [], [.pointer (some ⟨bx, o, none⟩)] => bif E.R g && Nat.beq ps.size 2 then (match backList h bx o with
        | some vs => match arange (acode E callf n y) (acode E callf n x) a ps.toList bx o vs vs.length h with
          | some (e, h') => some (e, a, h')
          | none => none
        | none => none) else none
      | _, _ => none
    | _ => none
  | _, _, _ => none
def aresults (T : Tr TI) (h : AHeap) (a : AAct) : List ResultVar → Option (List Value)
  | [] => some []
  | .tmp t :: r => match aresults T h a r with | some l => some (a.at t :: l) | none => none
  | .cell p t :: r => match aload T h t (a.at p), aresults T h a r with | some v, some l => some (v :: l) | _, _ => none
def oneOf : List Value → Value
  | [v] => v
  | l => .tuple ⟨l⟩
def acall (E : Env) : Nat → CallF
  | 0, _, _, _ => none
  | n + 1, f, args, h => match E.X f with
    | some x => x args h
    | none => match E.F.get f with
      | some fn => match fn.body with
        | some c => match acode E (acall E n) n c ⟨args.length + (fn.ntmps - args.length), Tr.ofList args 0 .nil⟩ h with
          | some (.normal, a, h') | some (.ret, a, h') => match aresults E.T h' a fn.results.toList with
            | some l => some (oneOf l, h')
            | none => none
          | _ => none
        | none => none
      | none => none
end
end Go.Proofs.Yteffhomollmpdaa.AM

/- What relates the machine's values and heap to the program's. -/
namespace Go.Proofs.Yteffhomollmpdaa.AM
open Go
set_option linter.unusedVariables false
set_option linter.unusedSectionVars false
set_option linter.unusedSimpArgs false

/-! ### tables -/
theorem beqd (n m : Nat) : Nat.beq n m = decide (n = m) := by
  rw [Bool.eq_iff_iff, decide_eq_true_iff]
  exact ⟨Nat.eq_of_beq_eq_true, fun e => by subst e; exact Nat.beq_refl n⟩
theorem bled (n m : Nat) : Nat.ble n m = decide (n ≤ m) := by
  rw [Bool.eq_iff_iff, decide_eq_true_iff]
  exact ⟨Nat.le_of_ble_eq_true, Nat.ble_eq_true_of_le⟩
theorem bltd (n m : Nat) : Nat.blt n m = decide (n < m) := by
  unfold Nat.blt; rw [bled]; rfl
theorem half_lt {k f : Nat} (h : k < f + 1) (h0 : k ≠ 0) : (k - 1) / 2 < f := by omega
theorem Tr.get_nil0 {α : Type} (j : Nat) : (Tr.nil : Tr α).get j = none := rfl
theorem Tr.get_set {α : Type} (v : Option α) : ∀ (f : Nat) (t : Tr α) (k j : Nat), k < f → (Tr.set v f t k).get j = if j = k then v else t.get j
  | 0, t, k, j, h => by omega
  | f + 1, t, k, j, h => by
    have ih := Tr.get_set v f
    have bt := beqd
    cases t with
    | nil =>
      simp only [Tr.set_nil, Tr.set_node, bt]
      by_cases h0 : k = 0
      · subst h0
        by_cases hj : j = 0
        · subst hj; simp [Tr.get_node, Tr.get_nil0]
        · simp [Tr.get_node, Tr.get_nil0, bt, hj]
      · by_cases h1 : k % 2 = 1
        · simp only [h0, h1, decide_false, decide_true, cond_false, cond_true, Tr.get_node, Tr.get_nil0, bt]
          by_cases hj : j = 0
          · subst hj; simp; omega
          · by_cases hj1 : j % 2 = 1
            · simp only [hj, hj1, decide_false, decide_true, cond_false, cond_true]
              rw [ih _ _ _ (half_lt h h0)]
              by_cases e : j = k
              · subst e; simp
              · rw [if_neg (by omega), if_neg e]; simp [Tr.get_nil0]
            · simp only [hj, hj1, decide_false, cond_false]
              rw [if_neg (by intro e; rw [e] at hj1; exact hj1 h1)]
        · simp only [h0, h1, decide_false, cond_false, Tr.get_node, Tr.get_nil0, bt]
          by_cases hj : j = 0
          · subst hj; simp; omega
          · by_cases hj1 : j % 2 = 1
            · simp only [hj, hj1, decide_false, decide_true, cond_false, cond_true]
              rw [if_neg (by intro e; rw [e] at hj1; exact h1 hj1)]
            · simp only [hj, hj1, decide_false, cond_false]
              rw [ih _ _ _ (half_lt h h0)]
              by_cases e : j = k
              · subst e; simp
              · rw [if_neg (by omega), if_neg e]; simp [Tr.get_nil0]
    | node u l r =>
      simp only [Tr.set_nil, Tr.set_node, bt]
      by_cases h0 : k = 0
      · subst h0
        by_cases hj : j = 0
        · subst hj; simp [Tr.get_node, Tr.get_nil0]
        · simp [Tr.get_node, Tr.get_nil0, bt, hj]
      · by_cases h1 : k % 2 = 1
        · simp only [h0, h1, decide_false, decide_true, cond_false, cond_true, Tr.get_node, Tr.get_nil0, bt]
          by_cases hj : j = 0
          · subst hj; simp; omega
          · by_cases hj1 : j % 2 = 1
            · simp only [hj, hj1, decide_false, decide_true, cond_false, cond_true]
              rw [ih _ _ _ (half_lt h h0)]
              by_cases e : j = k
              · subst e; simp
              · rw [if_neg (by omega), if_neg e]
            · simp only [hj, hj1, decide_false, cond_false]
              rw [if_neg (by intro e; rw [e] at hj1; exact hj1 h1)]
        · simp only [h0, h1, decide_false, cond_false, Tr.get_node, Tr.get_nil0, bt]
          by_cases hj : j = 0
          · subst hj; simp; omega
          · by_cases hj1 : j % 2 = 1
            · simp only [hj, hj1, decide_false, decide_true, cond_false, cond_true]
              rw [if_neg (by intro e; rw [e] at hj1; exact h1 hj1)]
            · simp only [hj, hj1, decide_false, cond_false]
              rw [ih _ _ _ (half_lt h h0)]
              by_cases e : j = k
              · subst e; simp
              · rw [if_neg (by omega), if_neg e]
theorem Tr.get_put {α : Type} (t : Tr α) (k j : Nat) (v : Option α) : (t.put k v).get j = if j = k then v else t.get j := Tr.get_set v (k + 1) t k j (Nat.lt_succ_self k)
theorem Tr.get_nil {α : Type} (j : Nat) : (Tr.nil : Tr α).get j = none := rfl
theorem Tr.get_ofOpt {α : Type} (f : Nat → Option α) : ∀ (n : Nat) (t : Tr α) (j : Nat), (Tr.ofOpt f n t).get j = if j < n then f j else t.get j
  | 0, t, j => by simp [Tr.ofOpt]
  | n + 1, t, j => by
    simp only [Tr.ofOpt, Tr.get_put]
    by_cases e : j = n
    · subst e; simp
    · rw [if_neg e, Tr.get_ofOpt f n t j]
      by_cases h : j < n
      · rw [if_pos h, if_pos (by omega)]
      · rw [if_neg h, if_neg (by omega)]
theorem Tr.get_ofList {α : Type} : ∀ (l : List α) (k : Nat) (t : Tr α) (j : Nat), (Tr.ofList l k t).get j = if k ≤ j ∧ j < k + l.length then l[j - k]? else t.get j
  | [], k, t, j => by rw [if_neg (by simp)]; rfl
  | x :: l, k, t, j => by
    simp only [Tr.ofList]
    rw [Tr.get_ofList l (k + 1)]
    by_cases h : k + 1 ≤ j ∧ j < k + 1 + l.length
    · rw [if_pos h, if_pos (by simp; omega)]
      obtain ⟨m, hm⟩ : ∃ m, j - k = m + 1 := ⟨j - k - 1, by omega⟩
      rw [hm, List.getElem?_cons_succ]
      congr 1
      omega
    · rw [if_neg h, Tr.get_put]
      by_cases e : j = k
      · subst e; rw [if_pos rfl, if_pos (by simp)]; simp
      · rw [if_neg e, if_neg (by simp; omega)]

/-! ### values -/
/-- what tokens stand for; what lies below the call's first block -/
class Tok where
  val : Nat → Value
  one : ∀ i, (val i).oneCell' = true
  nb : ∀ i b, val i ≠ .bool b
  low : Nat → Option Obj
variable [Tok]
/-- where an object lies: the block, the first cell, the block's cells -/
structure Loc where
  b : Nat
  d : Nat
  n : Nat
abbrev Pi := Nat → Option Loc
def CapOk (L : Loc) (o len cap cap' : Nat) : Prop := (cap < CAPX ∧ cap' = cap ∧ len ≤ cap) ∨ (∃ sz, cap = CAPX + sz ∧ 0 < sz ∧ L.d + o + cap' * sz = L.n ∧ len ≤ cap')
mutual
inductive VR (π : Pi) : Value → Value → Prop where
  | bool (b : Bool) : VR π (.bool b) (.bool b)
  | int (k : IntKind) (n : Int) : VR π (.int k n) (.int k n)
  | string (s : ByteArray) : VR π (.string s) (.string s)
  | nilP : VR π (.pointer none) (.pointer none)
  | ptr {id o : Nat} {L : Loc} (h : π id = some L) : VR π (.pointer (some ⟨id, o, none⟩)) (.pointer (some ⟨L.b, L.d + o, none⟩))
  | slice0 (l c : Nat) : VR π (.slice none l c) (.slice none l c)
  | slice {id o len cap cap' : Nat} {L : Loc} (h : π id = some L) (hc : CapOk L o len cap cap') : VR π (.slice (some ⟨id, o, none⟩) len cap) (.slice (some ⟨L.b, L.d + o, none⟩) len cap')
  | sliceE {id o cap : Nat} {a : Addr} (hc : cap = 0 ∨ (CAPX < cap ∧ ∃ L, π id = some L ∧ L.n ≤ L.d + o)) : VR π (.slice (some ⟨id, o, none⟩) 0 cap) (.slice (some a) 0 0)
  | map0 : VR π (.map none) (.map none)
  | map {id : Nat} {L : Loc} (h : π id = some L) : VR π (.map (some id)) (.map (some L.b))
  | func {fn : Fn} {fs gs cs ds : Array Value} (h1 : VRs π fs.toList gs.toList) (h2 : VRs π cs.toList ds.toList) : VR π (.func fn fs cs) (.func fn gs ds)
  | nilFunc : VR π .nilFunc .nilFunc
  | nilIface : VR π .nilIface .nilIface
  | iface {t : Nat} {v u : Value} (h : VR π v u) : VR π (.iface t v) (.iface t u)
  | agg {cs ds : Array Value} (h : VRs π cs.toList ds.toList) : VR π (.agg cs) (.agg ds)
  | tuple {cs ds : Array Value} (h : VRs π cs.toList ds.toList) : VR π (.tuple cs) (.tuple ds)
  /-- a token -/
  | tok (i : Nat) : VR π (.chan (some i)) (Tok.val i)
  /-- whatever there is -/
  | junk {u : Value} (h : u.oneCell' = true) (hb : ∀ b, u ≠ .bool b) : VR π (.chan none) u
inductive VRs (π : Pi) : List Value → List Value → Prop where
  | nil : VRs π [] []
  | cons {v u : Value} {l m : List Value} (h : VR π v u) (t : VRs π l m) : VRs π (v :: l) (u :: m)
end
theorem VRs.length {π : Pi} : ∀ {l m : List Value}, VRs π l m → l.length = m.length
  | _, _, .nil => rfl
  | _, _, .cons _ t => by simp [t.length]
theorem VRs.get {π : Pi} : ∀ {l m : List Value}, VRs π l m → ∀ (i : Nat) v, l[i]? = some v → ∃ u, m[i]? = some u ∧ VR π v u
  | _, _, .nil, i, v, h => by simp at h
  | _, _, .cons h t, 0, v, e => by simp at e; subst e; exact ⟨_, rfl, h⟩
  | _, _, .cons h t, i + 1, v, e => by simpa using t.get i v (by simpa using e)
theorem VRs.of_get {π : Pi} : ∀ {l m : List Value}, l.length = m.length → (∀ (i : Nat) v u, l[i]? = some v → m[i]? = some u → VR π v u) → VRs π l m
  | [], [], _, _ => .nil
  | [], _ :: _, h, _ => by simp at h
  | _ :: _, [], h, _ => by simp at h
  | v :: l, u :: m, h, hh => .cons (hh 0 v u rfl rfl) (VRs.of_get (by simpa using h) (fun i a b ha hb => hh (i + 1) a b (by simpa using ha) (by simpa using hb)))
theorem VRs.append {π : Pi} : ∀ {l m l' m' : List Value}, VRs π l m → VRs π l' m' → VRs π (l ++ l') (m ++ m')
  | _, _, _, _, .nil, h => h
  | _, _, _, _, .cons a t, h => .cons a (t.append h)
theorem VRs.take {π : Pi} : ∀ {l m : List Value} (n : Nat), VRs π l m → VRs π (l.take n) (m.take n)
  | _, _, 0, _ => by simp; exact .nil
  | _, _, _ + 1, .nil => by simp; exact .nil
  | _, _, n + 1, .cons a t => by simp; exact .cons a (t.take n)
theorem VRs.drop {π : Pi} : ∀ {l m : List Value} (n : Nat), VRs π l m → VRs π (l.drop n) (m.drop n)
  | _, _, 0, h => by simpa using h
  | _, _, _ + 1, .nil => by simp; exact .nil
  | _, _, n + 1, .cons a t => by simp; exact t.drop n
def Pi.le (π π' : Pi) : Prop := ∀ id L, π id = some L → π' id = some L
theorem Pi.le.refl (π : Pi) : π.le π := fun _ _ h => h
theorem Pi.le.trans {a b c : Pi} (h : a.le b) (k : b.le c) : a.le c := fun id L e => k id L (h id L e)
mutual
theorem VR.mono {π π' : Pi} (hl : π.le π') : ∀ {v u : Value}, VR π v u → VR π' v u
  | _, _, .bool b => .bool b
  | _, _, .int k n => .int k n
  | _, _, .string s => .string s
  | _, _, .nilP => .nilP
  | _, _, .ptr h => .ptr (hl _ _ h)
  | _, _, .slice0 l c => .slice0 l c
  | _, _, .slice h hc => .slice (hl _ _ h) hc
  | _, _, .sliceE hc => .sliceE (hc.imp id (fun ⟨h1, L, h2, h3⟩ => ⟨h1, L, hl _ _ h2, h3⟩))
  | _, _, .map0 => .map0
  | _, _, .map h => .map (hl _ _ h)
  | _, _, .func h1 h2 => .func (VRs.mono hl h1) (VRs.mono hl h2)
  | _, _, .nilFunc => .nilFunc
  | _, _, .nilIface => .nilIface
  | _, _, .iface h => .iface (VR.mono hl h)
  | _, _, .agg h => .agg (VRs.mono hl h)
  | _, _, .tuple h => .tuple (VRs.mono hl h)
  | _, _, .tok i => .tok i
  | _, _, .junk h hb => .junk h hb
theorem VRs.mono {π π' : Pi} (hl : π.le π') : ∀ {l m : List Value}, VRs π l m → VRs π' l m
  | _, _, .nil => .nil
  | _, _, .cons h t => .cons (VR.mono hl h) (VRs.mono hl t)
end
/-- values that lead nowhere -/
def pv1 : Value → Bool
  | .bool _ | .int _ _ | .string _ | .pointer none | .slice none _ _ | .map none | .nilFunc | .nilIface => true
  | .func _ fs cs => fs.toList.isEmpty && cs.toList.isEmpty
  | _ => false
def pv : Value → Bool
  | .agg cs => cs.toList.all pv1
  | .tuple cs => cs.toList.all pv1
  | v => pv1 v
theorem VR.of_pv1 {π : Pi} {v : Value} (h : pv1 v = true) : VR π v v := by
  cases v with
  | bool b => exact .bool b
  | int k n => exact .int k n
  | string s => exact .string s
  | pointer a => cases a with
    | none => exact .nilP
    | some a => simp [pv1] at h
  | slice a l c => cases a with
    | none => exact .slice0 l c
    | some a => simp [pv1] at h
  | map r => cases r with
    | none => exact .map0
    | some r => simp [pv1] at h
  | func fn fs cs =>
    simp only [pv1, Bool.and_eq_true, List.isEmpty_iff] at h
    refine .func ?_ ?_
    · rw [h.1]; exact .nil
    · rw [h.2]; exact .nil
  | nilFunc => exact .nilFunc
  | nilIface => exact .nilIface
  | _ => simp [pv1] at h
theorem VRs.of_pv {π : Pi} : ∀ {l : List Value}, l.all pv1 = true → VRs π l l
  | [], _ => .nil
  | v :: l, h => by
    simp only [List.all_cons, Bool.and_eq_true] at h
    exact .cons (.of_pv1 h.1) (VRs.of_pv h.2)
theorem VR.of_pv {π : Pi} {v : Value} (h : pv v = true) : VR π v v := by
  cases v with
  | agg cs => exact .agg (.of_pv h)
  | tuple cs => exact .tuple (.of_pv h)
  | _ => exact .of_pv1 h
theorem VR.one {π : Pi} {v u : Value} (h : VR π v u) : u.oneCell' = one v := by
  cases h <;> first | rfl | exact Tok.one _ | assumption
theorem VRs.ones {π : Pi} : ∀ {l m : List Value}, VRs π l m → ones l = true → ∀ u ∈ m, u.oneCell' = true
  | _, _, .nil, _, u, hu => by simp at hu
  | _, _, .cons h t, ho, u, hu => by
    simp only [AM.ones, List.all_cons, Bool.and_eq_true] at ho
    rcases List.mem_cons.1 hu with rfl | hu
    · rw [h.one]; exact ho.1
    · exact t.ones ho.2 u hu
theorem cells_one {u : Value} (h : u.oneCell' = true) : u.cells.toList = [u] := by
  cases u <;> first | rfl | (simp [Value.oneCell'] at h; done)
theorem VR.cells {π : Pi} {v u : Value} (h : VR π v u) : VRs π v.cells.toList u.cells.toList := by
  by_cases hc : ∃ i, v = .chan i
  · obtain ⟨i, rfl⟩ := hc
    have h1 : (Value.chan i).cells.toList = [.chan i] := rfl
    rw [h1, cells_one (by cases h with | tok j => exact Tok.one _ | junk hu _ => exact hu)]
    exact .cons h .nil
  cases h <;> first
    | (simp only [Value.cells]; refine .cons ?_ .nil; first | exact .bool _ | exact .int _ _ | exact .string _ | exact .nilP | exact .slice0 _ _ | exact .map0 | exact .nilFunc | exact .nilIface | (exact .ptr ‹_›) | (exact .slice ‹_› ‹_›) | (exact .sliceE ‹_›) | (exact .map ‹_›) | (exact .func ‹_› ‹_›) | (exact .iface ‹_›) | (exact .tuple ‹_›))
    | (simp only [Value.cells]; assumption)
    | exact absurd ⟨_, rfl⟩ hc
theorem VR.undef {π : Pi} : VR π undef undef := .tuple .nil

/-! ### heaps -/
def AObj.rw : AObj → Bool
  | .ro _ => false
  | _ => true
def CR (π : Pi) (cs : List Value) (ds : Array Value) (d : Nat) : Prop := ∀ (j : Nat) v, cs[j]? = some v → ∃ u, ds[d + j]? = some u ∧ VR π v u
inductive MR (π : Pi) : List (Value × Value) → List MapEntry → Prop where
  | nil : MR π [] []
  | cons {k v : Value} {e : MapEntry} {l : List (Value × Value)} {m : List MapEntry} (hk : e.key = k) (h : VR π v e.val) (t : MR π l m) : MR π ((k, v) :: l) (e :: m)
def OR (π : Pi) (N : Nat) (o : AObj) (L : Loc) (w : World) : Prop :=
  match o with
  | .cells cs z => N ≤ L.b ∧ ∃ ds t fr, w.heap[L.b]? = some (.cells ds t fr) ∧ ds.size = L.n ∧ (z = true → fr = (0, 0)) ∧ (∀ j, j < ds.size → ¬ (fr.1 ≤ j ∧ j < fr.2)) ∧ CR π cs ds L.d
  | .ro cs => L.b < N ∧ ∃ ds t fr, w.heap[L.b]? = some (.cells ds t fr) ∧ CR π cs ds L.d
  | .map l => N ≤ L.b ∧ ∃ es clock, w.heap[L.b]? = some (.map es clock) ∧ MapKept.Stamped es clock ∧ MR π l es.toList
  | .siter s pos => N ≤ L.b ∧ L.d = 0 ∧ w.heap[L.b]? = some (.stringIter s pos)
  | .fmap l => N ≤ L.b ∧ ∃ l' es clock, List.Perm l' l ∧ w.heap[L.b]? = some (.map es clock) ∧ MapKept.Stamped es clock ∧ MR π l' es.toList
abbrev AG := Nat → Option AObj
/-- what lies below N lies as it lay -/
structure BaseOk (N : Nat) (w : World) : Prop where
  le : N ≤ w.heap.size
  low : ∀ b, b < N → w.heap[b]? = Tok.low b
theorem BaseOk.step {N : Nat} {w w' : World} (h : BaseOk N w) (hs : w.heap.size ≤ w'.heap.size) (hb : ∀ b, b < N → w'.heap[b]? = w.heap[b]?) : BaseOk N w' := ⟨Nat.le_trans h.le hs, fun b hN => (hb b hN).trans (h.low b hN)⟩
structure HR (π : Pi) (N : Nat) (g : AG) (nx : Nat) (w : World) : Prop where
  obj : ∀ id o, g id = some o → ∃ L, π id = some L ∧ OR π N o L w
  sep : ∀ i j o p L M, g i = some o → g j = some p → o.rw = true → p.rw = true → π i = some L → π j = some M → L.b = M.b → i = j
  lim : ∀ id, nx ≤ id → π id = none
  base : BaseOk N w
def Own (π : Pi) (g : AG) (b : Nat) : Prop := ∃ id o L, g id = some o ∧ o.rw = true ∧ π id = some L ∧ L.b = b
structure Stp (π : Pi) (N : Nat) (g : AG) (nx : Nat) (w : World) (π' : Pi) (g' : AG) (nx' : Nat) (w' : World) (nid : Nat) : Prop where
  le : π.le π'
  fresh : ∀ id, π id = none → id ≠ nid → id < nx → π' id = none
  hr : HR π' N g' nx' w'
  nxl : nx ≤ nx'
  os : w'.os = w.os
  tape : w'.tape = w.tape
  output : w'.output = w.output
  size : w.heap.size ≤ w'.heap.size
  blk : ∀ b, b < w.heap.size → ¬ Own π g b → w'.heap[b]? = w.heap[b]?
  own : ∀ b, Own π' g' b → Own π g b ∨ w.heap.size ≤ b
  dom : ∀ id o, g' id = some o → (∃ p, g id = some p) ∨ id = nid ∨ nx ≤ id
theorem Stp.refl {π : Pi} {N : Nat} {g : AG} {nx : Nat} {w : World} (h : HR π N g nx w) (nid : Nat) : Stp π N g nx w π g nx w nid :=
  ⟨Pi.le.refl π, fun _ h _ _ => h, h, Nat.le_refl _, rfl, rfl, rfl, Nat.le_refl _, fun _ _ _ => rfl, fun _ h => .inl h, fun _ o h => .inl ⟨o, h⟩⟩
theorem Stp.trans {π : Pi} {N : Nat} {g : AG} {nx : Nat} {w : World} {π' : Pi} {g' : AG} {nx' : Nat} {w' : World} {π'' : Pi} {g'' : AG} {nx'' : Nat} {w'' : World} {nid nid' : Nat}
    (h : Stp π N g nx w π' g' nx' w' nid) (k : Stp π' N g' nx' w' π'' g'' nx'' w'' nid') (hn : nid' = nid ∨ nx ≤ nid') : Stp π N g nx w π'' g'' nx'' w'' nid :=
  ⟨h.le.trans k.le, fun id h0 h1 h2 => k.fresh id (h.fresh id h0 h1 h2) (by rcases hn with e | e; rw [e]; exact h1; omega) (Nat.lt_of_lt_of_le h2 h.nxl), k.hr, Nat.le_trans h.nxl k.nxl, k.os.trans h.os, k.tape.trans h.tape, k.output.trans h.output, Nat.le_trans h.size k.size,
    fun b hb ho => (k.blk b (Nat.lt_of_lt_of_le hb h.size) (fun hh => by rcases h.own b hh with h1 | h1; exact ho h1; omega)).trans (h.blk b hb ho),
    fun b hb => by
      rcases k.own b hb with h1 | h1
      · exact h.own b h1
      · exact .inr (Nat.le_trans h.size h1),
    fun id o ho => by
      rcases k.dom id o ho with ⟨p, hp⟩ | h1 | h1
      · exact h.dom id p hp
      · rcases hn with e | e
        · exact .inr (.inl (h1.trans e))
        · exact .inr (.inr (by omega))
      · exact .inr (.inr (Nat.le_trans h.nxl h1))⟩
theorem CR.mono {π π' : Pi} (hl : π.le π') {cs : List Value} {ds : Array Value} {d : Nat} (h : CR π cs ds d) : CR π' cs ds d := fun j v hj => let ⟨u, h1, h2⟩ := h j v hj; ⟨u, h1, h2.mono hl⟩
theorem MR.mono {π π' : Pi} (hl : π.le π') : ∀ {l : List (Value × Value)} {m : List MapEntry}, MR π l m → MR π' l m
  | _, _, .nil => .nil
  | _, _, .cons hk h t => .cons hk (h.mono hl) (t.mono hl)
theorem OR.mono {π π' : Pi} (hl : π.le π') {N : Nat} {o : AObj} {L : Loc} {w w' : World} (h : OR π N o L w) (hb : w'.heap[L.b]? = w.heap[L.b]?) : OR π' N o L w' := by
  cases o with
  | cells cs z =>
    obtain ⟨h0, ds, t, fr, h1, h2, h3, h4, h5⟩ := h
    exact ⟨h0, ds, t, fr, hb.trans h1, h2, h3, h4, h5.mono hl⟩
  | ro cs =>
    obtain ⟨h0, ds, t, fr, h1, h2⟩ := h
    exact ⟨h0, ds, t, fr, hb.trans h1, h2.mono hl⟩
  | map l =>
    obtain ⟨h0, es, c, h1, h2, h3⟩ := h
    exact ⟨h0, es, c, hb.trans h1, h2, h3.mono hl⟩
  | siter s pos =>
    obtain ⟨h0, h1, h2⟩ := h
    exact ⟨h0, h1, hb.trans h2⟩
  | fmap l =>
    obtain ⟨h0, l', es, c, h1, h2, h3, h4⟩ := h
    exact ⟨h0, l', es, c, h1, hb.trans h2, h3, h4.mono hl⟩
theorem OR.lt {π : Pi} {N : Nat} {o : AObj} {L : Loc} {w : World} (h : OR π N o L w) : L.b < w.heap.size := by
  cases o with
  | cells cs z => obtain ⟨h0, ds, t, fr, h1, _⟩ := h; exact (Array.getElem?_eq_some_iff.1 h1).1
  | ro cs => obtain ⟨h0, ds, t, fr, h1, _⟩ := h; exact (Array.getElem?_eq_some_iff.1 h1).1
  | map l => obtain ⟨h0, es, c, h1, _⟩ := h; exact (Array.getElem?_eq_some_iff.1 h1).1
  | siter s pos => obtain ⟨h0, h1, h2⟩ := h; exact (Array.getElem?_eq_some_iff.1 h2).1
  | fmap l => obtain ⟨h0, l', es, c, h1, h2, _⟩ := h; exact (Array.getElem?_eq_some_iff.1 h2).1
theorem OR.low {π : Pi} {N : Nat} {o : AObj} {L : Loc} {w : World} (h : OR π N o L w) (ho : o.rw = true) : N ≤ L.b := by
  cases o with
  | cells cs z => exact h.1
  | ro cs => simp [AObj.rw] at ho
  | map l => exact h.1
  | siter s pos => exact h.1
  | fmap l => exact h.1
theorem OR.high {π : Pi} {N : Nat} {o : AObj} {L : Loc} {w : World} (h : OR π N o L w) (ho : o.rw = false) : L.b < N := by
  cases o <;> first | exact h.1 | simp [AObj.rw] at ho
end Go.Proofs.Yteffhomollmpdaa.AM

/- How the heaps change together. -/
namespace Go.Proofs.Yteffhomollmpdaa.AM
open Go
variable [Tok]
set_option linter.unusedVariables false
set_option linter.unusedSectionVars false
set_option linter.unusedSimpArgs false

def upd (g : AG) (id : Nat) (o : Option AObj) : AG := fun j => if j = id then o else g j
def Pi.put (π : Pi) (id : Nat) (L : Loc) : Pi := fun j => if j = id then some L else π j
theorem get_set (h : AHeap) (id : Nat) (o : AObj) : (h.set id o).get = upd h.get id (some o) := by
  funext j; simp only [AHeap.get, AHeap.set, Tr.get_put, upd]
theorem get_kill (h : AHeap) (id : Nat) : (h.kill id).get = upd h.get id none := by
  funext j; simp only [AHeap.get, AHeap.kill, Tr.get_put, upd]
theorem get_new (h : AHeap) (id : Nat) (o : AObj) : (h.new id o).get = upd h.get id (some o) := by
  funext j; simp only [AHeap.get, AHeap.new, Tr.get_put, upd]
theorem next_new (h : AHeap) (id : Nat) (o : AObj) : (h.new id o).next = if id < h.next then h.next else id + 1 := by
  simp only [AHeap.new, bltd]
  by_cases e : id < h.next
  · simp [e]
  · simp [e]
theorem Pi.le_put {π : Pi} {id : Nat} {L : Loc} (h : π id = none) : π.le (π.put id L) := by
  intro j M hj
  unfold Pi.put
  rw [if_neg (by intro e; rw [e, h] at hj; cases hj)]
  exact hj
theorem pi_lt {π : Pi} {N : Nat} {g : AG} {nx : Nat} {w : World} (hr : HR π N g nx w) {id : Nat} {o : AObj} (h : g id = some o) : π id ≠ none := by
  obtain ⟨L, h1, _⟩ := hr.obj id o h
  rw [h1]; simp
/-- a new object -/
theorem Stp.alloc {π : Pi} {N : Nat} {g : AG} {nx : Nat} {w w' : World} {nid n : Nat} {o : AObj} (hr : HR π N g nx w) (hn : π nid = none) (ho : o.rw = true)
    (hos : w'.os = w.os) (htape : w'.tape = w.tape) (hout : w'.output = w.output) (hsz : w.heap.size < w'.heap.size) (hblk : ∀ b, b < w.heap.size → w'.heap[b]? = w.heap[b]?)
    (hO : OR (π.put nid ⟨w.heap.size, 0, n⟩) N o ⟨w.heap.size, 0, n⟩ w') :
    Stp π N g nx w (π.put nid ⟨w.heap.size, 0, n⟩) (upd g nid (some o)) (if nid < nx then nx else nid + 1) w' nid := by
  have hle : π.le (π.put nid ⟨w.heap.size, 0, n⟩) := Pi.le_put hn
  have hgn : g nid = none := by
    cases e : g nid with
    | none => rfl
    | some p => exact absurd hn (pi_lt hr e)
  have hput : ∀ j, j ≠ nid → (π.put nid ⟨w.heap.size, 0, n⟩) j = π j := fun j h => by unfold Pi.put; rw [if_neg h]
  have hself : (π.put nid ⟨w.heap.size, 0, n⟩) nid = some ⟨w.heap.size, 0, n⟩ := by unfold Pi.put; rw [if_pos rfl]
  refine ⟨hle, fun id h0 h1 _ => by rw [hput id h1]; exact h0, ⟨?_, ?_, ?_, ?_⟩, ?_, hos, htape, hout, Nat.le_of_lt hsz, fun b hb _ => hblk b hb, ?_, fun id p hp => by
    by_cases e : id = nid
    · exact .inr (.inl e)
    · exact .inl ⟨p, by simpa only [upd, if_neg e] using hp⟩⟩
  · intro id p hp
    by_cases e : id = nid
    · subst e
      simp only [upd, if_pos] at hp
      injection hp with hp; subst hp
      exact ⟨_, hself, hO⟩
    · simp only [upd, if_neg e] at hp
      obtain ⟨L, h1, h2⟩ := hr.obj id p hp
      exact ⟨L, by rw [hput id e]; exact h1, h2.mono hle (hblk _ h2.lt)⟩
  · intro i j p q L M hi hj hp hq hL hM hb
    by_cases ei : i = nid
    · by_cases ej : j = nid
      · rw [ei, ej]
      · rw [ei, hself] at hL
        injection hL with hL
        simp only [upd, if_neg ej] at hj
        obtain ⟨M', h1, h2⟩ := hr.obj j q hj
        rw [hput j ej, h1] at hM
        injection hM with hM
        have := h2.lt
        rw [← hL, ← hM] at hb
        simp at hb; omega
    · simp only [upd, if_neg ei] at hi
      by_cases ej : j = nid
      · rw [ej, hself] at hM
        injection hM with hM
        obtain ⟨L', h1, h2⟩ := hr.obj i p hi
        rw [hput i ei, h1] at hL
        injection hL with hL
        have := h2.lt
        rw [← hL, ← hM] at hb
        simp at hb; omega
      · simp only [upd, if_neg ej] at hj
        rw [hput i ei] at hL
        rw [hput j ej] at hM
        exact hr.sep i j p q L M hi hj hp hq hL hM hb
  · intro id hid
    have h1 : nx ≤ id ∧ id ≠ nid := by
      split at hid <;> constructor <;> omega
    rw [hput id h1.2]
    exact hr.lim id h1.1
  · exact hr.base.step (Nat.le_of_lt hsz) (fun b hb => hblk b (Nat.lt_of_lt_of_le hb hr.base.le))
  · split <;> omega
  · intro b ⟨id, p, L, h1, h2, h3, h4⟩
    by_cases e : id = nid
    · subst e
      rw [hself] at h3
      injection h3 with h3
      right; rw [← h4, ← h3]; exact Nat.le_refl _
    · left
      refine ⟨id, p, L, ?_, h2, by rw [hput id e] at h3; exact h3, h4⟩
      simpa only [upd, if_neg e] using h1
/-- an object of ours that is turned where it lies -/
theorem Stp.turn {π : Pi} {N : Nat} {g : AG} {nx : Nat} {w w' : World} {id nid : Nat} {o o' : AObj} {L : Loc} (hr : HR π N g nx w) (hg : g id = some o) (ho : o.rw = true) (ho' : o'.rw = true) (hL : π id = some L)
    (hos : w'.os = w.os) (htape : w'.tape = w.tape) (hout : w'.output = w.output) (hsz : w.heap.size = w'.heap.size) (hblk : ∀ b, b ≠ L.b → w'.heap[b]? = w.heap[b]?) (hO : OR π N o' L w') :
    Stp π N g nx w π (upd g id (some o')) nx w' nid := by
  have hown : Own π g L.b := ⟨id, o, L, hg, ho, hL, rfl⟩
  refine ⟨Pi.le.refl π, fun _ h _ _ => h, ⟨?_, ?_, hr.lim, hr.base.step (Nat.le_of_eq hsz) (fun b hb => hblk b (fun e => by have := hO.low ho'; omega))⟩, Nat.le_refl _, hos, htape, hout, Nat.le_of_eq hsz, fun b hb hn => hblk b (fun e => hn (e ▸ hown)), ?_, fun j p hp => by
    by_cases e : j = id
    · exact .inl ⟨o, by rw [e]; exact hg⟩
    · exact .inl ⟨p, by simpa only [upd, if_neg e] using hp⟩⟩
  · intro j p hp
    by_cases e : j = id
    · subst e
      simp only [upd, if_pos] at hp
      injection hp with hp; subst hp
      exact ⟨L, hL, hO⟩
    · simp only [upd, if_neg e] at hp
      obtain ⟨M, h1, h2⟩ := hr.obj j p hp
      refine ⟨M, h1, h2.mono (Pi.le.refl π) (hblk _ ?_)⟩
      intro hb
      by_cases hp2 : p.rw = true
      · exact e (hr.sep j id p o M L hp hg hp2 ho h1 hL hb)
      · obtain ⟨L', h3, h4⟩ := hr.obj id o hg
        rw [hL] at h3; injection h3 with h3; subst h3
        have h5 := h4.low ho
        have h6 := h2.high (by simpa using hp2)
        omega
  · intro i j p q A B hi hj hp hq hA hB hb
    have hi' : ∃ p', g i = some p' ∧ p'.rw = true := by
      by_cases e : i = id
      · exact ⟨o, by rw [e]; exact hg, ho⟩
      · exact ⟨p, by simpa only [upd, if_neg e] using hi, hp⟩
    have hj' : ∃ q', g j = some q' ∧ q'.rw = true := by
      by_cases e : j = id
      · exact ⟨o, by rw [e]; exact hg, ho⟩
      · exact ⟨q, by simpa only [upd, if_neg e] using hj, hq⟩
    obtain ⟨p', h1, h2⟩ := hi'
    obtain ⟨q', h3, h4⟩ := hj'
    exact hr.sep i j p' q' A B h1 h3 h2 h4 hA hB hb
  · intro b ⟨j, p, M, h1, h2, h3, h4⟩
    left
    by_cases e : j = id
    · subst e; exact ⟨j, o, M, hg, ho, h3, h4⟩
    · exact ⟨j, p, M, by simpa only [upd, if_neg e] using h1, h2, h3, h4⟩
/-- an object that is let go -/
theorem HR.kill {π : Pi} {N : Nat} {g : AG} {nx : Nat} {w : World} (hr : HR π N g nx w) (id : Nat) : HR π N (upd g id none) nx w := by
  refine ⟨fun j p hp => ?_, fun i j p q A B hi hj => ?_, hr.lim, hr.base⟩
  · by_cases e : j = id
    · simp [upd, e] at hp
    · exact hr.obj j p (by simpa only [upd, if_neg e] using hp)
  · by_cases e : i = id
    · simp [upd, e] at hi
    · by_cases e2 : j = id
      · simp [upd, e2] at hj
      · exact hr.sep i j p q A B (by simpa only [upd, if_neg e] using hi) (by simpa only [upd, if_neg e2] using hj)
theorem Stp.kill {π : Pi} {N : Nat} {g : AG} {nx : Nat} {w : World} (hr : HR π N g nx w) (id nid : Nat) : Stp π N g nx w π (upd g id none) nx w nid :=
  ⟨Pi.le.refl π, fun _ h _ _ => h, hr.kill id, Nat.le_refl _, rfl, rfl, rfl, Nat.le_refl _, fun _ _ _ => rfl, fun b ⟨j, p, M, h1, h2, h3, h4⟩ => .inl (by
    by_cases e : j = id
    · simp [upd, e] at h1
    · exact ⟨j, p, M, by simpa only [upd, if_neg e] using h1, h2, h3, h4⟩), fun j p hp => .inl (by
    by_cases e : j = id
    · simp [upd, e] at hp
    · exact ⟨p, by simpa only [upd, if_neg e] using hp⟩)⟩
/-- an object that goes on under another number, from a cell of its own block on -/
theorem Stp.move {π : Pi} {N : Nat} {g : AG} {nx : Nat} {w w' : World} {id nid d : Nat} {o o' : AObj} {L : Loc} (hr : HR π N g nx w) (hg : g id = some o) (ho : o.rw = true) (ho' : o'.rw = true) (hL : π id = some L) (hn : π nid = none)
    (hos : w'.os = w.os) (htape : w'.tape = w.tape) (hout : w'.output = w.output) (hsz : w.heap.size = w'.heap.size) (hblk : ∀ b, b ≠ L.b → w'.heap[b]? = w.heap[b]?) (hO : OR (π.put nid ⟨L.b, d, L.n⟩) N o' ⟨L.b, d, L.n⟩ w') :
    Stp π N g nx w (π.put nid ⟨L.b, d, L.n⟩) (upd (upd g id none) nid (some o')) (if nid < nx then nx else nid + 1) w' nid := by
  have hown : Own π g L.b := ⟨id, o, L, hg, ho, hL, rfl⟩
  have hle : π.le (π.put nid ⟨L.b, d, L.n⟩) := Pi.le_put hn
  have hput : ∀ j, j ≠ nid → (π.put nid ⟨L.b, d, L.n⟩) j = π j := fun j h => by unfold Pi.put; rw [if_neg h]
  have hself : (π.put nid ⟨L.b, d, L.n⟩) nid = some ⟨L.b, d, L.n⟩ := by unfold Pi.put; rw [if_pos rfl]
  have hk := hr.kill id
  have hother : ∀ j p M, upd g id none j = some p → p.rw = true → π j = some M → M.b ≠ L.b := by
    intro j p M hj hp hM hb
    by_cases e : j = id
    · simp [upd, e] at hj
    · exact e (hr.sep j id p o M L (by simpa only [upd, if_neg e] using hj) hg hp ho hM hL hb)
  refine ⟨hle, fun i h0 h1 _ => by rw [hput i h1]; exact h0, ⟨?_, ?_, ?_, hr.base.step (Nat.le_of_eq hsz) (fun b hb => hblk b (fun e => by have h7 := hO.low ho'; simp only at h7; omega))⟩, by split <;> omega, hos, htape, hout, Nat.le_of_eq hsz, fun b hb hn => hblk b (fun e => hn (e ▸ hown)), ?_, fun j p hp => by
    by_cases e : j = nid
    · exact .inr (.inl e)
    · have hp' : upd g id none j = some p := by simpa only [upd, if_neg e] using hp
      by_cases e2 : j = id
      · simp [upd, e2] at hp'
      · exact .inl ⟨p, by simpa only [upd, if_neg e2] using hp'⟩⟩
  · intro j p hp
    by_cases e : j = nid
    · subst e
      simp only [upd, if_pos] at hp
      injection hp with hp; subst hp
      exact ⟨_, hself, hO⟩
    · have hp' : upd g id none j = some p := by simpa only [upd, if_neg e] using hp
      obtain ⟨M, h1, h2⟩ := hk.obj j p hp'
      refine ⟨M, by rw [hput j e]; exact h1, h2.mono hle (hblk _ ?_)⟩
      by_cases hp2 : p.rw = true
      · exact hother j p M hp' hp2 h1
      · intro hb
        obtain ⟨L', h3, h4⟩ := hr.obj id o hg
        rw [hL] at h3; injection h3 with h3; subst h3
        have h5 := h4.low ho
        have h6 := h2.high (by simpa using hp2)
        omega
  · intro i j p q A B hi hj hp hq hA hB hb
    by_cases ei : i = nid
    · by_cases ej : j = nid
      · rw [ei, ej]
      · have hj' : upd g id none j = some q := by simpa only [upd, if_neg ej] using hj
        rw [ei, hself] at hA; injection hA with hA
        rw [hput j ej] at hB
        exact absurd (hb.symm.trans (by rw [← hA])) (hother j q B hj' hq hB)
    · have hi' : upd g id none i = some p := by simpa only [upd, if_neg ei] using hi
      rw [hput i ei] at hA
      by_cases ej : j = nid
      · rw [ej, hself] at hB; injection hB with hB
        exact absurd (hb.trans (by rw [← hB])) (hother i p A hi' hp hA)
      · have hj' : upd g id none j = some q := by simpa only [upd, if_neg ej] using hj
        rw [hput j ej] at hB
        exact hk.sep i j p q A B hi' hj' hp hq hA hB hb
  · intro i hid
    have h1 : nx ≤ i ∧ i ≠ nid := by
      split at hid <;> constructor <;> omega
    rw [hput i h1.2]
    exact hr.lim i h1.1
  · intro b ⟨j, p, M, h1, h2, h3, h4⟩
    left
    by_cases e : j = nid
    · subst e
      rw [hself] at h3
      injection h3 with h3
      rw [← h4, ← h3]; exact hown
    · rw [hput j e] at h3
      have h1' : upd g id none j = some p := by simpa only [upd, if_neg e] using h1
      by_cases e2 : j = id
      · simp [upd, e2] at h1'
      · exact ⟨j, p, M, by simpa only [upd, if_neg e2] using h1', h2, h3, h4⟩

/-! ### cells -/
theorem over_spec : ∀ {cs vs r : List Value}, over cs vs = some r → vs.length ≤ cs.length ∧ r = vs ++ cs.drop vs.length
  | cs, [], r, h => by simp [over] at h; subst h; simp
  | [], v :: vs, r, h => by simp [over] at h
  | c :: cs, v :: vs, r, h => by
    simp only [over] at h
    split at h
    · rename_i r' hr
      obtain ⟨h1, h2⟩ := over_spec hr
      injection h with h
      subst h
      simp [h2]; omega
    · cases h
theorem putAt_spec : ∀ {cs : List Value} {o : Nat} {vs r : List Value}, putAt cs o vs = some r → o + vs.length ≤ cs.length ∧ r = cs.take o ++ vs ++ cs.drop (o + vs.length)
  | cs, 0, vs, r, h => by
    have h' : over cs vs = some r := by cases cs <;> exact h
    obtain ⟨h1, h2⟩ := over_spec h'
    simp [h2]; omega
  | [], o + 1, vs, r, h => by simp [putAt] at h
  | c :: cs, o + 1, vs, r, h => by
    simp only [putAt] at h
    split at h
    · rename_i r' hr
      obtain ⟨h1, h2⟩ := putAt_spec hr
      injection h with h
      subst h
      refine ⟨by simp; omega, ?_⟩
      rw [h2, show o + 1 + vs.length = (o + vs.length) + 1 by omega]
      simp
    · cases h
theorem cut_spec {cs r : List Value} {o n : Nat} (h : cut cs o n = some r) : r = (cs.drop o).take n ∧ r.length = n ∧ (n = 0 ∨ o + n ≤ cs.length) := by
  unfold cut at h
  simp only [beqd] at h
  by_cases e : ((cs.drop o).take n).length = n
  · simp only [e, decide_true, cond_true, Option.some.injEq] at h
    subst h
    refine ⟨rfl, e, ?_⟩
    rw [List.length_take, List.length_drop] at e
    omega
  · rw [decide_eq_false e] at h; cases h
theorem CR.cut {π : Pi} {cs : List Value} {ds : Array Value} {d : Nat} (h : CR π cs ds d) {o n : Nat} {r : List Value} (hc : cut cs o n = some r) :
    ∃ m : List Value, VRs π r m ∧ m.length = n ∧ ∀ (j : Nat) u, m[j]? = some u → ds[d + o + j]? = some u := by
  obtain ⟨rfl, hl, _⟩ := cut_spec hc
  refine ⟨(List.range n).map fun j => (ds[d + o + j]?).getD undef, ?_, by simp, ?_⟩
  · refine VRs.of_get (by rw [hl]; simp) (fun i v u hi hu => ?_)
    have hin : i < n := by have := (List.getElem?_eq_some_iff.1 hi).1; omega
    rw [List.getElem?_take, if_pos hin, List.getElem?_drop] at hi
    obtain ⟨u', h1, h2⟩ := h (o + i) v hi
    rw [List.getElem?_map, List.getElem?_range hin] at hu
    simp only [Option.map_some, Option.some.injEq] at hu
    rw [← Nat.add_assoc] at h1
    rw [h1] at hu
    simp only [Option.getD_some] at hu
    subst hu
    exact h2
  · intro j u hj
    have hjn : j < n := by have := (List.getElem?_eq_some_iff.1 hj).1; simpa using this
    rw [List.getElem?_map, List.getElem?_range hjn] at hj
    simp only [Option.map_some, Option.some.injEq] at hj
    obtain ⟨v, hv⟩ : ∃ v, ((cs.drop o).take n)[j]? = some v := ⟨_, List.getElem?_eq_getElem (by omega)⟩
    rw [List.getElem?_take, if_pos hjn, List.getElem?_drop] at hv
    obtain ⟨u', h1, h2⟩ := h (o + j) v hv
    rw [← Nat.add_assoc] at h1
    rw [h1] at hj ⊢
    simpa using hj
end Go.Proofs.Yteffhomollmpdaa.AM

/- The program's types as the machine reads them; loads and stores. -/
namespace Go.Proofs.Yteffhomollmpdaa.AM
open Go
variable [Tok]
set_option linter.unusedVariables false
set_option linter.unusedSectionVars false
set_option linter.unusedSimpArgs false

structure TOk (P : Program) (T : Tr TI) : Prop where
  ti : ∀ t i, T.get t = some i → tiOf P t = some i
  zero : ∀ t i, T.get t = some i → pv i.zero = true
theorem ti_spec {P : Program} {t : Nat} {i : TI} (h : tiOf P t = some i) : (∃ inf, P.info? t = some inf ∧ inf.size = i.size ∧ inf.bytes = i.bytes ∧ inf.zero = some i.zero) ∧ tkOf P t = i.k ∧ ∃ d, P.underlying t = some d := by
  unfold tiOf at h
  cases e : P.info? t with
  | none => simp [e] at h
  | some inf =>
    simp only [e] at h
    cases ez : inf.zero with
    | none => simp [ez] at h
    | some z =>
      cases eu : P.underlying t with
      | none => simp [ez, eu] at h
      | some d =>
        simp only [ez, eu, Option.some.injEq] at h
        subst h
        exact ⟨⟨inf, rfl, rfl, rfl, ez⟩, rfl, d, rfl⟩
section
variable {P : Program} {t : Nat} {i : TI} {w : World}
theorem und_bool (h : tkOf P t = .bool) : P.underlying t = some .bool := by
  unfold tkOf at h; split at h <;> first | assumption | (simp at h; done)
theorem und_int {k : IntKind} (h : tkOf P t = .int k) : P.underlying t = some (.int k) := by
  unfold tkOf at h; split at h <;> first | (rename_i e; injection h with h; subst h; exact e) | (simp at h; done)
theorem und_string (h : tkOf P t = .string) : P.underlying t = some .string := by
  unfold tkOf at h; split at h <;> first | assumption | (simp at h; done)
theorem und_ptr {e : Nat} (h : tkOf P t = .ptr e) : P.underlying t = some (.pointer e) := by
  unfold tkOf at h; split at h <;> first | (rename_i e; injection h with h; subst h; exact e) | (simp at h; done)
theorem und_slice {e : Nat} (h : tkOf P t = .slice e) : P.underlying t = some (.slice e) := by
  unfold tkOf at h; split at h <;> first | (rename_i e; injection h with h; subst h; exact e) | (simp at h; done)
theorem und_array {n e : Nat} (h : tkOf P t = .array n e) : P.underlying t = some (.array n e) := by
  unfold tkOf at h; split at h <;> first | (rename_i e; injection h with h1 h2; subst h1; subst h2; exact e) | (simp at h; done)
theorem und_map {k e : Nat} (h : tkOf P t = .map k e) : P.underlying t = some (.map k e) := by
  unfold tkOf at h; split at h <;> first | (rename_i e; injection h with h1 h2; subst h1; subst h2; exact e) | (simp at h; done)
theorem und_struct {fs : List (Nat × Nat)} {q : Bool} (h : tkOf P t = .struct fs q) : ∃ fa : Array Field, P.underlying t = some (.struct fa) ∧ (fs = fa.toList.map fun f => (f.offset, f.type)) ∧ q = eqOk P t fa.toList := by
  unfold tkOf at h; split at h <;> first | (rename_i fa e; injection h with h h2; exact ⟨fa, e, h.symm, h2.symm⟩) | (simp at h; done)
theorem und_func (h : tkOf P t = .func) : ∃ a b c, P.underlying t = some (.func a b c) := by
  unfold tkOf at h; split at h <;> first | (rename_i a b c e; exact ⟨a, b, c, e⟩) | (simp at h; done)
theorem run_under {d : TypeDesc} (h : P.underlying t = some d) : (underlying t).run P w = .ok d w := by simp [underlying, h]
theorem run_size (h : tiOf P t = some i) : (sizeOf t).run P w = .ok i.size w := by
  obtain ⟨⟨inf, h1, h2, h3, h4⟩, _⟩ := ti_spec h
  simp [sizeOf, typeInfo, h1, h2]
theorem run_info (h : tiOf P t = some i) : ∃ inf, (typeInfo t).run P w = .ok inf w ∧ inf.size = i.size ∧ inf.bytes = i.bytes := by
  obtain ⟨⟨inf, h1, h2, h3, h4⟩, _⟩ := ti_spec h
  exact ⟨inf, by simp [typeInfo, h1], h2, h3⟩
theorem run_zero (h : tiOf P t = some i) : (zeroValue t).run P w = .ok i.zero w := by
  obtain ⟨⟨inf, h1, h2, h3, h4⟩, _⟩ := ti_spec h
  simp [zeroValue, typeInfo, h1, h4]
theorem run_agg (h : tiOf P t = some i) : (isAgg t).run P w = .ok i.k.agg w := by
  obtain ⟨_, hk, d, hd⟩ := ti_spec h
  rw [← hk]
  unfold tkOf
  rw [hd]
  cases d <;> simp [isAgg, underlying, hd, TK.agg]
/-! ### loads -/
theorem cell_row {w : World} {b : Nat} {ds : Array Value} {ty : Nat} {fr : Nat × Nat} (h : w.heap[b]? = some (.cells ds ty fr)) (j : Nat) : w.cell? ⟨b, j, none⟩ = ds[j]? := by
  simp [World.cell?, h]
theorem add_none (b o n : Nat) : (⟨b, o, none⟩ : Addr).add n = ⟨b, o + n, none⟩ := by
  unfold Addr.add; split
  · rename_i h; subst h; rfl
  · rfl
theorem rd_spec {π : Pi} {N : Nat} {h : AHeap} {nx : Nat} {w : World} (hr : HR π N h.get nx w) {id : Nat} {cs : List Value} (hc : rd h id = some cs) :
    ∃ L ds ty fr, π id = some L ∧ w.heap[L.b]? = some (.cells ds ty fr) ∧ CR π cs ds L.d := by
  unfold rd at hc
  split at hc
  · rename_i cs' z e
    injection hc with hc; subst hc
    obtain ⟨L, h1, h0, ds, ty, fr, h2, _, _, _, h5⟩ := hr.obj id _ e
    exact ⟨L, ds, ty, fr, h1, h2, h5⟩
  · rename_i cs' e
    injection hc with hc; subst hc
    obtain ⟨L, h1, h0, ds, ty, fr, h2, h5⟩ := hr.obj id _ e
    exact ⟨L, ds, ty, fr, h1, h2, h5⟩
  · cases hc
theorem load_cells {π : Pi} {cs r : List Value} {b o n d ty : Nat} {ds : Array Value} {fr : Nat × Nat} (hb : w.heap[b]? = some (.cells ds ty fr)) (h : CR π cs ds d) (hc : cut cs o n = some r) :
    ∃ m : List Value, (loadCells ⟨b, d + o, none⟩ n).run P w = .ok ⟨m⟩ w ∧ VRs π r m ∧ m.length = n := by
  obtain ⟨m, h1, h2, h3⟩ := h.cut hc
  refine ⟨m, ?_, h1, h2⟩
  rw [← h2]
  exact run_loadCells_list (P := P) w ⟨b, d + o, none⟩ m (fun j v hj => by rw [add_none, cell_row hb]; exact h3 j v hj)
theorem aload_sound {π : Pi} {N : Nat} {h : AHeap} {nx : Nat} {T : Tr TI} (ht : TOk P T) (hr : HR π N h.get nx w) {a a' v : Value} (hl : aload T h t a = some v) (ha : VR π a a') :
    ∃ v', (Instr.loadAt t a').run P w = .ok v' w ∧ VR π v v' := by
  unfold aload at hl
  split at hl
  · rename_i id o
    cases ha with
    | ptr hL =>
      rename_i L
      split at hl
      · rename_i i cs hi hcs
        obtain ⟨L', ds, ty, fr, h1, h2, h3⟩ := rd_spec hr hcs
        rw [hL] at h1; injection h1 with h1; subst h1
        have hti := ht.ti _ _ hi
        cases hg : i.k.agg with
        | true =>
          rw [hg, cond_true] at hl
          split at hl
          · rename_i r hc
            injection hl with hl; subst hl
            obtain ⟨m, e1, e2, e3⟩ := load_cells (P := P) h2 h3 hc
            exact ⟨.agg ⟨m⟩, by simp [Instr.loadAt, Instr.sureAddr, loadVar, run_agg hti, run_size hti, hg, e1], .agg e2⟩
          · cases hl
        | false =>
          rw [hg, cond_false] at hl
          obtain ⟨u, e1, e2⟩ := h3 o v hl
          refine ⟨u, ?_, e2⟩
          have hcell : w.cell? ⟨L.b, L.d + o, none⟩ = some u := by rw [cell_row h2]; exact e1
          simp [Instr.loadAt, Instr.sureAddr, loadVar, run_agg hti, hg, load, Sem.run, hcell]
      · cases hl
  · cases hl
/-! ### stores -/
def setL (ds : Array Value) : Nat → List Value → Array Value
  | _, [] => ds
  | o, v :: r => setL (ds.setIfInBounds o v) (o + 1) r
theorem setL_size : ∀ (us : List Value) (o : Nat) (ds : Array Value), (setL ds o us).size = ds.size
  | [], _, _ => rfl
  | v :: r, o, ds => by rw [setL, setL_size r]; simp
theorem setL_get : ∀ (us : List Value) (o : Nat) (ds : Array Value) (j : Nat), o + us.length ≤ ds.size → (setL ds o us)[j]? = if o ≤ j ∧ j < o + us.length then us[j - o]? else ds[j]?
  | [], o, ds, j, _ => by rw [if_neg (by simp)]; rfl
  | v :: r, o, ds, j, h => by
    rw [setL, setL_get r (o + 1) _ j (by simp at h ⊢; omega)]
    by_cases h1 : o + 1 ≤ j ∧ j < o + 1 + r.length
    · rw [if_pos h1, if_pos (by simp; omega)]
      obtain ⟨m, hm⟩ : ∃ m, j - o = m + 1 := ⟨j - o - 1, by omega⟩
      rw [hm, List.getElem?_cons_succ]; congr 1; omega
    · rw [if_neg h1]
      by_cases e : o = j
      · subst e
        rw [if_pos (by simp), Nat.sub_self, List.getElem?_cons_zero, Array.getElem?_setIfInBounds_self_of_lt (by simp at h; omega)]
      · rw [if_neg (by simp; omega), Array.getElem?_setIfInBounds_ne e]
theorem heap_setCells (b : Nat) : ∀ (us : List Value) (o : Nat) (w : World) (ds : Array Value) (ty : Nat) (fr : Nat × Nat), w.heap[b]? = some (.cells ds ty fr) → (w.setCells b o us).heap[b]? = some (.cells (setL ds o us) ty fr)
  | [], o, w, ds, ty, fr, h => h
  | v :: r, o, w, ds, ty, fr, h => by
    rw [World.setCells, setL]
    exact heap_setCells b r (o + 1) _ _ ty fr (by simp [World.setCell, Array.getElem?_modify, h])
theorem other_setCells (b : Nat) : ∀ (us : List Value) (o : Nat) (w : World) (c : Nat), c ≠ b → (w.setCells b o us).heap[c]? = w.heap[c]?
  | [], _, _, _, _ => rfl
  | v :: r, o, w, c, h => by
    rw [World.setCells, other_setCells b r _ _ c h]
    simp [World.setCell, Array.getElem?_modify, h.symm]
theorem same_setCells (b : Nat) : ∀ (us : List Value) (o : Nat) (w : World), (w.setCells b o us).os = w.os ∧ (w.setCells b o us).tape = w.tape ∧ (w.setCells b o us).output = w.output ∧ (w.setCells b o us).heap.size = w.heap.size
  | [], _, _ => ⟨rfl, rfl, rfl, rfl⟩
  | v :: r, o, w => by
    obtain ⟨h1, h2, h3, h4⟩ := same_setCells b r (o + 1) (w.setCell ⟨b, o, none⟩ v)
    rw [World.setCells]
    exact ⟨h1, h2, h3, by rw [h4]; simp [World.setCell]⟩
theorem CR.set {π : Pi} {cs vs us : List Value} {ds : Array Value} {d o : Nat} (h : CR π cs ds d) (hv : VRs π vs us) (hl : o + vs.length ≤ cs.length) (hd : d + o + us.length ≤ ds.size) : CR π (cs.take o ++ vs ++ cs.drop (o + vs.length)) (setL ds (d + o) us) d := by
  intro j v hj
  have hlen := hv.length
  rw [setL_get us (d + o) ds (d + j) hd]
  by_cases h1 : j < o
  · rw [if_neg (by omega)]
    rw [List.append_assoc, List.getElem?_append_left (by simp; omega), List.getElem?_take, if_pos h1] at hj
    exact h j v hj
  · by_cases h2 : j < o + vs.length
    · rw [if_pos (by omega)]
      rw [List.append_assoc, List.getElem?_append_right (by simp; omega), List.getElem?_append_left (by simp; omega)] at hj
      rw [List.length_take, Nat.min_eq_left (by omega)] at hj
      obtain ⟨u, e1, e2⟩ := hv.get _ _ hj
      exact ⟨u, by rw [show d + j - (d + o) = j - o by omega]; exact e1, e2⟩
    · rw [if_neg (by omega)]
      rw [List.append_assoc, List.getElem?_append_right (by simp; omega), List.getElem?_append_right (by simp; omega), List.getElem?_drop] at hj
      rw [List.length_take, Nat.min_eq_left (by omega)] at hj
      have := h (o + vs.length + (j - o - vs.length)) v hj
      rwa [show o + vs.length + (j - o - vs.length) = j by omega] at this
theorem CR.le {π : Pi} {cs : List Value} {ds : Array Value} {d : Nat} (h : CR π cs ds d) (h0 : cs ≠ []) : d + cs.length ≤ ds.size := by
  have hp : 0 < cs.length := List.length_pos_iff.2 h0
  obtain ⟨u, hu, _⟩ := h (cs.length - 1) _ (List.getElem?_eq_getElem (by omega))
  have := (Array.getElem?_eq_some_iff.1 hu).1
  omega
theorem aput_sound {π : Pi} {N : Nat} {h h' : AHeap} {w : World} (hr : HR π N h.get h.next w) {id o : Nat} {vs us : List Value} (hp : aput h id o vs = some h') (hv : VRs π vs us) (nid : Nat) :
    ∃ L w', π id = some L ∧ (storeCells ⟨L.b, L.d + o, none⟩ us).run P w = .ok () w' ∧ Stp π N h.get h.next w π h'.get h'.next w' nid := by
  unfold aput at hp
  split at hp
  · rename_i cs z hg
    cases ho : ones vs with
    | false => rw [ho, cond_false] at hp; cases hp
    | true =>
      rw [ho, cond_true] at hp
      split at hp
      · rename_i r hpa
        injection hp with hp; subst hp
        obtain ⟨hl, rfl⟩ := putAt_spec hpa
        obtain ⟨L, hL, h0, ds, ty, fr, h1, h2, h3, h4, h5⟩ := hr.obj id _ hg
        have hlen := hv.length
        refine ⟨L, w.setCells L.b (L.d + o) us, hL, ?_, ?_⟩
        · by_cases he : us = []
          · subst he; rfl
          · have hsz : L.d + cs.length ≤ ds.size := h5.le (by intro e; have h9 := congrArg List.length e; have : us.length ≠ 0 := fun e => he (List.length_eq_zero_iff.1 e); simp only [List.length_nil] at h9; omega)
            have := run_storeCells_cells (P := P) L.b (L.d + o) us 0 w (fun j hj => by
              rw [cell_row h1, Nat.add_zero, Array.getElem?_eq_getElem (by omega)]; rfl) (fun j hj => by
              have := h4 (L.d + o + 0 + j) (by omega)
              obtain ⟨lo, hi⟩ := fr
              simp only [World.frozen?, h1]
              rw [Bool.eq_false_iff]
              intro hh
              simp only [Bool.and_eq_true, decide_eq_true_eq] at hh
              exact this hh) (hv.ones ho)
            simpa using this
        · rw [get_set]
          obtain ⟨s1, s2, s3, s4⟩ := same_setCells L.b us (L.d + o) w
          refine Stp.turn hr hg rfl rfl hL s1 s2 s3 s4.symm (fun b hb => other_setCells L.b us _ w b hb) ⟨h0, setL ds (L.d + o) us, ty, fr, heap_setCells L.b us _ w ds ty fr h1, by rw [setL_size]; exact h2, h3, by rw [setL_size]; exact h4, ?_⟩
          by_cases he : us = []
          · subst he
            have : vs = [] := by simpa using hlen
            subst this
            simp only [List.append_nil, List.length_nil, Nat.add_zero, List.take_append_drop]
            exact h5
          · have hsz : L.d + cs.length ≤ ds.size := h5.le (by intro e; have h9 := congrArg List.length e; have : us.length ≠ 0 := fun e => he (List.length_eq_zero_iff.1 e); simp only [List.length_nil] at h9; omega)
            exact h5.set hv hl (by omega)
      · cases hp
  · cases hp
theorem astore_sound {π : Pi} {N : Nat} {h h' : AHeap} {T : Tr TI} (ht : TOk P T) (hr : HR π N h.get h.next w) {a a' v v' : Value} (hl : astore T h t a v = some h') (ha : VR π a a') (hv : VR π v v') (nid : Nat) :
    ∃ w', (Instr.storeAt t a' v').run P w = .ok () w' ∧ Stp π N h.get h.next w π h'.get h'.next w' nid := by
  unfold astore at hl
  split at hl
  · rename_i id o
    split at hl
    · rename_i i hi
      rw [beqd] at hl
      by_cases hs : v.cells.toList.length = i.size
      · rw [decide_eq_true hs, cond_true] at hl
        cases ha with
        | ptr hL =>
          rename_i L
          obtain ⟨L', w', h1, h2, h3⟩ := aput_sound (P := P) hr hl hv.cells nid
          rw [hL] at h1; injection h1 with h1; subst h1
          refine ⟨w', ?_, h3⟩
          have hlen := hv.cells.length
          simp only [Array.length_toList] at hs hlen
          simp [Instr.storeAt, Instr.sureAddr, storeVar, run_size (ht.ti _ _ hi), ← hlen, hs, h2]
      · rw [decide_eq_false hs, cond_false] at hl; cases hl
    · cases hl
  · cases hl
end
end Go.Proofs.Yteffhomollmpdaa.AM

/- The machine's plain operations are the program's: literals, numbers, strings, comparisons. -/
namespace Go.Proofs.Yteffhomollmpdaa.AM
open Go
variable [Tok]
set_option linter.unusedVariables false
set_option linter.unusedSectionVars false
set_option linter.unusedSimpArgs false

inductive PRs (π : Pi) : List (Nat × Value) → List (Nat × Value) → Prop where
  | nil : PRs π [] []
  | cons {i : Nat} {v u : Value} {l m : List (Nat × Value)} (h : VR π v u) (t : PRs π l m) : PRs π ((i, v) :: l) ((i, u) :: m)
theorem fold_setL : ∀ (us : List Value) (k off : Nat) (ds : Array Value), (us.zipIdx k).foldl (fun (cs : Array Value) (p : Value × Nat) => cs.setIfInBounds (off + p.2) p.1) ds = setL ds (off + k) us
  | [], _, _, _ => rfl
  | v :: r, k, off, ds => by
    rw [List.zipIdx_cons, List.foldl_cons, fold_setL r (k + 1) off, setL]
    rfl
theorem setL_list {ds : Array Value} {us : List Value} {o : Nat} (h : o + us.length ≤ ds.size) : (setL ds o us).toList = ds.toList.take o ++ us ++ ds.toList.drop (o + us.length) := by
  apply List.ext_getElem?
  intro j
  have h1 := setL_get us o ds j h
  rw [Array.getElem?_toList, h1]
  by_cases a : j < o
  · rw [if_neg (by omega), List.append_assoc, List.getElem?_append_left (by simp; omega), List.getElem?_take, if_pos a, Array.getElem?_toList]
  · by_cases b : j < o + us.length
    · rw [if_pos (by omega), List.append_assoc, List.getElem?_append_right (by simp; omega), List.getElem?_append_left (by simp; omega)]
      congr 1; simp; omega
    · rw [if_neg (by omega), List.append_assoc, List.getElem?_append_right (by simp; omega), List.getElem?_append_right (by simp; omega), List.getElem?_drop, Array.getElem?_toList]
      congr 1; simp; omega
theorem afill_sound {π : Pi} {pl : Nat → Option (Nat × Nat)} : ∀ {parts parts' : List (Nat × Value)} {cs r : List Value} {ds : Array Value}, afill pl cs parts = some r → VRs π cs ds.toList → PRs π parts parts' →
    ∃ rs : Array Value, Instr.fill pl ds parts' = some rs ∧ VRs π r rs.toList
  | [], _, cs, r, ds, h, hv, .nil => by
    simp only [afill, Option.some.injEq] at h
    subst h
    exact ⟨ds, rfl, hv⟩
  | (i, v) :: rest, _, cs, r, ds, h, hv, .cons (u := u) (m := m) hvu ht => by
    simp only [afill] at h
    split at h
    · cases h
    · rename_i off size hpl
      rw [beqd] at h
      by_cases hs : v.cells.toList.length = size
      · rw [decide_eq_true hs, cond_true] at h
        split at h
        · rename_i r' hp
          obtain ⟨hl, rfl⟩ := putAt_spec hp
          have hc := hvu.cells
          have hlen := hc.length
          have hlen2 := hv.length
          have hus : u.cells.size = v.cells.toList.length := by rw [hlen]; simp
          have hds : ds.size = cs.length := by rw [hlen2]; simp
          have e1 : (u.cells.zipIdx.foldl (fun (cs : Array Value) (p : Value × Nat) => cs.setIfInBounds (off + p.2) p.1) ds) = setL ds off u.cells.toList := by
            have h9 := fold_setL u.cells.toList 0 off ds
            rw [Nat.add_zero] at h9
            rw [← h9, ← Array.foldl_toList, Array.toList_zipIdx]
          have hv' : VRs π (cs.take off ++ v.cells.toList ++ cs.drop (off + v.cells.toList.length)) (setL ds off u.cells.toList).toList := by
            rw [setL_list (by simp; omega), ← hlen]
            exact ((hv.take off).append hc).append (hv.drop _)
          obtain ⟨rs, h1, h2⟩ := afill_sound h hv' ht
          refine ⟨rs, ?_, h2⟩
          rw [Instr.fill]
          simp only [hpl]
          rw [if_neg (by simp; omega)]
          rw [← e1] at h1
          exact h1
        · cases h
      · rw [decide_eq_false hs, cond_false] at h; cases h
section
variable {P : Program} {T : Tr TI} {w : World} {π : Pi} {N : Nat}
theorem sizes_spec (ht : TOk P T) : ∀ {fs : List Field} {pl : List (Nat × Nat)}, sizes T (fs.map fun f => (f.offset, f.type)) = some pl → fs.mapM (fun f => (P.info? f.type).map fun i => (f.offset, i.size)) = some pl
  | [], pl, h => by simp [sizes] at h; subst h; rfl
  | f :: fs, pl, h => by
    simp only [List.map_cons, sizes] at h
    split at h
    · rename_i i l h1 h2
      injection h with h; subst h
      obtain ⟨⟨inf, e1, e2, _⟩, _⟩ := ti_spec (ht.ti _ _ h1)
      simp only [List.mapM_cons, sizes_spec ht h2, e1, e2, Option.map_some, Option.bind_eq_bind, Option.pure_def, Option.bind_some]
    · cases h
theorem abuild_sound (ht : TOk P T) {t : Nat} {parts : List (Nat × Value)} {parts' : Array (Nat × Value)} {v : Value} (h : abuild T t parts = some v) (hp : PRs π parts parts'.toList) :
    ∃ v', (Instr.build t parts').run P w = .ok v' w ∧ VR π v v' := by
  unfold abuild at h
  split at h
  · rename_i fs q sz by_ z hT
    split at h
    · rename_i pl hpl
      split at h
      · rename_i r hf
        injection h with h; subst h
        obtain ⟨⟨inf, e1, e2, e3, e4⟩, hk, _⟩ := ti_spec (ht.ti _ _ hT)
        obtain ⟨fa, hu, hfs, _⟩ := und_struct hk
        have hz := ht.zero _ _ hT
        obtain ⟨rs, h1, h2⟩ := afill_sound hf (VR.cells (VR.of_pv (π := π) hz)) hp
        refine ⟨.agg rs, run_build w t parts' rs ?_, .agg h2⟩
        unfold Program.built
        rw [hfs] at hpl
        simp only [e1, hu, e4, sizes_spec ht hpl]
        rw [← h1]
        simp
      · cases h
    · cases h
  · rename_i n e sz by_ z hT
    split at h
    · rename_i i hTe
      split at h
      · rename_i r hf
        injection h with h; subst h
        obtain ⟨⟨inf, e1, e2, e3, e4⟩, hk, _⟩ := ti_spec (ht.ti _ _ hT)
        obtain ⟨⟨inf2, g1, g2, g3, g4⟩, _⟩ := ti_spec (ht.ti _ _ hTe)
        have hu := und_array hk
        have hz := ht.zero _ _ hT
        obtain ⟨rs, h1, h2⟩ := afill_sound hf (VR.cells (VR.of_pv (π := π) hz)) hp
        refine ⟨.agg rs, run_build w t parts' rs ?_, .agg h2⟩
        unfold Program.built
        simp only [e1, hu, e4, g1, g2]
        exact h1
      · cases h
    · cases h
  · cases h
theorem reps_length (z : List Value) : ∀ n, (reps z n).length = n * z.length
  | 0 => by simp [reps]
  | n + 1 => by rw [reps, List.length_append, reps_length z n]; simp [Nat.add_mul]; omega
theorem reps_get (z : List Value) : ∀ (n j : Nat), j < n * z.length → (reps z n)[j]? = z[j % z.length]?
  | 0, j, h => by omega
  | n + 1, j, h => by
    rw [reps]
    by_cases e : j < z.length
    · rw [List.getElem?_append_left e, Nat.mod_eq_of_lt e]
    · rw [List.getElem?_append_right (by omega), reps_get z n (j - z.length) (by rw [Nat.add_mul] at h; omega)]
      rw [Nat.mod_eq_sub_mod (a := j) (by omega)]
theorem reps_array (z : Array Value) (n : Nat) : ((Array.range (n * z.size)).map (z[· % z.size]!)).toList = reps z.toList n := by
  apply List.ext_getElem?
  intro j
  by_cases h : j < n * z.size
  · rw [reps_get z.toList n j (by simpa using h)]
    have hz : 0 < z.size := by
      rcases Nat.eq_zero_or_pos z.size with e | e
      · rw [e] at h; omega
      · exact e
    have hm : j % z.size < z.size := Nat.mod_lt _ hz
    simp [h, hm]
  · rw [List.getElem?_eq_none (by simp; omega), List.getElem?_eq_none (by rw [reps_length]; simp; omega)]
theorem VRs.reps {z : List Value} (h : VRs π z z) : ∀ n, VRs π (reps z n) (reps z n)
  | 0 => .nil
  | n + 1 => by rw [AM.reps]; exact h.append (VRs.reps h n)
/-- a row of cells that is laid anew -/
theorem new_row {h : AHeap} (hr : HR π N h.get h.next w) {nid : Nat} (hn : π nid = none) {cs : List Value} {ds : Array Value} (hv : VRs π cs ds.toList) (ty : Nat) :
    ∃ π' , Stp π N h.get h.next w π' (h.new nid (.cells cs true)).get (h.new nid (.cells cs true)).next (w.alloc (.cells ds ty)) nid ∧ π' = π.put nid ⟨w.heap.size, 0, ds.size⟩ := by
  refine ⟨_, ?_, rfl⟩
  rw [get_new, next_new]
  have e : (w.alloc (.cells ds ty)).heap = w.heap.push (.cells ds ty) := rfl
  refine Stp.alloc hr hn rfl rfl rfl rfl (by rw [e]; simp) (fun b hb => by rw [e]; simp [Array.getElem?_push, Nat.ne_of_lt hb]) ⟨hr.base.le, ds, ty, (0, 0), by rw [e]; simp, rfl, fun _ => rfl, fun j hj => by simp, ?_⟩
  intro j v hj
  obtain ⟨u, h1, h2⟩ := hv.get j v hj
  exact ⟨u, by simpa using h1, h2.mono (Pi.le_put hn)⟩
theorem put_self (π : Pi) (id : Nat) (L : Loc) : (π.put id L) id = some L := by simp [Pi.put]
theorem vr_new (π : Pi) (id : Nat) (b n : Nat) : VR (π.put id ⟨b, 0, n⟩) (.pointer (some ⟨id, 0, none⟩)) (.pointer (some ⟨b, 0, none⟩)) := by
  have := VR.ptr (o := 0) (put_self π id ⟨b, 0, n⟩)
  simpa using this
theorem vr_slice_new (π : Pi) (id b n len cap : Nat) (hc : cap < CAPX) (hl : len ≤ cap) : VR (π.put id ⟨b, 0, n⟩) (.slice (some ⟨id, 0, none⟩) len cap) (.slice (some ⟨b, 0, none⟩) len cap) := by
  have := VR.slice (o := 0) (len := len) (cap := cap) (cap' := cap) (put_self π id ⟨b, 0, n⟩) (.inl ⟨hc, rfl, hl⟩)
  simpa using this
theorem abuildSlice_sound (ht : TOk P T) {h h' : AHeap} (hr : HR π N h.get h.next w) {nid t len : Nat} (hn : π nid = none) {parts : List (Nat × Value)} {parts' : Array (Nat × Value)} {v : Value}
    (hb : abuildSlice T h nid t len parts = some (v, h')) (hp : PRs π parts parts'.toList) :
    ∃ π' v' w', (Instr.buildSlice t len parts').run P w = .ok v' w' ∧ VR π' v v' ∧ Stp π N h.get h.next w π' h'.get h'.next w' nid := by
  unfold abuildSlice at hb
  split at hb
  · rename_i e sz by_ z hT
    split at hb
    · rename_i i hTe
      rw [bled, bled, beqd] at hb
      by_cases h1 : len * i.size ≤ 16777216 ∧ len ≤ 16777216
      · by_cases h2 : i.zero.cells.toList.length = i.size
        · obtain ⟨h1, hl⟩ := h1
          rw [decide_eq_true h1, decide_eq_true hl, decide_eq_true h2, Bool.and_self, cond_true, cond_true] at hb
          split at hb
          · rename_i r hf
            cases ho : ones r with
            | false => rw [ho, cond_false] at hb; cases hb
            | true =>
              rw [ho, cond_true] at hb
              injection hb with hb
              obtain ⟨rfl, rfl⟩ := Prod.mk.inj hb
              obtain ⟨_, hk, _⟩ := ti_spec (ht.ti _ _ hT)
              obtain ⟨⟨inf, e1, e2, e3, e4⟩, _⟩ := ti_spec (ht.ti _ _ hTe)
              have hu := und_slice hk
              have hz := ht.zero _ _ hTe
              have hzs : i.zero.cells.size = i.size := by simpa using h2
              by_cases hpos : len * i.size = 0
              · have hc0 : reps i.zero.cells.toList len = (#[] : Array Value).toList := by
                  have := reps_length i.zero.cells.toList len
                  rw [h2, hpos] at this
                  simpa using List.length_eq_zero_iff.1 this
                rw [hc0] at hf
                obtain ⟨rs, g1, g2⟩ := afill_sound (ds := #[]) hf .nil hp
                obtain ⟨π', hs, rfl⟩ := new_row hr hn g2 e
                refine ⟨_, .slice (some ⟨w.heap.size, 0, none⟩) len len, w.alloc (.cells rs e), ?_, ?_, hs⟩
                · have hs0 := run_size (w := w) (ht.ti _ _ hTe)
                  unfold Instr.buildSlice
                  simp only [Sem.run_bind, run_under hu, Result.andThen, hs0]
                  rw [hpos]
                  have hr0 : ∀ f : Nat → Value, Array.map f (Array.range 0) = #[] := fun f => by simp [Array.range]
                  simp [hr0, g1, newRow]
                · exact vr_slice_new π nid _ _ len len (by unfold CAPX; omega) (Nat.le_refl _)
              · have hzv : VRs π (reps i.zero.cells.toList len) ((Array.range (len * i.size)).map (i.zero.cells[· % i.zero.cells.size]!)).toList := by
                  rw [← hzs, reps_array]
                  exact VRs.reps (VR.cells (VR.of_pv (π := π) hz)) len
                obtain ⟨rs, g1, g2⟩ := afill_sound hf hzv hp
                obtain ⟨π', hs, rfl⟩ := new_row hr hn g2 e
                refine ⟨_, .slice (some ⟨w.heap.size, 0, none⟩) len len, w.alloc (.cells rs e), ?_, ?_, hs⟩
                · exact run_buildSlice w t e len parts' rs inf i.zero hu e1 e4 (by rw [e2]; omega) (by rw [e2]; exact hpos) (by rw [e2]; exact g1)
                · exact vr_slice_new π nid _ _ len len (by unfold CAPX; omega) (Nat.le_refl _)
          · cases hb
        · rw [decide_eq_false h2, cond_false] at hb; cases hc : (decide (len * i.size ≤ 16777216) && decide (len ≤ 16777216)) <;> rw [hc] at hb <;> cases hb
      · rw [← Bool.decide_and, decide_eq_false h1, cond_false] at hb; cases hb
    · cases hb
  · cases hb
end
end Go.Proofs.Yteffhomollmpdaa.AM

/- Numbers, strings, comparisons. -/
namespace Go.Proofs.Yteffhomollmpdaa.AM
open Go
variable [Tok]
set_option linter.unusedVariables false
set_option linter.unusedSectionVars false
set_option linter.unusedSimpArgs false

theorem eqB_spec : ∀ (x y : List UInt8), eqB x y = decide (x = y)
  | [], [] => by simp [eqB]
  | [], _ :: _ => by simp [eqB]
  | _ :: _, [] => by simp [eqB]
  | a :: x, b :: y => by
    simp only [eqB, beqd]
    by_cases h : a.toNat = b.toNat
    · have hab : a = b := UInt8.toNat_inj.1 h
      rw [decide_eq_true h, cond_true, eqB_spec x y, hab]
      simp
    · have hab : a ≠ b := fun e => h (by rw [e])
      rw [decide_eq_false h, cond_false]
      simp [hab]
theorem ltB_spec : ∀ (x y : List UInt8), ltB x y = Op.bytesLess x y
  | [], [] => by simp [ltB, Op.bytesLess]
  | [], _ :: _ => by simp [ltB, Op.bytesLess]
  | _ :: _, [] => by simp [ltB, Op.bytesLess]
  | a :: x, b :: y => by
    simp only [ltB, beqd, bltd, Op.bytesLess]
    by_cases h : a.toNat < b.toNat
    · have hab : a < b := UInt8.lt_iff_toNat_lt.2 h
      rw [decide_eq_true h, cond_true]
      simp [hab]
    · have hab : ¬ a < b := fun e => h (UInt8.lt_iff_toNat_lt.1 e)
      rw [decide_eq_false h, cond_false]
      by_cases e : a.toNat = b.toNat
      · have e2 : a = b := UInt8.toNat_inj.1 e
        rw [decide_eq_true e, cond_true, ltB_spec x y, e2]
        simp
      · have e2 : a ≠ b := fun e3 => e (by rw [e3])
        rw [decide_eq_false e, cond_false]
        simp [hab, e2]
theorem bl_size (s : ByteArray) : (bl s).length = s.size := by simp [bl]
theorem lb_bl (s : ByteArray) : lb (bl s) = s := by rcases s with ⟨⟨l⟩⟩; rfl
theorem bl_lb (l : List UInt8) : bl (lb l) = l := rfl
theorem bl_append (x y : ByteArray) : lb (bl x ++ bl y) = x ++ y := by
  have : bl (x ++ y) = bl x ++ bl y := by simp [bl]
  rw [← this, lb_bl]
theorem bl_extract (s : ByteArray) (l u : Nat) : lb (((bl s).drop l).take (u - l)) = s.extract l u := by
  have : bl (s.extract l u) = ((bl s).drop l).take (u - l) := by simp [bl, List.extract_eq_take_drop]
  rw [← this, lb_bl]
section
variable {P : Program} {T : Tr TI} {w : World} {π : Pi} {N : Nat}
theorem aint_sound {op : BinOp} {k : IntKind} {x y : Int} {v : Value} (h : aint op k x y = some v) (xt : Nat) : (binOp op xt (.int k x) (.int k y)).run P w = .ok v w ∧ ∀ π, VR π v v := by
  unfold aint at h
  cases op <;> simp only [Option.some.injEq] at h
  all_goals first
    | (subst h; exact ⟨by simp [binOp, Op.intArith, Op.intBits, Op.intCmp, Sem.run_pure], fun π => by first | exact .int _ _ | exact .bool _⟩)
    | (split at h
       · cases h
       · rename_i h0
         simp only [Option.some.injEq] at h
         subst h
         exact ⟨by simp [binOp, Op.intDiv, h0, Sem.run_pure], fun π => .int _ _⟩)
    | cases h
theorem ashift_sound {op : BinOp} {k j : IntKind} {x y : Int} {v : Value} (h : ashift op k x y = some v) (xt : Nat) : (binOp op xt (.int k x) (.int j y)).run P w = .ok v w ∧ ∀ π, VR π v v := by
  unfold ashift at h
  split at h
  · cases h
  · rename_i h0
    cases op <;> simp only [Option.some.injEq] at h
    all_goals first
      | (subst h; exact ⟨by simp [binOp, Op.shift, h0, Sem.run_pure], fun π => .int _ _⟩)
      | cases h
theorem astr_sound {op : BinOp} {x y : ByteArray} {v : Value} (h : astr op x y = some v) (xt : Nat) : (binOp op xt (.string x) (.string y)).run P w = .ok v w ∧ ∀ π, VR π v v := by
  have hb : ∀ s : ByteArray, s.toList = bl s := fun s => Lib.toList_data s
  have he : (bl x == bl y) = eqB (bl x) (bl y) := by rw [eqB_spec, Bool.eq_iff_iff]; simp
  unfold astr at h
  cases op <;> simp only [Option.some.injEq] at h
  case add =>
    rw [bled] at h
    by_cases hs : (bl x).length + (bl y).length ≤ 9223372036854775807
    · rw [decide_eq_true hs, cond_true] at h
      injection h with h; subst h
      refine ⟨?_, fun π => .string _⟩
      rw [bl_size, bl_size] at hs
      have hs' : ¬ ((x.size + y.size : Nat) : Int) > IntKind.i64.max := by
        have : IntKind.i64.max = 9223372036854775807 := by decide
        rw [this]; omega
      simp only [binOp, Op.stringOp]
      rw [if_neg hs', bl_append]
      rfl
    · rw [decide_eq_false hs, cond_false] at h; cases h
  all_goals first
    | (subst h; exact ⟨by simp only [binOp, Op.stringOp, hb, he, ← ltB_spec]; rfl, fun π => .bool _⟩)
    | cases h
/-! ### equality -/
theorem eqCell_sound {k : TK} {d : Nat} {t : Nat} (hk : tkOf P t = k) {x y x' y' : Value} {b : Bool} (h : eqCell k x y = some b) (hx : VR π x x') (hy : VR π y y') : (Op.equalIn (d + 1) t x' y').run P w = .ok b w := by
  unfold eqCell at h
  split at h
  · rename_i kk j a l c
    cases hx; cases hy
    split at h
    · rename_i hj
      simp only [Option.some.injEq] at h
      subst hj; subst h
      simp [Op.equalIn, run_under (und_int hk)]
    · cases h
  · cases hx; cases hy
    simp only [Option.some.injEq] at h
    subst h
    rename_i a c
    have : (a == c) = eqB (bl a) (bl c) := by
      rw [eqB_spec, Bool.eq_iff_iff, MapKept.bytes_beq, decide_eq_true_eq]
      exact ⟨fun e => by rw [e], fun e => by rw [← lb_bl a, ← lb_bl c, e]⟩
    simp [Op.equalIn, run_under (und_string hk), this]
  · cases hx; cases hy
    simp only [Option.some.injEq] at h
    subst h
    simp [Op.equalIn, run_under (und_bool hk)]
  · cases h
theorem eqCells_sound (ht : TOk P T) {d : Nat} {xs ys : Array Value} : ∀ {fs : List Field} {k : Nat} {l m l' m' : List Value} {b : Bool}, eqCells T (fs.map fun f => (f.offset, f.type)) l m = some b → VRs π l l' → VRs π m m' →
    (∀ p ∈ fs.zipIdx k, (p.1.name != "_" && Nat.beq p.1.offset p.2 && plainT P p.1.type) = true) →
    (∀ j, l'[j]? = xs[k + j]?) → (∀ j, m'[j]? = ys[k + j]?) → (Op.eqFields (d + 1) xs ys fs).run P w = .ok b w
  | [], k, l, m, l', m', b, h, hl, hm, _, _, _ => by
    cases l <;> cases m <;> simp [eqCells] at h
    subst h
    simp [Op.eqFields]
  | f :: fs, k, l, m, l', m', b, h, hl, hm, hq, hx, hy => by
    cases hl with
    | nil => simp [eqCells] at h
    | cons hv hl =>
      rename_i x x' l l'
      cases hm with
      | nil => simp [eqCells] at h
      | cons hu hm =>
        rename_i y y' m m'
        simp only [List.map_cons, eqCells] at h
        split at h
        · rename_i i hT
          split at h
          · rename_i a c h1 h2
            simp only [Option.some.injEq] at h
            subst h
            have hq0 := hq (f, k) (by simp [List.zipIdx_cons])
            simp only [Bool.and_eq_true, bne_iff_ne, ne_eq, beqd, decide_eq_true_eq] at hq0
            obtain ⟨⟨q1, q2⟩, q3⟩ := hq0
            have hti := ht.ti _ _ hT
            obtain ⟨_, hk, _⟩ := ti_spec hti
            have e1 : xs[f.offset]? = some x' := by rw [q2]; have := hx 0; simpa using this.symm
            have e2 : ys[f.offset]? = some y' := by rw [q2]; have := hy 0; simpa using this.symm
            have hag : i.k.agg = false := by
              rw [← hk]; unfold plainT at q3; unfold tkOf
              split at q3 <;> first | (rename_i e; rw [e]; rfl) | simp at q3
            have p1 : (part f.type xs f.offset).run P w = .ok x' w := by simp [part, run_agg hti, hag, e1]
            have p2 : (part f.type ys f.offset).run P w = .ok y' w := by simp [part, run_agg hti, hag, e2]
            have h3 := eqCell_sound (w := w) (d := d) hk h1 hv hu
            have h4 := eqCells_sound ht (d := d) (xs := xs) (ys := ys) (k := k + 1) h2 hl hm (fun p hp => hq p (by rw [List.zipIdx_cons]; exact List.mem_cons_of_mem _ hp)) (fun j => by have := hx (j + 1); simp only [List.getElem?_cons_succ] at this; rw [this]; congr 1; omega) (fun j => by have := hy (j + 1); simp only [List.getElem?_cons_succ] at this; rw [this]; congr 1; omega)
            unfold Op.eqFields
            rw [if_pos q1]
            simp only [Sem.run_bind, p1, p2, Result.andThen, h3]
            cases a <;> simp [h4]
          · cases h
        · cases h
end
end Go.Proofs.Yteffhomollmpdaa.AM

/- Equality, conversions, fields, places in rows. -/
namespace Go.Proofs.Yteffhomollmpdaa.AM
open Go
variable [Tok]
set_option linter.unusedVariables false
set_option linter.unusedSectionVars false
set_option linter.unusedSimpArgs false
section
variable {P : Program} {T : Tr TI} {w : World} {π : Pi} {N : Nat}
theorem unmarked_spec {h : AHeap} {nx : Nat} (hr : HR π N h.get nx w) {id : Nat} (hu : unmarked h id = true) : ∃ L ds ty, π id = some L ∧ w.heap[L.b]? = some (.cells ds ty (0, 0)) ∧ (∃ o, h.get id = some o ∧ o.rw = true) := by
  unfold unmarked at hu
  split at hu
  · rename_i cs e
    obtain ⟨L, h1, h0, ds, ty, fr, h2, h3, h4, _⟩ := hr.obj id _ e
    have := h4 rfl
    subst this
    exact ⟨L, ds, ty, h1, h2, _, e, rfl⟩
  · cases hu
theorem aeqIn_sound (d : Nat) (ht : TOk P T) {h : AHeap} {nx : Nat} (hr : HR π N h.get nx w) {t : Nat} {x y x' y' : Value} {b : Bool} (ha : aeq T h t x y = some b) (hx : VR π x x') (hy : VR π y y') : (Op.equalIn (d + 1 + 1) t x' y').run P w = .ok b w := by
  unfold aeq at ha
  split at ha
  · cases hx; cases hy
    split at ha
    · rename_i hT
      obtain ⟨_, hk, _⟩ := ti_spec (ht.ti _ _ hT)
      simp only [Option.some.injEq] at ha; subst ha
      unfold Op.equalIn; simp [run_under (und_bool hk)]
    · cases ha
  · cases hx
    split at ha
    · rename_i hT
      obtain ⟨_, hk, _⟩ := ti_spec (ht.ti _ _ hT)
      simp only [Option.some.injEq] at ha; subst ha
      cases hy <;> (unfold Op.equalIn; simp [run_under (und_ptr hk)])
    · cases ha
  · cases hy
    split at ha
    · rename_i hT
      obtain ⟨_, hk, _⟩ := ti_spec (ht.ti _ _ hT)
      simp only [Option.some.injEq] at ha; subst ha
      cases hx; unfold Op.equalIn; simp [run_under (und_ptr hk)]
    · cases ha
  · rename_i i o j p
    cases hx with
    | ptr hL =>
      rename_i L
      cases hy with
      | ptr hM =>
        rename_i M
        split at ha
        · rename_i e _ _ _ hT
          obtain ⟨_, hk, _⟩ := ti_spec (ht.ti _ _ hT)
          split at ha
          · rename_i ei hTe
            obtain ⟨⟨inf, g1, g2, _⟩, _⟩ := ti_spec (ht.ti _ _ hTe)
            rw [beqd] at ha
            by_cases hz : ei.size = 0
            · rw [decide_eq_true hz, cond_true] at ha; cases ha
            · rw [decide_eq_false hz, cond_false] at ha
              cases hu : (unmarked h i && unmarked h j) with
              | false => rw [hu, cond_false] at ha; cases ha
              | true =>
                rw [hu, cond_true] at ha
                simp only [Bool.and_eq_true] at hu
                simp only [Option.some.injEq] at ha
                obtain ⟨L', ds1, ty1, a1, a2, o1, a3, a4⟩ := unmarked_spec hr hu.1
                obtain ⟨M', ds2, ty2, b1, b2, o2, b3, b4⟩ := unmarked_spec hr hu.2
                rw [hL] at a1; injection a1 with a1; subst a1
                rw [hM] at b1; injection b1 with b1; subst b1
                by_cases hij : i = j ∧ o = p
                · obtain ⟨e1, e2⟩ := hij
                  subst e1; subst e2
                  rw [hL] at hM; injection hM with hM; subst hM
                  simp only [beqd, decide_true, Bool.and_self] at ha
                  subst ha
                  unfold Op.equalIn; simp [run_under (und_ptr hk), sizeOf, typeInfo, g1, run_sameAddr_same]
                · have hne : (⟨L.b, L.d + o, none⟩ : Addr) ≠ ⟨M.b, M.d + p, none⟩ := by
                    intro e
                    injection e with e1 e2 _
                    have e3 := hr.sep i j o1 o2 L M a3 b3 a4 b4 hL hM e1
                    subst e3
                    rw [hL] at hM; injection hM with hM; subst hM
                    exact hij ⟨rfl, by omega⟩
                  have hb : b = false := by
                    rw [← ha, beqd, beqd, ← Bool.decide_and]
                    exact decide_eq_false hij
                  subst hb
                  unfold Op.equalIn; simp [run_under (und_ptr hk), sizeOf, typeInfo, g1, g2, hz, run_sameAddr_other w hne a2 b2]
          · cases ha
        · cases ha
  · cases hx
    split at ha
    · rename_i hT
      obtain ⟨_, hk, _⟩ := ti_spec (ht.ti _ _ hT)
      simp only [Option.some.injEq] at ha; subst ha
      cases hy <;> (unfold Op.equalIn; simp [run_under (und_map hk)])
    · cases ha
  · cases hy
    split at ha
    · rename_i hT
      obtain ⟨_, hk, _⟩ := ti_spec (ht.ti _ _ hT)
      simp only [Option.some.injEq] at ha; subst ha
      cases hx; unfold Op.equalIn; simp [run_under (und_map hk)]
    · cases ha
  · cases hx
    split at ha
    · rename_i hT
      obtain ⟨_, hk, _⟩ := ti_spec (ht.ti _ _ hT)
      simp only [Option.some.injEq] at ha; subst ha
      cases hy <;> (unfold Op.equalIn; simp [run_under (und_slice hk)])
    · cases ha
  · cases hy
    split at ha
    · rename_i hT
      obtain ⟨_, hk, _⟩ := ti_spec (ht.ti _ _ hT)
      simp only [Option.some.injEq] at ha; subst ha
      cases hx <;> (unfold Op.equalIn; simp [run_under (und_slice hk)])
    · cases ha
  · cases hx; cases hy
    split at ha
    · rename_i hT
      obtain ⟨_, hk, _⟩ := ti_spec (ht.ti _ _ hT)
      obtain ⟨_, _, _, hf⟩ := und_func hk
      simp only [Option.some.injEq] at ha; subst ha
      unfold Op.equalIn; simp [run_under hf]
    · cases ha
  · cases hx; cases hy
    split at ha
    · rename_i hT
      obtain ⟨_, hk, _⟩ := ti_spec (ht.ti _ _ hT)
      obtain ⟨_, _, _, hf⟩ := und_func hk
      simp only [Option.some.injEq] at ha; subst ha
      unfold Op.equalIn; simp [run_under hf]
    · cases ha
  · cases hx with
    | agg hxs =>
      cases hy with
      | agg hys =>
        split at ha
        · rename_i hT
          obtain ⟨_, hk, _⟩ := ti_spec (ht.ti _ _ hT)
          obtain ⟨fa, hu, hfs, hq⟩ := und_struct hk
          have hq' := hq.symm
          unfold eqOk at hq'
          simp only [Bool.and_eq_true, Bool.not_eq_true', List.all_eq_true] at hq'
          obtain ⟨⟨q1, q2⟩, q3⟩ := hq'
          have hfo : P.fieldsOf t = fa := by simp [Program.fieldsOf, hu]
          have hu' : P.underlying t = some (.struct (P.fieldsOf t)) := by rw [hfo]; exact hu
          rw [run_equalIn_struct w (d + 1) t _ _ hu' q1, hfo]
          rw [hfs] at ha
          exact eqCells_sound ht (d := d) (k := 0) ha hxs hys (fun p hp => by rw [Bool.and_eq_true, Bool.and_eq_true]; exact q3 p hp) (fun j => by simp) (fun j => by simp)
        · cases ha
  · cases ha
theorem aeq_sound (ht : TOk P T) {h : AHeap} {nx : Nat} (hr : HR π N h.get nx w) {t : Nat} {x y x' y' : Value} {b : Bool} (ha : aeq T h t x y = some b) (hx : VR π x x') (hy : VR π y y') : (Op.equal t x' y').run P w = .ok b w := by
  have := aeqIn_sound (P := P) (w := w) 9998 ht hr ha hx hy
  exact this
end
end Go.Proofs.Yteffhomollmpdaa.AM

/- Guards, conversions, fields, places in rows, windows. -/
namespace Go.Proofs.Yteffhomollmpdaa.AM
open Go
variable [Tok]
set_option linter.unusedVariables false
set_option linter.unusedSectionVars false
set_option linter.unusedSimpArgs false
section
variable {P : Program} {T : Tr TI} {w : World} {π : Pi} {N : Nat}
/-- two values behind the guard of '==' -/
theorem abin_sound (ht : TOk P T) {h : AHeap} {nx : Nat} (hr : HR π N h.get nx w) {op : BinOp} {t : Nat} {x y x' y' v : Value} (xo yo : Operand) (ha : abin T h op t x y = some v) (hx : VR π x x') (hy : VR π y y') :
    ∃ v', (do eqGuard op t xo yo x' y'; binOp op t x' y' : Sem Value).run P w = .ok v' w ∧ VR π v v' := by
  unfold abin at ha
  split at ha
  · rename_i k a j b
    cases hx; cases hy
    have hg : (eqGuard op t xo yo (.int k a) (.int j b)).run P w = .ok () w := by
      unfold eqGuard; cases op <;> rfl
    split at ha
    · obtain ⟨h1, h2⟩ := ashift_sound (P := P) (w := w) (j := j) ha t
      exact ⟨v, by simp only [Sem.run_bind, hg, Result.andThen]; exact h1, h2 π⟩
    · obtain ⟨h1, h2⟩ := ashift_sound (P := P) (w := w) (j := j) ha t
      exact ⟨v, by simp only [Sem.run_bind, hg, Result.andThen]; exact h1, h2 π⟩
    · split at ha
      · rename_i hkj
        subst hkj
        obtain ⟨h1, h2⟩ := aint_sound (P := P) (w := w) ha t
        exact ⟨v, by simp only [Sem.run_bind, hg, Result.andThen]; exact h1, h2 π⟩
      · cases ha
  · rename_i a b
    cases hx; cases hy
    have hg : (eqGuard op t xo yo (.string a) (.string b)).run P w = .ok () w := by
      unfold eqGuard; cases op <;> rfl
    obtain ⟨h1, h2⟩ := astr_sound (P := P) (w := w) ha t
    exact ⟨v, by simp only [Sem.run_bind, hg, Result.andThen]; exact h1, h2 π⟩
  · rename_i n1 n2
    have key : ∀ b, aeq T h t x y = some b → (eqGuard op t xo yo x' y').run P w = .ok () w ∧ (op = .eql → (binOp op t x' y').run P w = .ok (.bool b) w) ∧ (op = .neq → (binOp op t x' y').run P w = .ok (.bool (!b)) w) := by
      intro b hb
      have he := aeq_sound ht hr hb hx hy
      refine ⟨?_, ?_, ?_⟩
      · unfold aeq at hb
        split at hb
        all_goals first
          | (cases hb; done)
          | (cases hx <;> cases hy <;> (unfold eqGuard; cases op <;> rfl))
          | (cases hx with
             | agg hxs =>
               cases hy with
               | agg hys =>
                 split at hb
                 · rename_i hT
                   obtain ⟨_, hk, _⟩ := ti_spec (ht.ti _ _ hT)
                   obtain ⟨fa, hu, hfs, hq⟩ := und_struct hk
                   have hq' := hq.symm
                   unfold eqOk at hq'
                   simp only [Bool.and_eq_true, Bool.not_eq_true'] at hq'
                   exact run_eqGuard_agg w op t xo yo _ _ hq'.1.2
                 · cases hb)
      · intro e; subst e
        have : binOp .eql t x' y' = (do pure (.bool (← Op.equal t x' y'))) := by
          cases hx <;> cases hy <;> first | rfl | exact absurd rfl (n1 _ _ _ _ rfl) | exact absurd rfl (n2 _ _ rfl) | (exfalso; exact n1 _ _ _ _ rfl rfl) | (exfalso; exact n2 _ _ rfl rfl) | (exfalso; simp [aeq] at hb; done)
        rw [this]; simp [he]
      · intro e; subst e
        have : binOp .neq t x' y' = (do pure (.bool (!(← Op.equal t x' y')))) := by
          cases hx <;> cases hy <;> first | rfl | (exfalso; exact n1 _ _ _ _ rfl rfl) | (exfalso; exact n2 _ _ rfl rfl) | (exfalso; simp [aeq] at hb; done)
        rw [this]; simp [he]
    split at ha
    · obtain ⟨b, hb, rfl⟩ := Option.map_eq_some_iff.1 ha
      obtain ⟨k1, k2, _⟩ := key b hb
      exact ⟨_, by simp only [Sem.run_bind, k1, Result.andThen]; exact k2 rfl, .bool _⟩
    · obtain ⟨b, hb, rfl⟩ := Option.map_eq_some_iff.1 ha
      obtain ⟨k1, _, k2⟩ := key b hb
      exact ⟨_, by simp only [Sem.run_bind, k1, Result.andThen]; exact k2 rfl, .bool _⟩
    · cases ha
theorem aun_sound {op : UnOp} {x x' v : Value} (ha : aun op x = some v) (hx : VR π x x') : ∃ v', (Op.unary op x').run P w = .ok v' w ∧ VR π v v' := by
  unfold aun at ha
  split at ha
  · cases hx
    simp only [Option.some.injEq] at ha; subst ha
    exact ⟨_, by simp [Op.unary, Op.intArith, Sem.run_pure], .int _ _⟩
  · cases hx
    rename_i k n
    simp only [aint, Option.some.injEq] at ha
    subst ha
    exact ⟨_, by simp [Op.unary, Op.intBits, Sem.run_pure], .int _ _⟩
  · cases hx
    simp only [Option.some.injEq] at ha; subst ha
    exact ⟨_, by simp [Op.unary, Sem.run_pure], .bool _⟩
  · cases ha
theorem afieldAddr_sound (ht : TOk P T) {s f : Nat} {x x' v : Value} (ha : afieldAddr T s x f = some v) (hx : VR π x x') : ∃ v', (Instr.fieldAt s x' f).run P w = .ok v' w ∧ VR π v v' := by
  unfold afieldAddr at ha
  split at ha
  · rename_i id o
    cases hx with
    | ptr hL =>
      rename_i L
      split at ha
      · rename_i fs q _ _ _ hT
        obtain ⟨_, hk, _⟩ := ti_spec (ht.ti _ _ hT)
        obtain ⟨fa, hu, hfs, _⟩ := und_struct hk
        split at ha
        · rename_i off t hf
          split at ha
          · rename_i i hTi
            rw [beqd] at ha
            by_cases hz : i.size = 0
            · rw [decide_eq_true hz, cond_true] at ha; cases ha
            · rw [decide_eq_false hz, cond_false] at ha
              simp only [Option.some.injEq] at ha; subst ha
              rw [hfs, List.getElem?_map] at hf
              obtain ⟨fd, h1, h2⟩ := Option.map_eq_some_iff.1 hf
              obtain ⟨rfl, rfl⟩ := Prod.mk.inj h2
              have h1' : fa[f]? = some fd := by simpa using h1
              refine ⟨.pointer (some ⟨L.b, L.d + o + fd.offset, none⟩), ?_, ?_⟩
              · simp [Instr.fieldAt, run_under hu, h1', Instr.sureAddr, fieldPlace, run_size (ht.ti _ _ hTi), hz, add_none]
              · rw [Nat.add_assoc]; exact .ptr hL
          · cases ha
        · cases ha
      · cases ha
  · cases ha
theorem part_sound (ht : TOk P T) {t off : Nat} {cs : List Value} {ds : Array Value} {v : Value} (ha : part? T t cs off = some v) (hx : VRs π cs ds.toList) : ∃ v', (part t ds off).run P w = .ok v' w ∧ VR π v v' := by
  unfold part? at ha
  split at ha
  · rename_i i hT
    have hti := ht.ti _ _ hT
    cases hg : i.k.agg with
    | true =>
      rw [hg, cond_true] at ha
      split at ha
      · rename_i r hc
        simp only [Option.some.injEq] at ha; subst ha
        obtain ⟨rfl, hl, _⟩ := cut_spec hc
        refine ⟨.agg (ds.extract off (off + i.size)), by simp [part, run_agg hti, hg, run_size hti], .agg ?_⟩
        have : (ds.extract off (off + i.size)).toList = (ds.toList.drop off).take i.size := by simp [List.extract_eq_take_drop]
        rw [this]
        exact (hx.drop off).take i.size
      · cases ha
    | false =>
      rw [hg, cond_false] at ha
      obtain ⟨u, h1, h2⟩ := hx.get _ _ ha
      have h1' : ds[off]? = some u := by simpa using h1
      exact ⟨u, by simp [part, run_agg hti, hg, h1'], h2⟩
  · cases ha
theorem afield_sound (ht : TOk P T) {s f : Nat} {x x' v : Value} (ha : afield T s x f = some v) (hx : VR π x x') : ∃ v', (Instr.field s x' f).run P w = .ok v' w ∧ VR π v v' := by
  unfold afield at ha
  split at ha
  · cases hx with
    | agg hxs =>
      split at ha
      · rename_i fs q _ _ _ hT
        obtain ⟨_, hk, _⟩ := ti_spec (ht.ti _ _ hT)
        obtain ⟨fa, hu, hfs, _⟩ := und_struct hk
        split at ha
        · rename_i off t hf
          rw [hfs, List.getElem?_map] at hf
          obtain ⟨fd, h1, h2⟩ := Option.map_eq_some_iff.1 hf
          obtain ⟨rfl, rfl⟩ := Prod.mk.inj h2
          have h1' : fa[f]? = some fd := by simpa using h1
          obtain ⟨v', e1, e2⟩ := part_sound (P := P) (w := w) ht ha hxs
          exact ⟨v', by simp [Instr.field, run_under hu, h1', asAgg, e1], e2⟩
        · cases ha
      · cases ha
  · cases ha
theorem aindexAddr_sound (ht : TOk P T) {t : Nat} {x x' i i' v : Value} (ha : aindexAddr T t x i = some v) (hx : VR π x x') (hi : VR π i i') : ∃ v', (Instr.indexAt t x' i').run P w = .ok v' w ∧ VR π v v' := by
  unfold aindexAddr at ha
  split at ha
  · rename_i k n
    cases hi
    split at ha
    · rename_i m e _ _ _ id o hT
      cases hx with
      | ptr hL =>
        rename_i L
        obtain ⟨_, hk, _⟩ := ti_spec (ht.ti _ _ hT)
        have hu := und_array hk
        split at ha
        · rename_i ei hTe
          split at ha
          · rename_i hb
            simp only [Option.some.injEq] at ha; subst ha
            refine ⟨.pointer (some ⟨L.b, L.d + o + n.toNat * ei.size, none⟩), ?_, by rw [Nat.add_assoc]; exact .ptr hL⟩
            simp [Instr.indexAt, asIntOf, run_under hu, Instr.sureAddr, hb.1, hb.2, run_size (ht.ti _ _ hTe), add_none]
          · cases ha
        · cases ha
    · rename_i e _ _ _ id o len cap hT
      obtain ⟨_, hk, _⟩ := ti_spec (ht.ti _ _ hT)
      have hu := und_slice hk
      split at ha
      · rename_i ei hTe
        split at ha
        · rename_i hb
          simp only [Option.some.injEq] at ha; subst ha
          cases hx with
          | slice hL hc =>
            rename_i cap' L
            refine ⟨.pointer (some ⟨L.b, L.d + o + n.toNat * ei.size, none⟩), ?_, by rw [Nat.add_assoc]; exact .ptr hL⟩
            simp [Instr.indexAt, asIntOf, run_under hu, hb.1, hb.2, run_size (ht.ti _ _ hTe), add_none]
          | sliceE hc => simp at hb; omega
        · cases ha
      · cases ha
    · cases ha
  · cases ha
theorem aindex_sound (ht : TOk P T) {t : Nat} {x x' i i' v : Value} (ha : aindex T t x i = some v) (hx : VR π x x') (hi : VR π i i') : ∃ v', (Instr.index t x' i').run P w = .ok v' w ∧ VR π v v' := by
  unfold aindex at ha
  split at ha
  · rename_i k n
    cases hi
    split at ha
    · rename_i m e _ _ _ cs hT
      cases hx with
      | agg hxs =>
        obtain ⟨_, hk, _⟩ := ti_spec (ht.ti _ _ hT)
        have hu := und_array hk
        split at ha
        · rename_i ei hTe
          split at ha
          · rename_i hb
            obtain ⟨v', e1, e2⟩ := part_sound (P := P) (w := w) ht ha hxs
            exact ⟨v', by simp [Instr.index, asIntOf, run_under hu, hb.1, hb.2, run_size (ht.ti _ _ hTe), e1], e2⟩
          · cases ha
        · cases ha
    · rename_i s hT
      cases hx
      obtain ⟨_, hk, _⟩ := ti_spec (ht.ti _ _ hT)
      have hu := und_string hk
      split at ha
      · rename_i h0
        split at ha
        · rename_i b hb
          simp only [Option.some.injEq] at ha; subst ha
          have hb' : s[n.toNat]? = some b := by
            have : (bl s)[n.toNat]? = s[n.toNat]? := by simp [bl]; rfl
            rw [← this]; exact hb
          exact ⟨byteV b, by simp [Instr.index, asIntOf, run_under hu, h0, hb', byteV], .int _ _⟩
        · cases ha
      · cases ha
    · cases ha
  · cases ha
end
end Go.Proofs.Yteffhomollmpdaa.AM

/- Windows of rows, and what is read out of them. -/
namespace Go.Proofs.Yteffhomollmpdaa.AM
open Go
variable [Tok]
set_option linter.unusedVariables false
set_option linter.unusedSectionVars false
set_option linter.unusedSimpArgs false
inductive OVR (π : Pi) : Option Value → Option Value → Prop where
  | none : OVR π none none
  | some {v u : Value} (h : VR π v u) : OVR π (some v) (some u)
section
variable {P : Program} {T : Tr TI} {w : World} {π : Pi} {N : Nat}
theorem optNat_none {d n : Nat} (h : optNat none d = some n) : n = d := by simpa [optNat] using h.symm
theorem optNat_some {v u : Value} {d n : Nat} (h : optNat (some v) d = some n) (hv : VR π v u) : ∃ k i, u = .int k i ∧ 0 ≤ i ∧ i.toNat = n := by
  simp only [optNat] at h
  unfold nat? at h
  split at h
  · cases hv
    split at h
    · rename_i h0
      exact ⟨_, _, rfl, h0, by simpa using h⟩
    · cases h
  · cases h
theorem nat_some {v u : Value} {n : Nat} (h : nat? v = some n) (hv : VR π v u) : ∃ k i, u = .int k i ∧ 0 ≤ i ∧ i.toNat = n := optNat_some (d := 0) h hv
theorem bound_run {k : IntKind} {i : Int} {y n : Nat} {code : BoundsCode} (h0 : 0 ≤ i) (hn : i.toNat = n) (h1 : n ≤ y) : (Instr.sliceBound (.int k i) y code).run P w = .ok n w := by
  rw [run_sliceBound w k i y code h0 (by omega), hn]
theorem bounds_run {b : Bool} {len cap l u m : Nat} {lo hi mx lo' hi' mx' : Option Value} (h1 : optNat lo 0 = some l) (h2 : optNat hi len = some u) (h3 : optNat mx cap = some m) (hlo : OVR π lo lo') (hhi : OVR π hi hi') (hmx : OVR π mx mx') (h4 : l ≤ u) (h5 : u ≤ m) (h6 : m ≤ cap) (h7 : mx.isSome = true → hi.isSome = true) :
    (Instr.sliceBounds b len cap lo' hi' mx').run P w = .ok (l, u, m) w := by
  unfold Instr.sliceBounds
  have e1 : ∀ code, ((match lo' with | some v => Instr.sliceBound v u code | none => pure 0 : Sem Nat)).run P w = .ok l w := by
    intro code
    cases hlo with
    | none => have := optNat_none h1; subst this; rfl
    | some hv => obtain ⟨k, i, rfl, g1, g2⟩ := optNat_some h1 hv; exact bound_run g1 g2 h4
  cases hmx with
  | none =>
    have hm := optNat_none h3; subst hm
    cases hhi with
    | none =>
      have hu := optNat_none h2; subst hu
      cases hlo with
      | none => have := optNat_none h1; subst this; simp [Sem.run_pure]
      | some hv =>
        obtain ⟨k, i, rfl, g1, g2⟩ := optNat_some h1 hv
        simp [Sem.run_pure, bound_run g1 g2 h4]
    | some hu =>
      obtain ⟨k, i, rfl, g1, g2⟩ := optNat_some h2 hu
      cases hlo with
      | none => have := optNat_none h1; subst this; simp [Sem.run_pure, bound_run g1 g2 h5]
      | some hv =>
        obtain ⟨k2, i2, rfl, g3, g4⟩ := optNat_some h1 hv
        simp [Sem.run_pure, bound_run g1 g2 h5, bound_run g3 g4 h4]
  | some hm =>
    obtain ⟨k, i, rfl, g1, g2⟩ := optNat_some h3 hm
    cases hhi with
    | none => simp at h7
    | some hu =>
      obtain ⟨k1, i1, rfl, g3, g4⟩ := optNat_some h2 hu
      cases hlo with
      | none => have := optNat_none h1; subst this; simp [Sem.run_pure, bound_run g1 g2 h6, bound_run g3 g4 h5]
      | some hv =>
        obtain ⟨k2, i2, rfl, g5, g6⟩ := optNat_some h1 hv
        simp [Sem.run_pure, bound_run g1 g2 h6, bound_run g3 g4 h5, bound_run g5 g6 h4]
/-- how far a row goes -/
theorem room_spec {h : AHeap} {nx : Nat} (hr : HR π N h.get nx w) {sz id o len cap hi cap' : Nat} {a' : Addr} (hrm : room h sz id o len cap hi = true) (hsz : 0 < sz) (hv : VR π (.slice (some ⟨id, o, none⟩) len cap) (.slice (some a') len cap')) : hi ≤ cap' := by
  have hcell : ∀ {cs : List Value} {z : Bool} {L : Loc}, h.get id = some (.cells cs z) → π id = some L → cs ≠ [] → L.d + cs.length ≤ L.n := by
    intro cs z L hg hL hne
    obtain ⟨L', h1, h0, ds, ty, fr, h2, h3, _, _, h5⟩ := hr.obj id _ hg
    rw [hL] at h1; injection h1 with h1; subst h1
    have := h5.le hne
    omega
  unfold room at hrm
  rw [bltd] at hrm
  by_cases hc : cap < CAPX
  · rw [decide_eq_true hc, cond_true, bled, decide_eq_true_eq] at hrm
    cases hv with
    | slice hL hk =>
      rcases hk with ⟨_, e, _⟩ | ⟨sz', e, _⟩
      · omega
      · omega
    | sliceE hk =>
      rcases hk with e | ⟨e, _⟩ <;> omega
  · rw [decide_eq_false hc, cond_false, beqd] at hrm
    by_cases he : cap = CAPX + sz
    · rw [decide_eq_true he, cond_true, bled] at hrm
      by_cases hl : hi ≤ len
      · cases hv with
        | slice hL hk =>
          rcases hk with ⟨e, _⟩ | ⟨sz', e, _, _, e4⟩ <;> omega
        | sliceE hk => exact hl
      · rw [decide_eq_false hl, cond_false] at hrm
        split at hrm
        · rename_i cs z hg
          rw [bled, decide_eq_true_eq] at hrm
          have hpos : 0 < hi * sz := Nat.mul_pos (by omega) hsz
          have hne : cs ≠ [] := by intro e; rw [e] at hrm; simp at hrm; omega
          cases hv with
          | slice hL hk =>
            rename_i L
            rcases hk with ⟨e, _⟩ | ⟨sz', e, _, e3, e4⟩
            · omega
            · have hs : sz' = sz := by omega
              subst hs
              have := hcell hg hL hne
              have h9 : hi * sz' ≤ cap' * sz' := by omega
              exact Nat.le_of_mul_le_mul_right h9 hsz
          | sliceE hk =>
            rcases hk with e | ⟨_, L, hL, e⟩
            · omega
            · have := hcell hg hL hne; omega
        · cases hrm
    · rw [decide_eq_false he, cond_false] at hrm; cases hrm
theorem aslice_sound (ht : TOk P T) {h : AHeap} {nx : Nat} (hr : HR π N h.get nx w) {t : Nat} {x x' v : Value} {lo hi mx lo' hi' mx' : Option Value} (ha : aslice T h t x lo hi mx = some v) (hx : VR π x x') (hlo : OVR π lo lo') (hhi : OVR π hi hi') (hmx : OVR π mx mx') :
    ∃ v', (Instr.sliceAt t x' lo' hi' mx').run P w = .ok v' w ∧ VR π v v' := by
  unfold aslice at ha
  split at ha
  · rename_i s hT
    cases hx
    obtain ⟨_, hk, _⟩ := ti_spec (ht.ti _ _ hT)
    have hu := und_string hk
    split at ha
    · rename_i l u h1 h2
      rw [bled, bled] at ha
      by_cases hb : l ≤ u ∧ u ≤ (bl s).length
      · rw [← Bool.decide_and, decide_eq_true hb, cond_true] at ha
        simp only [Option.some.injEq] at ha; subst ha
        cases hmx
        rw [bl_size] at h2 hb
        have hr1 := bounds_run (P := P) (w := w) (b := false) (cap := s.size) h1 h2 (mx := none) (mx' := none) (m := s.size) rfl hlo hhi .none hb.1 hb.2 (Nat.le_refl _) (by simp)
        rw [bl_extract]
        exact ⟨.string (s.extract l u), by simp [Instr.sliceAt, Instr.slice, run_under hu, hr1], .string _⟩
      · rw [← Bool.decide_and, decide_eq_false hb, cond_false] at ha; cases ha
    · cases ha
  · rename_i e _ _ _ hT
    cases hx
    obtain ⟨_, hk, _⟩ := ti_spec (ht.ti _ _ hT)
    have hu := und_slice hk
    split at ha
    · rename_i ei h0 h1 h2
      simp only [Option.some.injEq] at ha; subst ha
      cases hmx
      have hr1 := bounds_run (P := P) (w := w) (b := true) (len := 0) (cap := 0) h1 h2 (mx := none) (mx' := none) (m := 0) rfl hlo hhi .none (Nat.le_refl _) (Nat.le_refl _) (Nat.le_refl _) (by simp)
      exact ⟨.slice none 0 0, by simp [Instr.sliceAt, Instr.slice, run_under hu, hr1, run_size (ht.ti _ _ h0)], .slice0 _ _⟩
    · cases ha
  · rename_i e _ _ _ id o len cap hT
    obtain ⟨_, hk, _⟩ := ti_spec (ht.ti _ _ hT)
    have hu := und_slice hk
    split at ha
    · rename_i ei hTe
      have hse := run_size (w := w) (ht.ti _ _ hTe)
      rw [beqd] at ha
      by_cases hz : ei.size = 0
      · rw [decide_eq_true hz, cond_true] at ha; cases ha
      rw [decide_eq_false hz, cond_false] at ha
      have hz' : 0 < ei.size := Nat.pos_of_ne_zero hz
      obtain ⟨a', cap', hx'⟩ : ∃ a' cap', x' = .slice (some a') len cap' := by cases hx <;> exact ⟨_, _, rfl⟩
      subst hx'
      have hlen : len ≤ len := Nat.le_refl _
      split at ha
      · rename_i l u h1 h2
        cases hmx
        rw [bled, bltd, beqd] at ha
        by_cases hb : l ≤ u ∧ room h ei.size id o len cap u = true
        · have hb' : (decide (l ≤ u) && room h ei.size id o len cap u) = true := by rw [decide_eq_true hb.1, hb.2]; rfl
          rw [hb', cond_true] at ha
          have hcu := room_spec hr hb.2 hz' hx
          have hr1 := bounds_run (P := P) (w := w) (b := true) h1 h2 (mx := none) (mx' := none) (m := cap') (cap := cap') rfl hlo hhi .none hb.1 hcu (Nat.le_refl _) (by simp)
          have hrun : (Instr.sliceAt t (.slice (some a') len cap') lo' hi' none).run P w = .ok (.slice (if cap' = l then some a' else some (a'.add (l * ei.size))) (u - l) (cap' - l)) w := by
            simp [Instr.sliceAt, Instr.slice, run_under hu, hr1, hse]
          refine ⟨_, hrun, ?_⟩
          cases hx with
          | slice hL hc =>
            rename_i L
            rcases hc with ⟨c1, c2, c5⟩ | ⟨sz, c1, c2, c3, c4⟩
            · subst c2
              rw [decide_eq_true c1, cond_true] at ha
              simp only [Option.some.injEq] at ha; subst ha
              by_cases hcl : cap' = l
              · rw [decide_eq_true hcl, cond_true, if_pos hcl]
                exact .slice hL (.inl ⟨by omega, rfl, by omega⟩)
              · rw [decide_eq_false hcl, cond_false, if_neg hcl, add_none, Nat.add_assoc]
                exact .slice hL (.inl ⟨by omega, rfl, by omega⟩)
            · rw [decide_eq_false (by omega), cond_false] at ha
              simp only [Option.some.injEq] at ha; subst ha
              have hsz : sz = ei.size := by
                have hrm := hb.2
                unfold room at hrm
                rw [bltd, decide_eq_false (by omega), cond_false, beqd] at hrm
                by_cases he : cap = CAPX + ei.size
                · omega
                · rw [decide_eq_false he, cond_false] at hrm; cases hrm
              subst hsz
              by_cases hcl : cap' = l
              · rw [if_pos hcl]
                have hul : u = l := by omega
                subst hul
                rw [Nat.sub_self, hcl, Nat.sub_self]
                exact .sliceE (.inr ⟨by omega, L, hL, by rw [← hcl]; omega⟩)
              · rw [if_neg hcl, add_none, Nat.add_assoc]
                refine .slice hL (.inr ⟨ei.size, c1, c2, ?_, by omega⟩)
                obtain ⟨k, rfl⟩ : ∃ k, cap' = l + k := ⟨cap' - l, by omega⟩
                rw [Nat.add_sub_cancel_left]
                rw [Nat.add_mul] at c3
                omega
          | sliceE hc =>
            have hu0 : u = 0 := by omega
            have hl0 : l = 0 := by omega
            subst hu0; subst hl0
            rw [if_pos rfl]
            rcases hc with rfl | ⟨c1, c2⟩
            · rw [decide_eq_true (by decide), cond_true] at ha
              simp only [Option.some.injEq] at ha; subst ha
              exact .sliceE (.inl rfl)
            · rw [decide_eq_false (by omega), cond_false] at ha
              simp only [Option.some.injEq] at ha; subst ha
              obtain ⟨L, c2, c3⟩ := c2
              exact .sliceE (.inr ⟨c1, L, c2, by omega⟩)
        · have hb' : (decide (l ≤ u) && room h ei.size id o len cap u) = false := by
            rw [Bool.eq_false_iff]; intro e; simp only [Bool.and_eq_true, decide_eq_true_eq] at e; exact hb e
          rw [hb', cond_false] at ha; cases ha
      · rename_i m0 l u h1 h2
        cases hmx with
        | some hm =>
          rename_i m'
          split at ha
          · rename_i m hmn
            obtain ⟨k, i, rfl, g1, g2⟩ := nat_some hmn hm
            rw [bled, bled, bltd, beqd] at ha
            by_cases hb : (((hi.isSome = true ∧ l ≤ u) ∧ u ≤ m) ∧ m < CAPX) ∧ room h ei.size id o len cap m = true
            · have hb' : (hi.isSome && decide (l ≤ u) && decide (u ≤ m) && decide (m < CAPX) && room h ei.size id o len cap m) = true := by
                simp only [Bool.and_eq_true, decide_eq_true_eq]; exact hb
              rw [hb', cond_true] at ha
              simp only [Option.some.injEq] at ha; subst ha
              obtain ⟨⟨⟨⟨b1, b2⟩, b3⟩, b4⟩, b5⟩ := hb
              have hcu := room_spec hr b5 hz' hx
              have hr1 := bounds_run (P := P) (w := w) (b := true) (len := len) h1 h2 (mx := some m0) (mx' := some (.int k i)) (m := m) (cap := cap') hmn hlo hhi (.some hm) b2 b3 hcu (fun _ => b1)
              have hrun : (Instr.sliceAt t (.slice (some a') len cap') lo' hi' (some (.int k i))).run P w = .ok (.slice (if m = l then some a' else some (a'.add (l * ei.size))) (u - l) (m - l)) w := by
                simp [Instr.sliceAt, Instr.slice, run_under hu, hr1, hse]
              refine ⟨_, hrun, ?_⟩
              cases hx with
              | slice hL hc =>
                by_cases hcl : m = l
                · rw [decide_eq_true hcl, cond_true, if_pos hcl]
                  exact .slice hL (.inl ⟨by omega, rfl, by omega⟩)
                · rw [decide_eq_false hcl, cond_false, if_neg hcl, add_none, Nat.add_assoc]
                  exact .slice hL (.inl ⟨by omega, rfl, by omega⟩)
              | sliceE hc =>
                have hm0 : m = 0 := by omega
                have hl0 : l = 0 := by omega
                have hu0 : u = 0 := by omega
                subst hm0; subst hl0; subst hu0
                rw [if_pos rfl]
                exact .sliceE (.inl rfl)
            · have hb' : (hi.isSome && decide (l ≤ u) && decide (u ≤ m) && decide (m < CAPX) && room h ei.size id o len cap m) = false := by
                rw [Bool.eq_false_iff]; intro e; simp only [Bool.and_eq_true, decide_eq_true_eq] at e; exact hb e
              rw [hb', cond_false] at ha; cases ha
          · cases ha
      · cases ha
    · cases ha
  · rename_i n e _ _ _ id o hT
    obtain ⟨_, hk, _⟩ := ti_spec (ht.ti _ _ hT)
    have hu := und_array hk
    cases hx with
    | ptr hL =>
      rename_i L
      split at ha
      · rename_i ei hTe
        have hse := run_size (w := w) (ht.ti _ _ hTe)
        split at ha
        · rename_i l u h1 h2
          cases hmx
          rw [bled, bled, bltd, beqd] at ha
          by_cases hb : (l ≤ u ∧ u ≤ n) ∧ n < CAPX
          · have hb' : (decide (l ≤ u) && decide (u ≤ n) && decide (n < CAPX)) = true := by simp only [Bool.and_eq_true, decide_eq_true_eq]; exact hb
            rw [hb', cond_true] at ha
            simp only [Option.some.injEq] at ha; subst ha
            have hr1 := bounds_run (P := P) (w := w) (b := false) h1 h2 (mx := none) (mx' := none) (m := n) (cap := n) rfl hlo hhi .none hb.1.1 hb.1.2 (Nat.le_refl _) (by simp)
            have hrun : (Instr.sliceAt t (.pointer (some ⟨L.b, L.d + o, none⟩)) lo' hi' none).run P w = .ok (.slice (some (if n = l then ⟨L.b, L.d + o, none⟩ else (⟨L.b, L.d + o, none⟩ : Addr).add (l * ei.size))) (u - l) (n - l)) w := by
              simp [Instr.sliceAt, run_under hu, Instr.sureAddr, hr1, hse]
            refine ⟨_, hrun, ?_⟩
            by_cases hcl : n = l
            · rw [decide_eq_true hcl, cond_true, if_pos hcl]
              exact .slice hL (.inl ⟨by omega, rfl, by omega⟩)
            · rw [decide_eq_false hcl, cond_false, if_neg hcl, add_none, Nat.add_assoc]
              exact .slice hL (.inl ⟨by omega, rfl, by omega⟩)
          · have hb' : (decide (l ≤ u) && decide (u ≤ n) && decide (n < CAPX)) = false := by
              rw [Bool.eq_false_iff]; intro e; simp only [Bool.and_eq_true, decide_eq_true_eq] at e; exact hb e
            rw [hb', cond_false] at ha; cases ha
        · cases ha
      · cases ha
  · cases ha
end
end Go.Proofs.Yteffhomollmpdaa.AM

/- Appending. -/
namespace Go.Proofs.Yteffhomollmpdaa.AM
open Go
variable [Tok]
set_option linter.unusedVariables false
set_option linter.unusedSectionVars false
set_option linter.unusedSimpArgs false
theorem growBy_le (n : Nat) : ∀ (r c : Nat), c ≤ n + (n + 768) / 4 → Builtin.growBy n r c ≤ n + (n + 768) / 4
  | 0, c, h => h
  | r + 1, c, h => by
    unfold Builtin.growBy
    split
    · exact h
    · exact growBy_le n r _ (by omega)
theorem next_le {n c : Nat} (h : c < n) : Builtin.nextslicecap n c ≤ 2 * n + 192 := by
  unfold Builtin.nextslicecap
  split
  · omega
  · split
    · omega
    · have := growBy_le n 4 c (by omega)
      omega
theorem VR.inv_slice {π : Pi} {id o len cap : Nat} {y : Value} (h : VR π (.slice (some ⟨id, o, none⟩) len cap) y) : ∃ a' cap', y = .slice (some a') len cap' := by cases h <;> exact ⟨_, _, rfl⟩
section
variable {P : Program} {T : Tr TI} {w : World} {π : Pi} {N : Nat}
theorem load_list {b s ty : Nat} {m : List Value} {ds : Array Value} {fr : Nat × Nat} (hb : w.heap[b]? = some (.cells ds ty fr)) (hm : ∀ (j : Nat) u, m[j]? = some u → ds[s + j]? = some u) : (loadCells ⟨b, s, none⟩ m.length).run P w = .ok ⟨m⟩ w :=
  run_loadCells_list (P := P) w ⟨b, s, none⟩ m (fun j v hj => by rw [add_none, cell_row hb]; exact hm j v hj)
theorem first_slice {h : AHeap} {nx : Nat} (hr : HR π N h.get nx w) {sz id o n cap : Nat} {cs r : List Value} {x' : Value} (hcs : rd h id = some cs) (hc : cut cs o (n * sz) = some r) (hx : VR π (.slice (some ⟨id, o, none⟩) n cap) x') :
    ∃ us : Array Value, VRs π r us.toList ∧ us.size = n * sz ∧ ∀ w2 : World, w2.heap = w.heap → (Builtin.firstCells sz n x').run P w2 = .ok us w2 := by
  obtain ⟨L, ds, ty, fr, h1, h2, h3⟩ := rd_spec hr hcs
  cases hx with
  | slice hL hcap =>
    rw [hL] at h1; injection h1 with h1; subst h1
    obtain ⟨m, e2, e3, e4⟩ := h3.cut hc
    refine ⟨⟨m⟩, e2, e3, fun w2 hw2 => ?_⟩
    have := load_list (P := P) (w := w2) (by rw [hw2]; exact h2) e4
    rw [e3] at this
    exact this
  | sliceE _ =>
    obtain ⟨rfl, hl, _⟩ := cut_spec hc
    refine ⟨#[], ?_, by simp, fun w2 _ => ?_⟩
    · rw [Nat.zero_mul, List.take_zero]; exact .nil
    · simp [Builtin.firstCells, loadCells, loadCellsFrom, Sem.run_pure]
theorem srcCells_sound {h : AHeap} {nx : Nat} (hr : HR π N h.get nx w) {sz n : Nat} {x x' : Value} {news : List Value} (ha : srcCells h sz x = some (n, news)) (hx : VR π x x') :
    (Builtin.lenOf x').run P w = .ok n w ∧ ∃ us : Array Value, VRs π news us.toList ∧ us.size = n * sz ∧ ∀ w2 : World, w2.heap = w.heap → (Builtin.firstCells sz n x').run P w2 = .ok us w2 := by
  unfold srcCells at ha
  split at ha
  · cases hx
    simp only [Option.some.injEq, Prod.mk.injEq] at ha
    obtain ⟨rfl, rfl⟩ := ha
    exact ⟨by simp [Builtin.lenOf, Sem.run_pure], #[], .nil, by simp, fun k _ => by simp [Builtin.firstCells, Sem.run_pure]⟩
  · rename_i id o n' cap
    split at ha
    · rename_i cs hcs
      split at ha
      · rename_i r hc
        simp only [Option.some.injEq, Prod.mk.injEq] at ha
        obtain ⟨rfl, rfl⟩ := ha
        refine ⟨?_, first_slice hr hcs hc hx⟩
        obtain ⟨a', cap', rfl⟩ := hx.inv_slice
        simp [Builtin.lenOf, Sem.run_pure]
      · cases ha
    · cases ha
  · rename_i s
    cases hx
    rw [beqd] at ha
    by_cases hs : sz = 1
    · subst hs
      rw [decide_eq_true rfl, cond_true] at ha
      simp only [Option.some.injEq, Prod.mk.injEq] at ha
      obtain ⟨rfl, rfl⟩ := ha
      refine ⟨by simp [Builtin.lenOf, Sem.run_pure, bl_size], ⟨(bl s).map byteV⟩, ?_, by simp, fun w2 _ => ?_⟩
      · refine VRs.of_pv ?_
        rw [List.all_map, List.all_eq_true]
        intro b _; rfl
      · have e : s.extract 0 (bl s).length = s := by rw [bl_size]; exact ByteArray.extract_zero_size
        have e2 : s.data.map (fun b => Value.int .u8 (b.toNat : Int)) = ⟨(bl s).map byteV⟩ := by
          apply Array.ext'; simp [bl]; intros; rfl
        simp only [Builtin.firstCells, e, Sem.run_pure, e2]
    · rw [decide_eq_false hs, cond_false] at ha; cases ha
  · cases ha
/-- into the room that there is -/
theorem append_in {st xt e ty sz len n cap : Nat} {d : TypeDesc} {us : Array Value} {a' : Addr} {x' : Value} {w' : World} (hst : P.underlying st = some (.slice e)) (hxt : P.underlying xt = some d) (hd : (d matches .int _) = false)
    (hse : ∀ w : World, (sizeOf e).run P w = .ok sz w) (hn : (Builtin.lenOf x').run P w = .ok n w) (hf : ∀ w2 : World, w2.heap = w.heap → (Builtin.firstCells sz n x').run P w2 = .ok us w2) (hcap : len + n ≤ cap)
    (hs : (storeCells (a'.add (len * sz)) us.toList).run P w = .ok () w') : (Builtin.append_ #[st, xt] ty #[.slice (some a') len cap, x']).run P w = .ok (.slice (some a') (len + n) cap) w' := by
  have hf1 := hf w rfl
  have h0 : (#[st, xt] : Array Nat)[0]? = some st := rfl
  have h1 : (#[st, xt] : Array Nat)[1]? = some xt := rfl
  have h2 : (#[Value.slice (some a') len cap, x'] : Array Value)[0]? = some (.slice (some a') len cap) := rfl
  have h3 : (#[Value.slice (some a') len cap, x'] : Array Value)[1]? = some x' := rfl
  have hse1 := hse w
  clear hf hse
  unfold Builtin.append_
  simp only [h0, h1, h2, h3, Sem.run_bind, run_under hst, Result.andThen, hse1, run_under hxt, Sem.run_pure]
  cases d <;> first
    | (simp at hd; done)
    | (simp only [Bool.false_eq_true, if_false, hn, if_pos hcap, hf1, hs, Sem.run_bind, Result.andThen, Sem.run_pure, Bool.not_false, if_true])
/-- into a new row -/
theorem append_grow {st xt e ty sz len n cap by_ : Nat} {d : TypeDesc} {us olds : Array Value} {z s' x' : Value} {b' : Option Addr} (hst : P.underlying st = some (.slice e)) (hxt : P.underlying xt = some d) (hd : (d matches .int _) = false)
    (hse : ∀ w : World, (sizeOf e).run P w = .ok sz w) (hin : ∀ w : World, ∃ inf, (typeInfo e).run P w = .ok inf w ∧ inf.bytes = by_) (hz : ∀ w : World, (zeroValue e).run P w = .ok z w) (hn : (Builtin.lenOf x').run P w = .ok n w) (hs' : s' = .slice b' len cap)
    (hf : ∀ w2 : World, w2.heap = w.heap → (Builtin.firstCells sz n x').run P w2 = .ok us w2) (ho : ∀ w2 : World, w2.heap = w.heap → (Builtin.firstCells sz len s').run P w2 = .ok olds w2) (hcap : cap < len + n) (hfit : fits (len + n) by_ = true) :
    ∃ newCap, len + n ≤ newCap ∧ (Builtin.append_ #[st, xt] ty #[s', x']).run P w = .ok (.slice (some ⟨w.heap.size, 0, none⟩) (len + n) newCap) ({ w with drawn := w.drawn + 1 }.alloc (.cells (olds ++ us ++ Builtin.zeroCells z.cells (newCap - (len + n))) e)) := by
  subst hs'
  unfold fits at hfit
  rw [bled, bled, Bool.and_eq_true, decide_eq_true_eq, decide_eq_true_eq] at hfit
  refine ⟨(Question.appendCap (len + n) cap e).cut (w.tape w.drawn (.appendCap (len + n) cap e)), by simp [Question.cut], ?_⟩
  obtain ⟨inf, hi, hb⟩ := hin w
  have hnext := next_le hcap
  have hm : ¬ ((len : Int) + (n : Int) > IntKind.i64.max) := by
    have : IntKind.i64.max = 9223372036854775807 := by decide
    rw [this]; omega
  have hbig : ¬ (Builtin.nextslicecap (len + n) cap * inf.bytes > 281474976710656) := by
    rw [hb]
    have := Nat.mul_le_mul_right by_ hnext
    omega
  have hnot : ¬ (len + n ≤ cap) := by omega
  have hf1 := hf { w with drawn := w.drawn + 1 } rfl
  have ho1 := ho { w with drawn := w.drawn + 1 } rfl
  have h0 : (#[st, xt] : Array Nat)[0]? = some st := rfl
  have h1 : (#[st, xt] : Array Nat)[1]? = some xt := rfl
  have h2 : (#[Value.slice b' len cap, x'] : Array Value)[0]? = some (.slice b' len cap) := rfl
  have h3 : (#[Value.slice b' len cap, x'] : Array Value)[1]? = some x' := rfl
  have hse1 := hse w
  obtain ⟨inf2, hi2, hb2⟩ := hin { w with drawn := w.drawn + 1 }
  have hz2 := hz { w with drawn := w.drawn + 1 }
  have hc1 : ¬ (((len + n : Nat) : Int) > IntKind.i64.max ∧ inf.bytes = 0) := fun e => hm (by simpa using e.1)
  have hbig' : ¬ (Builtin.nextslicecap (len + n) cap * inf.bytes > 2 ^ 48) := hbig
  have hch : (Sem.choose (Question.appendCap (len + n) cap e) Sem.pure).run P w = .ok ((Question.appendCap (len + n) cap e).cut (w.tape w.drawn (.appendCap (len + n) cap e))) { w with drawn := w.drawn + 1 } := rfl
  clear hf hse hin hz ho hm
  unfold Builtin.append_
  simp only [h0, h1, h2, h3, Sem.run_bind, run_under hst, Result.andThen, hse1, run_under hxt, Sem.run_pure]
  cases d <;> first
    | (simp at hd; done)
    | (simp only [Bool.false_eq_true, if_false, hn, if_neg hnot, hi, Sem.run_bind, Result.andThen, Sem.run_pure, Bool.not_false, if_true, false_or]
       rw [if_neg hc1]
       simp only [hi, Sem.run_bind, Result.andThen]
       rw [if_neg hbig']
       simp only [choose, Sem.run_bind, hch, Result.andThen, hi2, run_askRoom, ho1, hf1, hz2, newRow, run_newObj, Sem.run_pure]
       rfl)
theorem append_nil {st xt e ty sz : Nat} {d : TypeDesc} {us : Array Value} {x' : Value} (hst : P.underlying st = some (.slice e)) (hxt : P.underlying xt = some d) (hd : (d matches .int _) = false)
    (hse : ∀ w : World, (sizeOf e).run P w = .ok sz w) (hn : (Builtin.lenOf x').run P w = .ok 0 w) (hf : ∀ w2 : World, w2.heap = w.heap → (Builtin.firstCells sz 0 x').run P w2 = .ok us w2) : (Builtin.append_ #[st, xt] ty #[.slice none 0 0, x']).run P w = .ok (.slice none 0 0) w := by
  have hf1 := hf w rfl
  have h0 : (#[st, xt] : Array Nat)[0]? = some st := rfl
  have h1 : (#[st, xt] : Array Nat)[1]? = some xt := rfl
  have h2 : (#[Value.slice none 0 0, x'] : Array Value)[0]? = some (.slice none 0 0) := rfl
  have h3 : (#[Value.slice none 0 0, x'] : Array Value)[1]? = some x' := rfl
  have hse1 := hse w
  clear hf hse
  unfold Builtin.append_
  simp only [h0, h1, h2, h3, Sem.run_bind, run_under hst, Result.andThen, hse1, run_under hxt, Sem.run_pure]
  cases d <;> first
    | (simp at hd; done)
    | (simp only [Bool.false_eq_true, if_false, hn, Nat.add_zero, Nat.le_refl, if_true, hf1, Sem.run_bind, Result.andThen, Sem.run_pure, Bool.not_false])
theorem CR.extend {old news us : List Value} {ds : Array Value} {d k : Nat} (h : CR π old ds d) (hk : old.length = k) (hv : VRs π news us) (hd : d + k + us.length ≤ ds.size) : CR π (old ++ news) (setL ds (d + k) us) d := by
  intro j v hj
  have hlen := hv.length
  rw [setL_get us (d + k) ds (d + j) hd]
  by_cases h1 : j < k
  · rw [if_neg (by omega)]
    rw [List.getElem?_append_left (by omega)] at hj
    exact h j v hj
  · rw [List.getElem?_append_right (by omega)] at hj
    obtain ⟨u, e1, e2⟩ := hv.get _ _ hj
    have hlt := (List.getElem?_eq_some_iff.1 e1).1
    rw [if_pos (by omega)]
    exact ⟨u, by rw [show d + j - (d + k) = j - old.length by omega]; exact e1, e2⟩
/-- the new row of an append -/
theorem grow_stp {h : AHeap} (hr : HR π N h.get h.next w) {nid : Nat} (hn : π nid = none) {cs : List Value} {ds : Array Value} {n0 : Nat} (z : Bool) (hv : ∀ (j : Nat) v, cs[j]? = some v → ∃ u, ds[j]? = some u ∧ VR π v u) (ty : Nat) (hsz : ds.size = n0) :
    Stp π N h.get h.next w (π.put nid ⟨w.heap.size, 0, n0⟩) (h.new nid (.cells cs z)).get (h.new nid (.cells cs z)).next ({ w with drawn := w.drawn + 1 }.alloc (.cells ds ty)) nid := by
  subst hsz
  rw [get_new, next_new]
  have e : ({ w with drawn := w.drawn + 1 }.alloc (.cells ds ty)).heap = w.heap.push (.cells ds ty) := rfl
  refine Stp.alloc hr hn rfl rfl rfl rfl (by rw [e]; simp) (fun b hb => by rw [e]; simp [Array.getElem?_push, Nat.ne_of_lt hb]) ⟨hr.base.le, ds, ty, (0, 0), by rw [e]; simp, rfl, fun _ => rfl, fun j hj => by simp, ?_⟩
  intro j v hj
  obtain ⟨u, h1, h2⟩ := hv j v hj
  exact ⟨u, by simpa using h1, h2.mono (Pi.le_put hn)⟩
theorem prefix_rel {old news : List Value} {olds us zs : Array Value} (h1 : VRs π old olds.toList) (h2 : VRs π news us.toList) (j : Nat) (v : Value) (hj : (old ++ news)[j]? = some v) : ∃ u, (olds ++ us ++ zs)[j]? = some u ∧ VR π v u := by
  obtain ⟨u, e1, e2⟩ := (h1.append h2).get j v hj
  have hlt := (List.getElem?_eq_some_iff.1 e1).1
  refine ⟨u, ?_, e2⟩
  rw [← Array.getElem?_toList, Array.toList_append, Array.toList_append, List.getElem?_append_left hlt]
  exact e1
theorem zero_size {z : Array Value} {n : Nat} : (Builtin.zeroCells z n).size = n * z.size := by simp [Builtin.zeroCells]
theorem vr_grown (π : Pi) {id b n len cap' sz : Nat} (hs : 0 < sz) (hn : cap' * sz = n) (hl : len ≤ cap') : VR (π.put id ⟨b, 0, n⟩) (.slice (some ⟨id, 0, none⟩) len (CAPX + sz)) (.slice (some ⟨b, 0, none⟩) len cap') := by
  have := VR.slice (o := 0) (len := len) (cap := CAPX + sz) (cap' := cap') (put_self π id ⟨b, 0, n⟩) (.inr ⟨sz, rfl, hs, by simpa using hn, hl⟩)
  simpa using this
theorem aappend_sound (ht : TOk P T) {h h' : AHeap} (hr : HR π N h.get h.next w) {nid ty : Nat} (hnid : π nid = none) {ts : List Nat} {tsa : Array Nat} (hts : tsa.toList = ts) {s s' x x' v : Value} (ha : aappend T h nid ts s x = some (v, h')) (hs : VR π s s') (hx : VR π x x') :
    ∃ π' v' w', (Builtin.append_ tsa ty #[s', x']).run P w = .ok v' w' ∧ VR π' v v' ∧ Stp π N h.get h.next w π' h'.get h'.next w' nid := by
  unfold aappend at ha
  split at ha
  · rename_i st xt
    obtain rfl : tsa = #[st, xt] := by apply Array.ext'; simpa using hts
    split at ha
    · rename_i e _ _ _ xi hTs hTx
      obtain ⟨_, hk, _⟩ := ti_spec (ht.ti _ _ hTs)
      have hst := und_slice hk
      obtain ⟨_, hkx, d, hxt⟩ := ti_spec (ht.ti _ _ hTx)
      split at ha
      · cases ha
      · rename_i ei hTe hni
        have hd : (d matches .int _) = false := by
          cases d <;> first | rfl | (exfalso; unfold tkOf at hkx; rw [hxt] at hkx; exact hni _ hkx.symm)
        have hte := ht.ti _ _ hTe
        have hse : ∀ w : World, (sizeOf e).run P w = .ok ei.size w := fun w => run_size hte
        have hin : ∀ w : World, ∃ inf, (typeInfo e).run P w = .ok inf w ∧ inf.bytes = ei.bytes := fun w => by
          obtain ⟨inf, h1, h2, h3⟩ := run_info (w := w) hte; exact ⟨inf, h1, h3⟩
        have hze : ∀ w : World, (zeroValue e).run P w = .ok ei.zero w := fun w => run_zero hte
        rw [beqd] at ha
        by_cases hz : ei.size = 0
        · rw [decide_eq_true hz, cond_true] at ha; cases ha
        rw [decide_eq_false hz, cond_false, beqd] at ha
        have hz' : 0 < ei.size := Nat.pos_of_ne_zero hz
        by_cases hzz : ei.zero.cells.toList.length = ei.size
        case neg => rw [decide_eq_false hzz] at ha; simp at ha
        rw [decide_eq_true hzz, Bool.not_true, cond_false] at ha
        have hzs : ei.zero.cells.size = ei.size := by simpa using hzz
        split at ha
        · cases ha
        · rename_i n news hsrc
          obtain ⟨hlen, us, hus, husz, hf⟩ := srcCells_sound (P := P) hr hsrc hx
          cases ho : ones news with
          | false => rw [ho, cond_false] at ha; cases ha
          | true =>
          rw [ho, cond_true] at ha
          split at ha
          · cases hs
            rw [beqd] at ha
            by_cases hn0 : n = 0
            · subst hn0
              rw [decide_eq_true rfl, cond_true] at ha
              simp only [Option.some.injEq, Prod.mk.injEq] at ha
              obtain ⟨rfl, rfl⟩ := ha
              exact ⟨π, _, w, append_nil hst hxt hd hse hlen hf, .slice0 _ _, Stp.refl hr nid⟩
            · rw [decide_eq_false hn0, cond_false] at ha
              cases hfit : fits n ei.bytes with
              | false => rw [hfit, cond_false] at ha; cases ha
              | true =>
                rw [hfit, cond_true] at ha
                simp only [Option.some.injEq, Prod.mk.injEq] at ha
                obtain ⟨rfl, rfl⟩ := ha
                obtain ⟨nc, h1, h2⟩ := append_grow (P := P) (w := w) (ty := ty) (len := 0) (cap := 0) (olds := #[]) (b' := none) hst hxt hd hse hin hze hlen rfl hf (fun w2 _ => by simp [Builtin.firstCells, Sem.run_pure]) (by omega) (by simpa using hfit)
                rw [Nat.zero_add] at h1 h2
                refine ⟨_, _, _, h2, vr_grown π hz' (n := nc * ei.size) rfl h1, grow_stp hr hnid true (fun j v hj => ?_) e ?_⟩
                · exact prefix_rel (old := []) (olds := #[]) .nil hus j v (by simpa using hj)
                · rw [Array.size_append, Array.size_append, zero_size, hzs, husz]
                  simp only [List.size_toArray, List.length_nil, Nat.zero_add]
                  rw [← Nat.add_mul]; congr 1; omega
          · rename_i id o len cap
            obtain ⟨a', cap', rfl⟩ := hs.inv_slice
            have hlc : len ≤ cap' := by
              cases hs with
              | slice hL hc => rcases hc with ⟨_, e1, e2⟩ | ⟨_, _, _, _, e2⟩ <;> omega
              | sliceE _ => exact Nat.le_refl _
            rw [beqd] at ha
            by_cases hn0 : n = 0
            · subst hn0
              rw [decide_eq_true rfl, cond_true] at ha
              simp only [Option.some.injEq, Prod.mk.injEq] at ha
              obtain ⟨rfl, rfl⟩ := ha
              have hus0 : us.toList = [] := by
                have : us.toList.length = 0 := by simpa using husz
                exact List.length_eq_zero_iff.1 this
              have := append_in (P := P) (w := w) (ty := ty) (cap := cap') hst hxt hd hse hlen hf (by omega) (a' := a') (w' := w) (by rw [hus0]; rfl)
              exact ⟨π, _, w, this, hs, Stp.refl hr nid⟩
            · rw [decide_eq_false hn0, cond_false] at ha
              cases hfit : fits (len + n) ei.bytes with
              | false => rw [hfit, cond_false] at ha; cases ha
              | true =>
              rw [hfit, cond_true, bled, decide_eq_false (by omega), cond_false] at ha
              cases hrm : room h ei.size id o 0 cap (len + n) with
              | true =>
                rw [hrm, cond_true] at ha
                split at ha
                · rename_i h2 hput
                  simp only [Option.some.injEq, Prod.mk.injEq] at ha
                  obtain ⟨rfl, rfl⟩ := ha
                  have hv0 : VR π (.slice (some ⟨id, o, none⟩) 0 cap) (.slice (some a') 0 cap') := by
                    cases hs with
                    | slice hL hc => exact .slice hL (hc.imp (fun ⟨e1, e2, _⟩ => ⟨e1, e2, Nat.zero_le _⟩) (fun ⟨q, e1, e2, e3, _⟩ => ⟨q, e1, e2, e3, Nat.zero_le _⟩))
                    | sliceE hc => exact .sliceE hc
                  have hin2 := room_spec hr hrm hz' hv0
                  cases hs with
                  | sliceE hc => omega
                  | slice hL hc =>
                    rename_i L
                    obtain ⟨L', w', g1, g2, g3⟩ := aput_sound (P := P) hr hput hus nid
                    rw [hL] at g1; injection g1 with g1; subst g1
                    have := append_in (P := P) (w := w) (ty := ty) (cap := cap') hst hxt hd hse hlen hf hin2 (a' := ⟨L.b, L.d + o, none⟩) (w' := w') (by rw [add_none, Nat.add_assoc]; exact g2)
                    exact ⟨π, _, w', this, .slice hL (hc.imp (fun ⟨e1, e2, _⟩ => ⟨e1, e2, by omega⟩) (fun ⟨q, e1, e2, e3, _⟩ => ⟨q, e1, e2, e3, hin2⟩)), g3⟩
                · cases ha
              | false =>
                rw [hrm, cond_false] at ha
                have hrd : ∀ cs old, rd h id = some cs → cut cs o (len * ei.size) = some old → ∃ olds : Array Value, VRs π old olds.toList ∧ olds.size = len * ei.size ∧ ∀ w2 : World, w2.heap = w.heap → (Builtin.firstCells ei.size len (.slice (some a') len cap')).run P w2 = .ok olds w2 := fun cs old h1 h2 => first_slice hr h1 h2 hs
                have hgrow : ∀ old, cap' < len + n → (∃ olds : Array Value, VRs π old olds.toList ∧ olds.size = len * ei.size ∧ ∀ w2 : World, w2.heap = w.heap → (Builtin.firstCells ei.size len (.slice (some a') len cap')).run P w2 = .ok olds w2) →
                    ∃ nc ds, len + n ≤ nc ∧ (Builtin.append_ #[st, xt] ty #[.slice (some a') len cap', x']).run P w = .ok (.slice (some ⟨w.heap.size, 0, none⟩) (len + n) nc) ({ w with drawn := w.drawn + 1 }.alloc (.cells ds e)) ∧ ds.size = nc * ei.size ∧ (∀ (j : Nat) v, (old ++ news)[j]? = some v → ∃ u, ds[j]? = some u ∧ VR π v u) := by
                  rintro old hc ⟨olds, q1, q2, q3⟩
                  obtain ⟨nc, h1, h2⟩ := append_grow (P := P) (w := w) (ty := ty) hst hxt hd hse hin hze hlen rfl hf q3 hc hfit
                  refine ⟨nc, _, h1, h2, ?_, fun j v hj => prefix_rel q1 hus j v hj⟩
                  rw [Array.size_append, Array.size_append, zero_size, hzs, husz, q2]
                  rw [← Nat.add_mul, ← Nat.add_mul]; congr 1; omega
                have hexact : cap < CAPX → cap' < len + n := by
                  intro hc
                  unfold room at hrm
                  rw [bltd, decide_eq_true hc, cond_true, bled, decide_eq_false_iff_not] at hrm
                  cases hs with
                  | slice hL hk => rcases hk with ⟨_, e1, _⟩ | ⟨q, e1, _⟩ <;> omega
                  | sliceE hk => omega
                split at ha
                · rename_i cs z hg
                  have hrdc : rd h id = some cs := by unfold rd; rw [hg]
                  split at ha
                  · rename_i old hcut
                    rw [bltd] at ha
                    by_cases hc : cap < CAPX
                    · rw [decide_eq_true hc, cond_true] at ha
                      simp only [Option.some.injEq, Prod.mk.injEq] at ha
                      obtain ⟨rfl, rfl⟩ := ha
                      obtain ⟨nc, ds, g1, g2, g3, g4⟩ := hgrow old (hexact hc) (hrd cs old hrdc hcut)
                      exact ⟨_, _, _, g2, vr_grown π hz' (n := nc * ei.size) rfl g1, grow_stp hr hnid true g4 e g3⟩
                    · rw [decide_eq_false hc, cond_false, beqd] at ha
                      by_cases hce : cap = CAPX + ei.size
                      case neg => rw [decide_eq_false hce, cond_false] at ha; cases ha
                      rw [decide_eq_true hce, cond_true] at ha
                      simp only [Option.some.injEq, Prod.mk.injEq] at ha
                      obtain ⟨rfl, rfl⟩ := ha
                      by_cases hroom : len + n ≤ cap'
                      · cases hs with
                        | sliceE hk => omega
                        | slice hL hk =>
                          rename_i L
                          rcases hk with ⟨e1, _⟩ | ⟨sz, e1, e2, e3, e4⟩
                          · omega
                          · have hsz : sz = ei.size := by omega
                            subst hsz
                            obtain ⟨L', p1, p0, ds, dty, fr, p2, p3, p4, p5, p6⟩ := hr.obj id _ hg
                            rw [hL] at p1; injection p1 with p1; subst p1
                            have hmul : (len + n) * ei.size ≤ cap' * ei.size := Nat.mul_le_mul_right _ hroom
                            have hfitc : L.d + o + len * ei.size + us.toList.length ≤ ds.size := by
                              rw [p3, Array.length_toList, husz]
                              rw [Nat.add_mul] at hmul
                              omega
                            have hst2 : (storeCells ⟨L.b, L.d + o + len * ei.size, none⟩ us.toList).run P w = .ok () (w.setCells L.b (L.d + o + len * ei.size) us.toList) := by
                              have := run_storeCells_cells (P := P) L.b (L.d + o + len * ei.size) us.toList 0 w (fun j hj => by
                                rw [cell_row p2, Nat.add_zero, Array.getElem?_eq_getElem (by omega)]; rfl) (fun j hj => by
                                have := p5 (L.d + o + len * ei.size + 0 + j) (by omega)
                                obtain ⟨lo, hi⟩ := fr
                                simp only [World.frozen?, p2]
                                rw [Bool.eq_false_iff]
                                intro hh
                                simp only [Bool.and_eq_true, decide_eq_true_eq] at hh
                                exact this hh) (hus.ones ho)
                              simpa using this
                            have hrun := append_in (P := P) (w := w) (ty := ty) (cap := cap') hst hxt hd hse hlen hf hroom (a' := ⟨L.b, L.d + o, none⟩) (w' := w.setCells L.b (L.d + o + len * ei.size) us.toList) (by rw [add_none]; exact hst2)
                            obtain ⟨c1, c2, c3⟩ := cut_spec hcut
                            obtain ⟨s1, s2, s3, s4⟩ := same_setCells L.b us.toList (L.d + o + len * ei.size) w
                            have hcro : CR π old ds (L.d + o) := by
                              intro j v hj
                              have hjl : j < len * ei.size := by have := (List.getElem?_eq_some_iff.1 hj).1; omega
                              rw [c1, List.getElem?_take, if_pos hjl, List.getElem?_drop] at hj
                              obtain ⟨u, u1, u2⟩ := p6 _ _ hj
                              exact ⟨u, by rw [Nat.add_assoc]; exact u1, u2⟩
                            refine ⟨π.put nid ⟨L.b, L.d + o, L.n⟩, _, _, hrun, ?_, ?_⟩
                            · have := VR.slice (o := 0) (len := len + n) (cap := CAPX + ei.size) (cap' := cap') (put_self π nid ⟨L.b, L.d + o, L.n⟩) (.inr ⟨ei.size, rfl, hz', by simpa using e3, hroom⟩)
                              simpa using this
                            · rw [get_new, get_kill, next_new]
                              refine Stp.move hr hg rfl rfl hL hnid s1 s2 s3 s4.symm (fun b hb => other_setCells L.b us.toList _ w b hb) ⟨p0, setL ds (L.d + o + len * ei.size) us.toList, dty, fr, heap_setCells L.b us.toList _ w ds dty fr p2, by rw [setL_size]; exact p3, p4, by rw [setL_size]; exact p5, ?_⟩
                              exact (hcro.extend c2 hus hfitc).mono (Pi.le_put hnid)
                      · obtain ⟨nc, ds, g1, g2, g3, g4⟩ := hgrow old (by omega) (hrd cs old hrdc hcut)
                        have hk := Stp.kill hr id nid
                        have hr2 : HR π N (h.kill id).get (h.kill id).next w := by rw [get_kill]; exact hr.kill id
                        have hg := grow_stp hr2 hnid z g4 e g3
                        rw [get_kill] at hg
                        exact ⟨_, _, _, g2, vr_grown π hz' (n := nc * ei.size) rfl g1, hk.trans hg (.inl rfl)⟩
                  · cases ha
                · rename_i cs hg
                  have hrdc : rd h id = some cs := by unfold rd; rw [hg]
                  split at ha
                  · rename_i old hcut
                    rw [bltd] at ha
                    by_cases hc : cap < CAPX
                    · rw [decide_eq_true hc, cond_true] at ha
                      simp only [Option.some.injEq, Prod.mk.injEq] at ha
                      obtain ⟨rfl, rfl⟩ := ha
                      obtain ⟨nc, ds, g1, g2, g3, g4⟩ := hgrow old (hexact hc) (hrd cs old hrdc hcut)
                      exact ⟨_, _, _, g2, vr_grown π hz' (n := nc * ei.size) rfl g1, grow_stp hr hnid true g4 e g3⟩
                    · rw [decide_eq_false hc, cond_false] at ha; cases ha
                  · cases ha
                · cases ha
          · cases ha
      · cases ha
    · cases ha
  · cases ha
end
end Go.Proofs.Yteffhomollmpdaa.AM

/- Maps. -/
namespace Go.Proofs.Yteffhomollmpdaa.AM
open Go
variable [Tok]
set_option linter.unusedVariables false
set_option linter.unusedSectionVars false
set_option linter.unusedSimpArgs false
section
variable {P : Program} {T : Tr TI} {w : World} {π : Pi} {N : Nat}
theorem isKey_spec (ht : TOk P T) {kt : Nat} {x : Value} (h : isKey T kt x = true) : ∃ d, P.underlying kt = some d ∧ MapKept.IsKey d x ∧ ∀ π y, VR π x y → y = x := by
  unfold isKey at h
  split at h
  · rename_i k _ _ _ j n hT
    obtain ⟨_, hk, _⟩ := ti_spec (ht.ti _ _ hT)
    have hj : k = j := by simpa using h
    exact ⟨_, und_int hk, hj.symm, fun π y hy => by cases hy; rfl⟩
  · rename_i hT
    obtain ⟨_, hk, _⟩ := ti_spec (ht.ti _ _ hT)
    exact ⟨_, und_string hk, trivial, fun π y hy => by cases hy; rfl⟩
  · cases h
theorem keyEq_spec {d : TypeDesc} {x k : Value} {b : Bool} (hx : MapKept.IsKey d x) (h : keyEq x k = some b) : Instr.sameNow d x k = some b ∧ (b = true → k = x) ∧ (b = false → k ≠ x) := by
  unfold keyEq at h
  split at h
  · rename_i j a l c
    split at h
    · rename_i hj
      subst hj
      simp only [Option.some.injEq] at h
      subst h
      refine ⟨?_, fun e => by simp at e; rw [e], fun e e2 => by injection e2 with _ e2; simp [e2] at e⟩
      cases d <;> simp_all [MapKept.IsKey, Instr.sameNow]
    · cases h
  · rename_i a c
    simp only [Option.some.injEq] at h
    have hab : (a == c) = b := by
      rw [← h, eqB_spec, Bool.eq_iff_iff, MapKept.bytes_beq, decide_eq_true_eq]
      exact ⟨fun e => by rw [e], fun e => by rw [← lb_bl a, ← lb_bl c, e]⟩
    refine ⟨?_, fun e => ?_, fun e e2 => ?_⟩
    · cases d <;> simp_all [MapKept.IsKey, Instr.sameNow]
    · rw [e, MapKept.bytes_beq] at hab; rw [hab]
    · injection e2 with e2
      rw [← e2, e, Bool.eq_false_iff] at hab
      exact hab ((MapKept.bytes_beq _ _).2 rfl)
  · cases h
theorem MR.length {l : List (Value × Value)} {m : List MapEntry} (h : MR π l m) : l.length = m.length := by
  induction h with
  | nil => rfl
  | cons _ _ _ ih => simp [ih]
theorem mget_sound {d : TypeDesc} {x : Value} (hx : MapKept.IsKey d x) {l : List (Value × Value)} {m : List MapEntry} (h : MR π l m) : ∀ (r : Option Value) (i : Nat), mget l x = some r →
    (r = none ∧ Instr.findNow d x m i = some none ∧ ∀ e ∈ m, e.key ≠ x) ∨ ∃ j e v, r = some v ∧ Instr.findNow d x m i = some (some (i + j, e.val)) ∧ m[j]? = some e ∧ e.key = x ∧ VR π v e.val := by
  induction h with
  | nil =>
    intro r i hg
    simp only [mget, Option.some.injEq] at hg
    subst hg
    exact .inl ⟨rfl, rfl, by simp⟩
  | cons hk hv ht ih =>
    rename_i k v e l m
    intro r i hg
    simp only [mget] at hg
    split at hg
    · rename_i he
      obtain ⟨h1, h2, _⟩ := keyEq_spec hx he
      simp only [Option.some.injEq] at hg
      subst hg
      rw [← hk] at h1 h2
      exact .inr ⟨0, e, v, rfl, by simp [Instr.findNow, h1], rfl, h2 rfl, hv⟩
    · rename_i he
      obtain ⟨h1, _, h3⟩ := keyEq_spec hx he
      rw [← hk] at h1 h3
      rcases ih r (i + 1) hg with ⟨g1, g2, g3⟩ | ⟨j, e', v', g1, g2, g3, g4, g5⟩
      · exact .inl ⟨g1, by simp [Instr.findNow, h1, g2], fun y hy => by
          rcases List.mem_cons.1 hy with rfl | hy
          · exact h3 rfl
          · exact g3 y hy⟩
      · exact .inr ⟨j + 1, e', v', g1, by simp [Instr.findNow, h1, g2]; omega, by simpa using g3, g4, g5⟩
    · cases hg
theorem mput_sound {d : TypeDesc} {x : Value} (hx : MapKept.IsKey d x) {u u' : Value} (hu : VR π u u') {l : List (Value × Value)} {m : List MapEntry} (h : MR π l m) : ∀ (r : List (Value × Value)) (i : Nat), mput l x u = some r →
    (Instr.findNow d x m i = some none ∧ (∀ e ∈ m, e.key ≠ x) ∧ ∀ c, MR π r (m ++ [⟨x, u', c⟩])) ∨ ∃ j e, Instr.findNow d x m i = some (some (i + j, e.val)) ∧ m[j]? = some e ∧ e.key = x ∧ MR π r (m.modify j fun e => { e with key := x, val := u' }) := by
  induction h with
  | nil =>
    intro r i hg
    simp only [mput, Option.some.injEq] at hg
    subst hg
    exact .inl ⟨rfl, by simp, fun c => .cons rfl hu .nil⟩
  | cons hk hv ht ih =>
    rename_i k v e l m
    intro r i hg
    simp only [mput] at hg
    split at hg
    · rename_i he
      obtain ⟨h1, h2, _⟩ := keyEq_spec hx he
      simp only [Option.some.injEq] at hg
      subst hg
      rw [← hk] at h1 h2
      exact .inr ⟨0, e, by simp [Instr.findNow, h1], rfl, h2 rfl, by simpa using .cons rfl hu ht⟩
    · rename_i he
      obtain ⟨h1, _, h3⟩ := keyEq_spec hx he
      rw [← hk] at h1 h3
      split at hg
      · rename_i r' hr'
        simp only [Option.some.injEq] at hg
        subst hg
        rcases ih r' (i + 1) hr' with ⟨g1, g2, g3⟩ | ⟨j, e', g1, g2, g3, g4⟩
        · exact .inl ⟨by simp [Instr.findNow, h1, g1], fun y hy => by
            rcases List.mem_cons.1 hy with rfl | hy
            · exact h3 rfl
            · exact g2 y hy, fun c => .cons hk hv (g3 c)⟩
        · exact .inr ⟨j + 1, e', by simp [Instr.findNow, h1, g1]; omega, by simpa using g2, g3, by simpa using MR.cons hk hv g4⟩
      · cases hg
    · cases hg
theorem mdel_sound {d : TypeDesc} {x : Value} (hx : MapKept.IsKey d x) {l : List (Value × Value)} {m : List MapEntry} (h : MR π l m) : ∀ (r : List (Value × Value)) (i : Nat), mdel l x = some r →
    (Instr.findNow d x m i = some none ∧ MR π r m) ∨ ∃ j e, Instr.findNow d x m i = some (some (i + j, e.val)) ∧ m[j]? = some e ∧ MR π r (m.eraseIdx j) := by
  induction h with
  | nil =>
    intro r i hg
    simp only [mdel, Option.some.injEq] at hg
    subst hg
    exact .inl ⟨rfl, .nil⟩
  | cons hk hv ht ih =>
    rename_i k v e l m
    intro r i hg
    simp only [mdel] at hg
    split at hg
    · rename_i he
      obtain ⟨h1, _⟩ := keyEq_spec hx he
      simp only [Option.some.injEq] at hg
      subst hg
      rw [← hk] at h1
      exact .inr ⟨0, e, by simp [Instr.findNow, h1], rfl, by simpa using ht⟩
    · rename_i he
      obtain ⟨h1, _⟩ := keyEq_spec hx he
      rw [← hk] at h1
      split at hg
      · rename_i r' hr'
        simp only [Option.some.injEq] at hg
        subst hg
        rcases ih r' (i + 1) hr' with ⟨g1, g2⟩ | ⟨j, e', g1, g2, g3⟩
        · exact .inl ⟨by simp [Instr.findNow, h1, g1], .cons hk hv g2⟩
        · exact .inr ⟨j + 1, e', by simp [Instr.findNow, h1, g1]; omega, by simpa using g2, by simpa using MR.cons hk hv g3⟩
      · cases hg
    · cases hg
theorem map_obj {h : AHeap} {nx : Nat} (hr : HR π N h.get nx w) {id : Nat} {l : List (Value × Value)} (hg : h.get id = some (.map l)) : ∃ L es c, π id = some L ∧ N ≤ L.b ∧ w.heap[L.b]? = some (.map es c) ∧ MapKept.Stamped es c ∧ MR π l es.toList := by
  obtain ⟨L, h1, h0, es, c, h2, h3, h4⟩ := hr.obj id _ hg
  exact ⟨L, es, c, h1, h0, h2, h3, h4⟩
theorem mget_all {x : Value} : ∀ {l : List (Value × Value)}, (∀ p ∈ l, (keyEq x p.1).isSome = true) → mget l x = some ((l.filter fun p => (keyEq x p.1).getD false).head?.map (·.2))
  | [], _ => rfl
  | (k, v) :: r, h => by
    have h0 := h _ (.head _)
    have ih := mget_all (l := r) fun p hp => h p (.tail _ hp)
    cases e : keyEq x k with
    | none => rw [e] at h0; cases h0
    | some b =>
      cases b with
      | true => simp [mget, e]
      | false => simp [mget, e, ih]
theorem perm_small {α : Type} {a b : List α} (h : a.Perm b) (hl : b.length ≤ 1) : a = b := by
  match b, hl with
  | [], _ => exact List.perm_nil.1 h
  | [x], _ => exact List.perm_singleton.1 h
  | _ :: _ :: _, hl => simp at hl
theorem fget_spec {l l' : List (Value × Value)} {x : Value} {r : Option Value} (h : fget l x = some r) (hp : l'.Perm l) : mget l' x = some r := by
  unfold fget at h
  rw [Bool.cond_eq_ite] at h
  split at h
  · rename_i hc
    rw [Bool.and_eq_true, bled, decide_eq_true_eq] at hc
    have hall : ∀ p ∈ l, (keyEq x p.1).isSome = true := fun p hm => List.all_eq_true.1 hc.1 p hm
    rw [mget_all hall] at h
    rw [mget_all fun p hm => hall p (hp.mem_iff.1 hm), perm_small (hp.filter _) hc.2]
    exact h
  · cases h
theorem alookup_sound (ht : TOk P T) {h : AHeap} {nx : Nat} (hr : HR π N h.get nx w) {t : Nat} {m m' x x' v : Value} {ok : Bool} (ha : alookup T h t m x ok = some v) (hm : VR π m m') (hx : VR π x x') : ∃ v', (Instr.lookup t m' x' ok).run P w = .ok v' w ∧ VR π v v' := by
  unfold alookup at ha
  split at ha
  · rename_i kt et _ _ _ hT
    obtain ⟨_, hk, _⟩ := ti_spec (ht.ti _ _ hT)
    have hu := und_map hk
    split at ha
    · rename_i ei hTe
      have hze := run_zero (w := w) (ht.ti _ _ hTe)
      have hzv : VR π ei.zero ei.zero := .of_pv (ht.zero _ _ hTe)
      cases hkey : isKey T kt x with
      | false => rw [hkey, cond_false] at ha; cases ha
      | true =>
        rw [hkey, cond_true] at ha
        obtain ⟨d, hd, hdk, hxx⟩ := isKey_spec ht hkey
        obtain rfl := hxx π x' hx
        have fin : ∀ (r : Option Value) (r' : Value), VR π (r.getD ei.zero) r' → VR π (bif ok then .tuple #[r.getD ei.zero, .bool r.isSome] else r.getD ei.zero) (if ok = true then .tuple #[r', .bool r.isSome] else r') := by
          intro r r' hr'
          cases ok
          · exact hr'
          · exact .tuple (.cons hr' (.cons (.bool _) .nil))
        split at ha
        · rename_i r hr2
          simp only [Option.some.injEq] at ha
          subst ha
          split at hr2
          · cases hm
            simp only [Option.some.injEq] at hr2
            subst hr2
            refine ⟨_, ?_, fin none ei.zero hzv⟩
            simp [Instr.lookup, run_under hu, MapKept.run_checkKey hd hdk, MapKept.run_findKey (l := []) hd (a := none) rfl, hze, Sem.run_pure]
          · rename_i id
            split at hr2
            · rename_i l hg
              obtain ⟨L, es, c, g1, g0, g2, g3, g4⟩ := map_obj hr hg
              cases hm with
              | map hL =>
                rw [hL] at g1; injection g1 with g1; subst g1
                rcases mget_sound hdk g4 r 0 hr2 with ⟨rfl, e2, _⟩ | ⟨j, e, v, rfl, e2, e3, e4, e5⟩
                · refine ⟨_, ?_, fin none ei.zero hzv⟩
                  simp [Instr.lookup, run_under hu, MapKept.run_getObj_map g2, MapKept.run_checkKey hd hdk, MapKept.run_findKey hd e2, hze, Sem.run_pure]
                · refine ⟨_, ?_, fin (some v) e.val e5⟩
                  simp [Instr.lookup, run_under hu, MapKept.run_getObj_map g2, MapKept.run_checkKey hd hdk, MapKept.run_findKey hd e2, Sem.run_pure]
            · rename_i l hg
              obtain ⟨L, g1, g0, l', es, c, gp, g2, g3, g4⟩ := hr.obj id _ hg
              cases hm with
              | map hL =>
                rw [hL] at g1; injection g1 with g1; subst g1
                rcases mget_sound hdk g4 r 0 (fget_spec hr2 gp) with ⟨rfl, e2, _⟩ | ⟨j, e, v, rfl, e2, e3, e4, e5⟩
                · refine ⟨_, ?_, fin none ei.zero hzv⟩
                  simp [Instr.lookup, run_under hu, MapKept.run_getObj_map g2, MapKept.run_checkKey hd hdk, MapKept.run_findKey hd e2, hze, Sem.run_pure]
                · refine ⟨_, ?_, fin (some v) e.val e5⟩
                  simp [Instr.lookup, run_under hu, MapKept.run_getObj_map g2, MapKept.run_checkKey hd hdk, MapKept.run_findKey hd e2, Sem.run_pure]
            · cases hr2
          · cases hr2
        · cases ha
    · cases ha
  · cases ha
/-- a map that is turned -/
theorem map_turn {h : AHeap} (hr : HR π N h.get h.next w) {id : Nat} {l r : List (Value × Value)} {L : Loc} {es es' : Array MapEntry} {c c' : Nat} (hg : h.get id = some (.map l)) (hL : π id = some L) (h0 : N ≤ L.b) (hb : w.heap[L.b]? = some (.map es c)) (hs : MapKept.Stamped es' c') (hm : MR π r es'.toList) (nid : Nat) :
    Stp π N h.get h.next w π (h.set id (.map r)).get (h.set id (.map r)).next { w with heap := w.heap.setIfInBounds L.b (.map es' c') } nid := by
  rw [get_set]
  exact Stp.turn hr hg rfl rfl hL rfl rfl rfl (by simp) (fun b hb2 => (MapKept.heap_set hb).2 b hb2) ⟨h0, es', c', (MapKept.heap_set hb).1, hs, hm⟩
theorem amapUpdate_sound (ht : TOk P T) {h h' : AHeap} (hr : HR π N h.get h.next w) {t : Nat} {m m' x x' u u' : Value} (ha : amapUpdate T h t m x u = some h') (hm : VR π m m') (hx : VR π x x') (hu : VR π u u') (nid : Nat) :
    ∃ w', (Instr.mapUpdate t m' x' u').run P w = .ok () w' ∧ Stp π N h.get h.next w π h'.get h'.next w' nid := by
  unfold amapUpdate at ha
  split at ha
  · rename_i kt _ _ _ _ id hT
    obtain ⟨_, hk, _⟩ := ti_spec (ht.ti _ _ hT)
    have hum := und_map hk
    cases hkey : isKey T kt x with
    | false => rw [hkey, cond_false] at ha; cases ha
    | true =>
      rw [hkey, cond_true] at ha
      obtain ⟨d, hd, hdk, hxx⟩ := isKey_spec ht hkey
      obtain rfl := hxx π x' hx
      split at ha
      · rename_i l hg
        split at ha
        · rename_i r hput
          simp only [Option.some.injEq] at ha
          subst ha
          obtain ⟨L, es, c, g1, g0, g2, g3, g4⟩ := map_obj hr hg
          cases hm with
          | map hL =>
            rw [hL] at g1; injection g1 with g1; subst g1
            rcases mput_sound hdk hu g4 r 0 hput with ⟨e1, e2, e3⟩ | ⟨j, e, e1, e2, e3, e4⟩
            · have hs := MapKept.stamped_push (val := u') g3 e2
              refine ⟨_, ?_, map_turn hr hg hL g0 g2 hs (by rw [Array.toList_push]; exact e3 c) nid⟩
              simp [Instr.mapUpdate, run_under hum, MapKept.run_getObj_map g2, MapKept.run_checkKey hd hdk, MapKept.run_findKey hd e1, MapKept.run_setObj_map _ g2]
            · have hj : es[j]? = some e := by simpa using e2
              have hs : MapKept.Stamped (es.modify j fun e => { e with key := x', val := u' }) c := MapKept.stamped_modify g3 _ _ (fun _ _ => rfl) (fun e' _ he' => by rw [hj] at he'; cases he'; exact e3.symm)
              refine ⟨_, ?_, map_turn hr hg hL g0 g2 hs (by rw [Array.toList_modify]; exact e4) nid⟩
              simp [Instr.mapUpdate, run_under hum, MapKept.run_getObj_map g2, MapKept.run_checkKey hd hdk, MapKept.run_findKey hd e1, hj, e3, MapKept.run_keyThatStays hdk, MapKept.run_setObj_map _ g2]
        · cases ha
      · cases ha
  · cases ha
theorem adelete_sound (ht : TOk P T) {h h' : AHeap} (hr : HR π N h.get h.next w) {t ty : Nat} {ts : Array Nat} (hts : ts[0]? = some t) {m m' x x' : Value} (ha : adelete T h t m x = some h') (hm : VR π m m') (hx : VR π x x') (nid : Nat) :
    ∃ w', (Builtin.delete_ ts ty #[m', x']).run P w = .ok (.tuple #[]) w' ∧ Stp π N h.get h.next w π h'.get h'.next w' nid := by
  have h0 : (#[m', x'] : Array Value)[0]? = some m' := rfl
  have h1 : (#[m', x'] : Array Value)[1]? = some x' := rfl
  unfold adelete at ha
  split at ha
  · rename_i kt _ _ _ _ hT
    obtain ⟨_, hk, _⟩ := ti_spec (ht.ti _ _ hT)
    have hum := und_map hk
    cases hkey : isKey T kt x with
    | false => rw [hkey, cond_false] at ha; cases ha
    | true =>
      rw [hkey, cond_true] at ha
      obtain ⟨d, hd, hdk, hxx⟩ := isKey_spec ht hkey
      obtain rfl := hxx π x' hx
      simp only [Option.some.injEq] at ha
      subst ha
      cases hm
      refine ⟨w, ?_, Stp.refl hr nid⟩
      simp [Builtin.delete_, hts, run_under hum, MapKept.run_checkKey hd hdk, Sem.run_pure]
  · rename_i kt _ _ _ _ id hT
    obtain ⟨_, hk, _⟩ := ti_spec (ht.ti _ _ hT)
    have hum := und_map hk
    cases hkey : isKey T kt x with
    | false => rw [hkey, cond_false] at ha; cases ha
    | true =>
      rw [hkey, cond_true] at ha
      obtain ⟨d, hd, hdk, hxx⟩ := isKey_spec ht hkey
      obtain rfl := hxx π x' hx
      split at ha
      · rename_i l hg
        split at ha
        · rename_i r hput
          simp only [Option.some.injEq] at ha
          subst ha
          obtain ⟨L, es, c, g1, g0, g2, g3, g4⟩ := map_obj hr hg
          cases hm with
          | map hL =>
            rw [hL] at g1; injection g1 with g1; subst g1
            rcases mdel_sound hdk g4 r 0 hput with ⟨e1, e2⟩ | ⟨j, e, e1, e2, e3⟩
            · refine ⟨_, ?_, map_turn hr hg hL g0 g2 g3 e2 nid⟩
              simp [Builtin.delete_, hts, run_under hum, MapKept.run_getObj_map g2, MapKept.run_checkKey hd hdk, MapKept.run_findKey hd e1, MapKept.run_setObj_map _ g2, Sem.run_pure]
            · have hs := MapKept.stamped_erase g3 j
              have hjl : j < es.size := by have := (List.getElem?_eq_some_iff.1 e2).1; simpa using this
              refine ⟨_, ?_, map_turn hr hg hL g0 g2 hs (by rw [Array.eraseIdxIfInBounds, dif_pos hjl, Array.toList_eraseIdx]; exact e3) nid⟩
              simp [Builtin.delete_, hts, run_under hum, MapKept.run_getObj_map g2, MapKept.run_checkKey hd hdk, MapKept.run_findKey hd e1, MapKept.run_setObj_map _ g2, Sem.run_pure]
        · cases ha
      · cases ha
  · cases ha
end
end Go.Proofs.Yteffhomollmpdaa.AM

/- Conversions, copies, lengths, least and greatest, new rows. -/
namespace Go.Proofs.Yteffhomollmpdaa.AM
open Go
variable [Tok]
set_option linter.unusedVariables false
set_option linter.unusedSectionVars false
set_option linter.unusedSimpArgs false
section
variable {P : Program} {T : Tr TI} {w : World} {π : Pi} {N : Nat}
theorem bytesOf_spec : ∀ {r : List Value} {l : List UInt8}, bytesOfCells r = some l → ∃ ns : List Int, r = ns.map (Value.int .u8) ∧ l = ns.map fun n => UInt8.ofNat n.toNat
  | [], l, h => by simp [bytesOfCells] at h; subst h; exact ⟨[], rfl, rfl⟩
  | v :: r, l, h => by
    unfold bytesOfCells at h
    split at h
    · rename_i e; cases e
    · rename_i n r' e
      injection e with e1 e2; subst e1; subst e2
      split at h
      · rename_i l' h'
        simp only [Option.some.injEq] at h
        subst h
        obtain ⟨ns, e1, e2⟩ := bytesOf_spec h'
        exact ⟨n :: ns, by simp [e1], by simp [e2]⟩
      · cases h
    · cases h
theorem VRs.ints {ns : List Int} {k : IntKind} : ∀ {m : List Value}, VRs π (ns.map (Value.int k)) m → m = ns.map (Value.int k) := by
  induction ns with
  | nil => intro m h; cases h; rfl
  | cons n ns ih =>
    intro m h
    simp only [List.map_cons] at h
    cases h with
    | cons h t =>
      cases h
      rw [ih t]; rfl
theorem push_fold (ns : List Int) : ∀ acc : ByteArray, ns.foldl (fun r n => r.push (UInt8.ofNat n.toNat)) acc = ⟨⟨bl acc ++ ns.map fun n => UInt8.ofNat n.toNat⟩⟩ := by
  induction ns with
  | nil => intro acc; simp; exact (lb_bl acc).symm
  | cons n ns ih =>
    intro acc
    rw [List.foldl_cons, ih]
    have : bl (acc.push (UInt8.ofNat n.toNat)) = bl acc ++ [UInt8.ofNat n.toNat] := by
      rcases acc with ⟨⟨l⟩⟩; simp [bl, ByteArray.push]
    rw [this]; simp
theorem aconv_sound (ht : TOk P T) {h h' : AHeap} (hr : HR π N h.get h.next w) {nid src dst : Nat} (hnid : π nid = none) {x x' v : Value} (ha : aconv T h nid src dst x = some (v, h')) (hx : VR π x x') :
    ∃ π' v' w', (convert src dst x').run P w = .ok v' w' ∧ VR π' v v' ∧ Stp π N h.get h.next w π' h'.get h'.next w' nid := by
  unfold aconv at ha
  split at ha
  · rename_i i k _ _ _ j n hS hD
    cases hx
    obtain ⟨_, hk, _⟩ := ti_spec (ht.ti _ _ hD)
    obtain ⟨_, _, d, hsd⟩ := ti_spec (ht.ti _ _ hS)
    simp only [Option.some.injEq, Prod.mk.injEq] at ha
    obtain ⟨rfl, rfl⟩ := ha
    refine ⟨π, .int k (k.wrap n), w, ?_, .int _ _, Stp.refl hr nid⟩
    simp only [convert, Sem.run_bind, run_under hsd, run_under (und_int hk), Result.andThen]
    cases d <;> simp [Conv.intToInt, Sem.run_pure]
  · rename_i i _ _ _ s hS hD
    cases hx
    obtain ⟨_, hk, _⟩ := ti_spec (ht.ti _ _ hD)
    obtain ⟨_, _, d, hsd⟩ := ti_spec (ht.ti _ _ hS)
    simp only [Option.some.injEq, Prod.mk.injEq] at ha
    obtain ⟨rfl, rfl⟩ := ha
    refine ⟨π, .string s, w, ?_, .string _, Stp.refl hr nid⟩
    simp only [convert, Sem.run_bind, run_under hsd, run_under (und_string hk), Result.andThen]
    cases d <;> simp [Sem.run_pure]
  · rename_i i e _ _ _ s hS hD
    cases hx
    obtain ⟨_, hk, _⟩ := ti_spec (ht.ti _ _ hD)
    obtain ⟨_, _, d, hsd⟩ := ti_spec (ht.ti _ _ hS)
    have hud := und_slice hk
    split at ha
    · rename_i z hE
      obtain ⟨_, hke, _⟩ := ti_spec (ht.ti _ _ hE)
      have hue := und_int hke
      simp only [Option.some.injEq, Prod.mk.injEq] at ha
      obtain ⟨rfl, rfl⟩ := ha
      have hrun := Lib.run_convert_string_bytes w src dst e s hsd hud hue
      have hcap : s.size ≤ grownCap w s.size 0 e := by simp [grownCap, Question.cut]
      have hsz : (Lib.bytesCells w e s).size = grownCap w s.size 0 e := by
        simp [Lib.bytesCells]
        have : s.data.size = s.size := rfl
        omega
      refine ⟨π.put nid ⟨w.heap.size, 0, grownCap w s.size 0 e⟩, _, _, hrun, ?_, ?_⟩
      · rw [bl_size]
        exact vr_grown π (sz := 1) (by omega) (by omega) hcap
      · rw [get_new, next_new]
        refine Stp.alloc hr hnid rfl rfl rfl rfl (by rw [Lib.bytesWorld_size]; omega) (fun b hb => Lib.bytesWorld_at_old w e s b hb) ⟨hr.base.le, _, e, _, Lib.bytesWorld_at_new w e s, hsz, (fun e => by cases e), (fun j hj => by simp only; omega), ?_⟩
        intro j v hj
        have hjs : j < s.size := by
          have := (List.getElem?_eq_some_iff.1 hj).1
          rw [List.length_map, bl_size] at this; exact this
        refine ⟨v, ?_, ?_⟩
        · have := Lib.bytesWorld_cell w e s j hjs
          rw [cell_row (Lib.bytesWorld_at_new w e s)] at this
          rw [Nat.zero_add, this]
          rw [List.getElem?_map] at hj
          obtain ⟨b, hb1, hb2⟩ := Option.map_eq_some_iff.1 hj
          rw [← hb2]
          have hb3 : s.data.toList.getD j 0 = b := by
            rw [List.getD_eq_getElem?_getD]
            have : s.data.toList[j]? = some b := hb1
            rw [this]; rfl
          rw [hb3]; rfl
        · rw [List.getElem?_map] at hj
          obtain ⟨b, hb1, hb2⟩ := Option.map_eq_some_iff.1 hj
          rw [← hb2]; exact .int _ _
    · cases ha
  · rename_i e _ _ _ _ _ _ hS hD
    cases hx
    obtain ⟨_, hk, _⟩ := ti_spec (ht.ti _ _ hD)
    obtain ⟨_, hks, _⟩ := ti_spec (ht.ti _ _ hS)
    have hus := und_slice hks
    have hud := und_string hk
    split at ha
    · rename_i hE
      obtain ⟨_, hke, _⟩ := ti_spec (ht.ti _ _ hE)
      have hue := und_int hke
      simp only [Option.some.injEq, Prod.mk.injEq] at ha
      obtain ⟨rfl, rfl⟩ := ha
      refine ⟨π, .string .empty, w, ?_, .string _, Stp.refl hr nid⟩
      simp [convert, run_under hus, run_under hud, run_under hue, Conv.bytesToString, Sem.run_pure]
    · cases ha
  · rename_i e _ _ _ _ _ _ id o len cap hS hD
    obtain ⟨_, hk, _⟩ := ti_spec (ht.ti _ _ hD)
    obtain ⟨_, hks, _⟩ := ti_spec (ht.ti _ _ hS)
    have hus := und_slice hks
    have hud := und_string hk
    split at ha
    · rename_i cs hE hcs
      obtain ⟨_, hke, _⟩ := ti_spec (ht.ti _ _ hE)
      have hue := und_int hke
      split at ha
      · rename_i r hc
        split at ha
        · rename_i l hb
          simp only [Option.some.injEq, Prod.mk.injEq] at ha
          obtain ⟨rfl, rfl⟩ := ha
          obtain ⟨ns, e1, e2⟩ := bytesOf_spec hb
          obtain ⟨us, q1, q2, q3⟩ := first_slice (P := P) (sz := 1) hr hcs (by rw [Nat.mul_one]; exact hc) hx
          obtain ⟨a', cap', rfl⟩ := hx.inv_slice
          rw [e1] at q1
          have hus2 := q1.ints
          have q3' := q3 w rfl
          simp only [Builtin.firstCells, Nat.mul_one] at q3'
          have hload : (loadCells a' len).run P w = .ok (ns.map (Value.int .u8)).toArray w := by
            rw [q3']; congr 1; apply Array.ext'; simpa using hus2
          refine ⟨π, .string (lb l), w, ?_, .string _, Stp.refl hr nid⟩
          have hb2 := run_bytesToString (P := P) w a' len cap' ns hload
          rw [push_fold] at hb2
          have e3 : (⟨⟨bl ByteArray.empty ++ ns.map fun n => UInt8.ofNat n.toNat⟩⟩ : ByteArray) = lb l := by rw [e2]; rfl
          rw [e3] at hb2
          simp [convert, run_under hus, run_under hud, run_under hue, hb2]
        · cases ha
      · cases ha
    · cases ha
  · rename_i e0 _ _ _ e _ _ _ id o len cap hS hD
    rw [Bool.cond_eq_ite] at ha
    split at ha
    · rename_i hcc
      simp only [Bool.and_eq_true, beqd, bltd, decide_eq_true_eq] at hcc
      obtain ⟨rfl, hlen⟩ := hcc
      split at ha
      · rename_i cs hE hcs
        simp only [Option.some.injEq, Prod.mk.injEq] at ha
        obtain ⟨rfl, rfl⟩ := ha
        obtain ⟨_, hk, _⟩ := ti_spec (ht.ti _ _ hD)
        obtain ⟨_, hke, _⟩ := ti_spec (ht.ti _ _ hE)
        have hud := und_slice hk
        have hue := und_int hke
        cases hx with
        | sliceE _ => omega
        | slice hL hc =>
          rename_i cap' L
          obtain ⟨M, hM, hO⟩ := hr.obj id _ hcs
          rw [hL] at hM; injection hM with hM; subst hM
          obtain ⟨h0, ds, ty, fr, h1, h2, h3, h4, h5⟩ := hO
          obtain rfl := h3 rfl
          have hlt : L.b < w.heap.size := (Array.getElem?_eq_some_iff.1 h1).1
          have hsh : w.shape? L.b = some (ty, ds.size) := by
            unfold World.shape?
            rw [h1]
          have hat : (w.freeze ⟨L.b, ds.size, none⟩ 1).heap[L.b]? = some (.cells ds ty (ds.size, ds.size + 1)) := by
            unfold World.freeze
            rw [if_neg (by decide)]
            simp [Array.getElem?_modify, h1]
          refine ⟨π, .slice (some ⟨L.b, L.d + o, none⟩) len cap', w.freeze ⟨L.b, ds.size, none⟩ 1, ?_, .slice hL hc, ?_⟩
          · simp [convert, run_under hud, run_under hue, markStringish, hsh]
          · rw [get_set]
            refine Stp.turn hr hcs rfl rfl hL ?_ ?_ ?_ ?_ ?_ ⟨h0, ds, ty, _, hat, h2, (fun e => by cases e), (fun j hj => by simp only; omega), h5⟩
            · unfold World.freeze; rw [if_neg (by decide)]
            · unfold World.freeze; rw [if_neg (by decide)]
            · unfold World.freeze; rw [if_neg (by decide)]
            · unfold World.freeze; rw [if_neg (by decide)]; simp
            · intro b hb
              unfold World.freeze; rw [if_neg (by decide)]
              simp only [Array.getElem?_modify]
              rw [if_neg (fun e => hb e.symm)]
      · cases ha
    · cases ha
  · cases ha
theorem VR.shrink {x x' : Value} (h : VR π x x') {k n : Nat} (hl : lenOf? x = some n) (hk : k ≤ n) : VR π (shrink x k) (shrink x' k) := by
  cases h <;> first
    | (simp [lenOf?] at hl; done)
    | exact .string _
    | exact .slice0 _ _
    | (simp only [lenOf?, Option.some.injEq] at hl
       rename_i hL hc
       exact .slice hL (hc.imp (fun ⟨e1, e2, e3⟩ => ⟨e1, e2, by omega⟩) (fun ⟨q, e1, e2, e3, e4⟩ => ⟨q, e1, e2, e3, by omega⟩)))
    | (simp only [lenOf?, Option.some.injEq] at hl
       have : k = 0 := by omega
       subst this
       rename_i hc
       exact .sliceE hc)
theorem first_shrink {x : Value} {sz k n : Nat} (hl : lenOf? x = some n) (hk : k ≤ n) : Builtin.firstCells sz k (shrink x k) = Builtin.firstCells sz k x := by
  cases x <;> first
    | (simp [lenOf?] at hl; done)
    | (rename_i a b c; cases a <;> rfl)
    | (rename_i s
       simp only [shrink, Builtin.firstCells]
       congr 2
       have h1 : lb ((bl s).take k) = s.extract 0 k := by have := bl_extract s 0 k; simpa using this
       rw [h1, ByteArray.extract_extract]
       simp)
theorem lenOf_run {x x' : Value} (h : VR π x x') {n : Nat} (hl : lenOf? x = some n) : (Builtin.lenOf x').run P w = .ok n w ∧ lenOf? x' = some n := by
  cases h <;> simp [lenOf?] at hl <;> subst hl <;> simp [Builtin.lenOf, lenOf?, Sem.run_pure, bl_size]
theorem acopy_sound (ht : TOk P T) {h h' : AHeap} (hr : HR π N h.get h.next w) {nid ty : Nat} {ts : Array Nat} {d d' x x' v : Value} (ha : acopy T h ts.toList d x = some (v, h')) (hd : VR π d d') (hx : VR π x x') :
    ∃ v' w', (Builtin.copy_ ts ty #[d', x']).run P w = .ok v' w' ∧ VR π v v' ∧ Stp π N h.get h.next w π h'.get h'.next w' nid := by
  unfold acopy at ha
  split at ha
  · rename_i dt rest id o dlen dcap hts
    have h0 : ts[0]? = some dt := by rw [← Array.getElem?_toList, hts]; rfl
    have h1 : (#[d', x'] : Array Value)[0]? = some d' := rfl
    have h2 : (#[d', x'] : Array Value)[1]? = some x' := rfl
    split at ha
    · rename_i e _ _ _ hT
      obtain ⟨_, hk, _⟩ := ti_spec (ht.ti _ _ hT)
      have hu := und_slice hk
      split at ha
      · rename_i ei hTe
        split at ha
        · rename_i n hln
          split at ha
          · rename_i k news hsrc
            split at ha
            · rename_i h2' hput
              simp only [Option.some.injEq, Prod.mk.injEq] at ha
              obtain ⟨rfl, rfl⟩ := ha
              have hmin : Nat.min n dlen ≤ n := Nat.min_le_left _ _
              obtain ⟨hlen, us, hus, husz, hf⟩ := srcCells_sound (P := P) hr hsrc (hx.shrink hln hmin)
              obtain ⟨g1, g2⟩ := lenOf_run (P := P) (w := w) hx hln
              have hkk : k = Nat.min n dlen := by
                have := (lenOf_run (P := P) (w := w) (hx.shrink hln hmin) (n := Nat.min n dlen) (by cases x <;> simp_all [lenOf?, shrink, bl_lb])).1
                rw [hlen] at this; injection this
              subst hkk
              have hf1 := hf w rfl
              rw [first_shrink g2 hmin] at hf1
              obtain ⟨L, w', q1, q2, q3⟩ := aput_sound (P := P) hr hput hus nid
              obtain ⟨a', cap', rfl⟩ := hd.inv_slice
              have hst : (storeCells a' us.toList).run P w = .ok () w' := by
                cases hd with
                | slice hL hc =>
                  rw [hL] at q1; injection q1 with q1; subst q1
                  exact q2
                | sliceE hc =>
                  have : us.toList = [] := by
                    have : us.toList.length = 0 := by rw [Array.length_toList, husz]; simp
                    exact List.length_eq_zero_iff.1 this
                  rw [this] at q2 ⊢
                  exact q2
              refine ⟨_, w', ?_, .int _ _, q3⟩
              unfold Builtin.copy_
              simp only [h0, h1, h2, Sem.run_bind, run_under hu, Result.andThen, g1, run_size (ht.ti _ _ hTe), hf1, hst, Sem.run_pure, goInt]
            · cases ha
          · cases ha
        · cases ha
      · cases ha
    · cases ha
  · cases ha
end
end Go.Proofs.Yteffhomollmpdaa.AM

/- Each operation of the machine is the program's. -/
namespace Go.Proofs.Yteffhomollmpdaa.AM
open Go
variable [Tok]
set_option linter.unusedVariables false
set_option linter.unusedSectionVars false
set_option linter.unusedSimpArgs false
section
variable {P : Program} {T : Tr TI} {w : World} {π : Pi} {N : Nat}
theorem alen_sound (ht : TOk P T) {h : AHeap} {nx : Nat} (hr : HR π N h.get nx w) {t ty : Nat} {ts : Array Nat} (hts : ts[0]? = some t) {x x' v : Value} (ha : alen T h t x = some v) (hx : VR π x x') :
    ∃ v', (Builtin.len_ ts ty #[x']).run P w = .ok v' w ∧ VR π v v' := by
  unfold alen at ha
  split at ha
  · rename_i s hT
    obtain ⟨_, hk, _⟩ := ti_spec (ht.ti _ _ hT)
    cases hx
    simp only [Option.some.injEq] at ha; subst ha
    exact ⟨.int .i64 (s.size : Int), by simp [Builtin.len_, hts, run_under (und_string hk), goInt, Sem.run_pure], by rw [bl_size]; exact .int _ _⟩
  · rename_i hT
    obtain ⟨_, hk, _⟩ := ti_spec (ht.ti _ _ hT)
    simp only [Option.some.injEq] at ha; subst ha
    cases hx <;> exact ⟨_, by simp [Builtin.len_, hts, run_under (und_slice hk), goInt, Sem.run_pure], .int _ _⟩
  · rename_i n e _ _ _ hT
    obtain ⟨_, hk, _⟩ := ti_spec (ht.ti _ _ hT)
    simp only [Option.some.injEq] at ha; subst ha
    exact ⟨.int .i64 n, by simp [Builtin.len_, hts, run_under (und_array hk), goInt, Sem.run_pure], .int _ _⟩
  · rename_i hT
    obtain ⟨_, hk, _⟩ := ti_spec (ht.ti _ _ hT)
    cases hx
    simp only [Option.some.injEq] at ha; subst ha
    exact ⟨_, by simp [Builtin.len_, hts, run_under (und_map hk), goInt, Sem.run_pure], .int _ _⟩
  · rename_i id hT
    obtain ⟨_, hk, _⟩ := ti_spec (ht.ti _ _ hT)
    split at ha
    · rename_i l hg
      obtain ⟨L, es, c, g1, g0, g2, g3, g4⟩ := map_obj hr hg
      cases hx with
      | map hL =>
        rw [hL] at g1; injection g1 with g1; subst g1
        simp only [Option.some.injEq] at ha; subst ha
        have hl := g4.length
        refine ⟨.int .i64 (es.size : Int), by simp [Builtin.len_, hts, run_under (und_map hk), MapKept.run_getObj_map g2, goInt, Sem.run_pure], ?_⟩
        rw [hl]; simp only [Array.length_toList]; exact .int _ _
    · cases ha
  · cases ha
theorem aclear_sound (ht : TOk P T) {h h' : AHeap} (hr : HR π N h.get h.next w) {nid t ty : Nat} {ts : Array Nat} (hts : ts[0]? = some t) {d : TypeDesc} (hd : P.underlying t = some d) {x x' : Value} (ha : aclear T h t x = some h') (hx : VR π x x') :
    ∃ w', (Builtin.clear_ ts ty #[x']).run P w = .ok (.tuple #[]) w' ∧ Stp π N h.get h.next w π h'.get h'.next w' nid := by
  unfold aclear at ha
  split at ha
  · cases hx
    simp only [Option.some.injEq] at ha; subst ha
    exact ⟨w, by simp [Builtin.clear_, hts, run_under hd, Sem.run_pure], Stp.refl hr nid⟩
  · cases hx
    simp only [Option.some.injEq] at ha; subst ha
    exact ⟨w, by simp [Builtin.clear_, hts, run_under hd, Sem.run_pure], Stp.refl hr nid⟩
  · simp only [Option.some.injEq] at ha; subst ha
    cases hx <;> exact ⟨w, by simp [Builtin.clear_, hts, run_under hd, Sem.run_pure], Stp.refl hr nid⟩
  · rename_i id
    split at ha
    · rename_i l hg
      obtain ⟨L, es, c, g1, g0, g2, g3, g4⟩ := map_obj hr hg
      cases hx with
      | map hL =>
        rw [hL] at g1; injection g1 with g1; subst g1
        simp only [Option.some.injEq] at ha; subst ha
        exact ⟨_, by simp [Builtin.clear_, hts, run_under hd, MapKept.run_getObj_map g2, MapKept.run_setObj_map _ g2, Sem.run_pure], map_turn hr hg hL g0 g2 (MapKept.stamped_empty c) .nil nid⟩
    · cases ha
  · rename_i id o n cap hn
    split at ha
    · rename_i e _ _ _ hT
      obtain ⟨_, hk, _⟩ := ti_spec (ht.ti _ _ hT)
      have hu := und_slice hk
      split at ha
      · rename_i ei hTe
        have hze := run_zero (w := w) (ht.ti _ _ hTe)
        have hzv := VRs.reps (VR.cells (VR.of_pv (π := π) (ht.zero _ _ hTe))) n
        obtain ⟨L, w', q1, q2, q3⟩ := aput_sound (P := P) hr ha hzv nid
        have hz2 : (Builtin.zeroCells ei.zero.cells n).toList = reps ei.zero.cells.toList n := reps_array _ _
        cases hx with
        | slice hL hc =>
          rw [hL] at q1; injection q1 with q1; subst q1
          refine ⟨w', ?_, q3⟩
          have hn0 : n ≠ 0 := fun e => hn e
          obtain ⟨m, rfl⟩ : ∃ m, n = m + 1 := ⟨n - 1, by omega⟩
          simp [Builtin.clear_, hts, run_under hu, hze, hz2, q2, Sem.run_pure]
        | sliceE hc => exact absurd rfl hn
      · cases ha
    · cases ha
  · cases ha
theorem aminmax_sound {mx : Bool} : ∀ {r r' : List Value} {k : IntKind} {x : Int} {v : Value}, aminmax mx x k r = some v → VRs π r r' → (r'.foldlM (if mx then Builtin.max2 else Builtin.min2) (.int k x)).run P w = .ok v w ∧ VR π v v
  | [], _, k, x, v, h, .nil => by
    simp only [aminmax, Option.some.injEq] at h
    subst h
    exact ⟨by simp [Sem.run_pure], .int _ _⟩
  | y :: r, _, k, x, v, h, .cons hv ht => by
    unfold aminmax at h
    split at h
    · rename_i e; cases e
    · rename_i j y' r' e
      injection e with e1 e2; subst e1; subst e2
      cases hv
      have ih := aminmax_sound h ht
      cases mx
      · simp only [Bool.false_eq_true, if_false, cond_false, List.foldlM_cons, Sem.run_bind] at ih ⊢
        simp only [Builtin.min2, Sem.run_pure, Result.andThen]
        exact ih
      · simp only [if_true, cond_true, List.foldlM_cons, Sem.run_bind] at ih ⊢
        simp only [Builtin.max2, Sem.run_pure, Result.andThen]
        exact ih
    · cases h
/-- what an operation of the machine says of the program's -/
def OpOk (P : Program) (π : Pi) (N : Nat) (h : AHeap) (w : World) (nid : Nat) (s : Sem Next) (v : Value) (h' : AHeap) : Prop :=
  ∃ π' v' w', (s.run P w = .ok (.value v') w' ∨ (s.run P w = .ok .skip w' ∧ v' = undef)) ∧ VR π' v v' ∧ Stp π N h.get h.next w π' h'.get h'.next w' nid
theorem OpOk.plain {h : AHeap} (hr : HR π N h.get h.next w) {nid : Nat} {s : Sem Next} {v v' : Value} (hs : s.run P w = .ok (.value v') w) (hv : VR π v v') : OpOk P π N h w nid s v h :=
  ⟨π, v', w, .inl hs, hv, Stp.refl hr nid⟩
theorem abuiltin_sound (ht : TOk P T) {h h' : AHeap} (hr : HR π N h.get h.next w) {nid ty : Nat} (hnid : π nid = none) {b : Builtin} {ts : Array Nat} {args : List Value} {args' : Array Value} {cs : Array Bool} {v : Value}
    (ha : abuiltin T h nid b ts.toList args = some (v, h')) (hx : VRs π args args'.toList) : OpOk P π N h w nid (builtin b ts ty cs args') v h' := by
  have h2 : ∀ {x y : Value}, VRs π args args'.toList → args = [x, y] → ∃ x' y', args' = #[x', y'] ∧ VR π x x' ∧ VR π y y' := by
    intro x y hv e
    subst e
    rcases args' with ⟨l⟩
    cases hv with | cons a t => cases t with | cons b t => cases t; exact ⟨_, _, rfl, a, b⟩
  have h1 : ∀ {x : Value}, VRs π args args'.toList → args = [x] → ∃ x', args' = #[x'] ∧ VR π x x' := by
    intro x hv e
    subst e
    rcases args' with ⟨l⟩
    cases hv with | cons a t => cases t; exact ⟨_, rfl, a⟩
  unfold abuiltin at ha
  split at ha
  · obtain ⟨x', rfl, hxx⟩ := h1 hx rfl
    split at ha
    · rename_i t _ hts
      have hts0 : ts[0]? = some t := by rw [← Array.getElem?_toList, hts]; rfl
      split at ha
      · rename_i u hu
        simp only [Option.some.injEq, Prod.mk.injEq] at ha
        obtain ⟨rfl, rfl⟩ := ha
        obtain ⟨v', e1, e2⟩ := alen_sound (P := P) ht hr hts0 (ty := ty) hu hxx
        exact .plain hr (by simp [builtin, e1]) e2
      · cases ha
    · cases ha
  · obtain ⟨s', x', rfl, hss, hxx⟩ := h2 hx rfl
    obtain ⟨π', v', w', e1, e2, e3⟩ := aappend_sound (P := P) (ty := ty) ht hr hnid rfl ha hss hxx
    exact ⟨π', v', w', .inl (by simp [builtin, e1]), e2, e3⟩
  · obtain ⟨s', x', rfl, hss, hxx⟩ := h2 hx rfl
    obtain ⟨v', w', e1, e2, e3⟩ := acopy_sound (P := P) (ty := ty) (nid := nid) ht hr ha hss hxx
    exact ⟨π, v', w', .inl (by simp [builtin, e1]), e2, e3⟩
  · obtain ⟨s', x', rfl, hss, hxx⟩ := h2 hx rfl
    split at ha
    · rename_i t _ hts
      have hts0 : ts[0]? = some t := by rw [← Array.getElem?_toList, hts]; rfl
      split at ha
      · rename_i h2' hd
        simp only [Option.some.injEq, Prod.mk.injEq] at ha
        obtain ⟨rfl, rfl⟩ := ha
        obtain ⟨w', e1, e3⟩ := adelete_sound (P := P) (ty := ty) ht hr hts0 hd hss hxx nid
        exact ⟨π, _, w', .inl (by simp [builtin, e1]), .tuple .nil, e3⟩
      · cases ha
    · cases ha
  · obtain ⟨x', rfl, hxx⟩ := h1 hx rfl
    split at ha
    · rename_i t _ hts
      have hts0 : ts[0]? = some t := by rw [← Array.getElem?_toList, hts]; rfl
      split at ha
      · rename_i i h2' hTt hd
        simp only [Option.some.injEq, Prod.mk.injEq] at ha
        obtain ⟨rfl, rfl⟩ := ha
        obtain ⟨_, _, d, hdd⟩ := ti_spec (ht.ti _ _ hTt)
        obtain ⟨w', e1, e3⟩ := aclear_sound (P := P) (ty := ty) (nid := nid) ht hr hts0 hdd hd hxx
        exact ⟨π, _, w', .inl (by simp [builtin, e1]), .tuple .nil, e3⟩
      · cases ha
    · cases ha
  · rename_i k x r
    split at ha
    · rename_i u hu
      simp only [Option.some.injEq, Prod.mk.injEq] at ha
      obtain ⟨rfl, rfl⟩ := ha
      rcases args' with ⟨l⟩
      cases hx with
      | cons a t =>
        cases a
        obtain ⟨e1, e2⟩ := aminmax_sound (P := P) (w := w) hu t
        exact .plain hr (by simp only [builtin, Builtin.min_, Sem.run_bind]; simp only [Bool.false_eq_true, if_false] at e1; rw [e1]; rfl) e2
    · cases ha
  · rename_i k x r
    split at ha
    · rename_i u hu
      simp only [Option.some.injEq, Prod.mk.injEq] at ha
      obtain ⟨rfl, rfl⟩ := ha
      rcases args' with ⟨l⟩
      cases hx with
      | cons a t =>
        cases a
        obtain ⟨e1, e2⟩ := aminmax_sound (P := P) (w := w) hu t
        exact .plain hr (by simp only [builtin, Builtin.max_, Sem.run_bind]; simp only [if_true] at e1; rw [e1]; rfl) e2
    · cases ha
  · cases ha
end
end Go.Proofs.Yteffhomollmpdaa.AM

/- All operations at once. -/
namespace Go.Proofs.Yteffhomollmpdaa.AM
open Go
variable [Tok]
set_option linter.unusedVariables false
set_option linter.unusedSectionVars false
set_option linter.unusedSimpArgs false
section
variable {P : Program} {T : Tr TI} {w : World} {π : Pi} {N : Nat}
theorem VR.bool_inv {b : Bool} {u : Value} (h : VR π (.bool b) u) : u = .bool b := by cases h; rfl
theorem VRs.mapρ {α : Type} {f g : α → Value} : ∀ {l : List α}, (∀ x ∈ l, VR π (f x) (g x)) → VRs π (l.map f) (l.map g)
  | [], _ => .nil
  | x :: l, h => .cons (h x (.head _)) (VRs.mapρ fun y hy => h y (.tail _ hy))
theorem PRs.mapρ {ρ ρ' : Operand → Value} : ∀ {l : List (Nat × Operand)}, (∀ p ∈ l, VR π (ρ p.2) (ρ' p.2)) → PRs π (l.map fun p => (p.1, ρ p.2)) (l.map fun p => (p.1, ρ' p.2))
  | [], _ => .nil
  | x :: l, h => .cons (h x (.head _)) (PRs.mapρ fun y hy => h y (.tail _ hy))
theorem ovr_map {ρ ρ' : Operand → Value} {o : Option Operand} (h : ∀ x, o = some x → VR π (ρ x) (ρ' x)) : OVR π (o.map ρ) (o.map ρ') := by
  cases o with
  | none => exact .none
  | some x => exact .some (h x rfl)
theorem aneu_sound {h h' : AHeap} (hr : HR π N h.get h.next w) {nid : Nat} (hnid : π nid = none) {x x' v : Value} (ha : aneu h nid x = some (v, h')) (hx : VR π x x') (e : Nat) :
    ∃ π' v' w', (newVar e x').run P w = .ok ⟨w.heap.size, 0, none⟩ w' ∧ v' = .pointer (some ⟨w.heap.size, 0, none⟩) ∧ VR π' v v' ∧ Stp π N h.get h.next w π' h'.get h'.next w' nid := by
  unfold aneu at ha
  cases ho : ones x.cells.toList with
  | false => rw [ho, cond_false] at ha; cases ha
  | true =>
    rw [ho, cond_true] at ha
    simp only [Option.some.injEq, Prod.mk.injEq] at ha
    obtain ⟨rfl, rfl⟩ := ha
    obtain ⟨π', hs, rfl⟩ := new_row hr hnid hx.cells e
    exact ⟨_, _, _, by simp [newVar, newRow], rfl, vr_new π nid _ _, hs⟩
theorem wrap_small {n : Int} (h0 : 0 ≤ n) (h1 : n ≤ 281474976710656) : IntKind.i64.wrap n = n := by
  have e1 : IntKind.i64.bits = 64 := rfl
  have e2 : IntKind.i64.signed = true := rfl
  unfold IntKind.wrap
  simp only [e1, e2, Bool.true_and]
  have h2 : n % 2 ^ 64 = n := Int.emod_eq_of_lt h0 (by omega)
  rw [h2]
  have h3 : decide (n ≥ 2 ^ (64 - 1)) = false := decide_eq_false (by omega)
  rw [h3]; rfl
theorem nat_of {v u : Value} {n : Nat} (h : nat? v = some n) (hv : VR π v u) : ∃ k, u = .int k (n : Int) := by
  obtain ⟨k, i, h1, h2, h3⟩ := nat_some h hv
  exact ⟨k, by rw [h1]; congr 1; omega⟩
theorem makeSlice_run {t e l c : Nat} {kl kc : IntKind} {i : TI} (hu : P.underlying t = some (.slice e)) (hti : tiOf P e = some i) (hz : i.zero.cells.size = i.size) (hlc : l ≤ c) (hb : c * (i.bytes + 1) ≤ 281474976710656) :
    (Instr.makeSlice t (.int kl (l : Int)) (.int kc (c : Int))).run P w = .ok (.slice (some ⟨w.heap.size, 0, none⟩) l c) (w.alloc (.cells ((Array.range (c * i.size)).map (i.zero.cells[· % i.zero.cells.size]!)) e)) := by
  obtain ⟨inf, h1, h2, h3⟩ := run_info (w := w) hti
  have hc : c ≤ 281474976710656 := by
    have : c * 1 ≤ c * (i.bytes + 1) := Nat.mul_le_mul_left _ (by omega)
    omega
  have hcb : c * i.bytes ≤ 281474976710656 := Nat.le_trans (Nat.mul_le_mul_left _ (by omega)) hb
  have wl := wrap_small (n := (l : Int)) (by omega) (by omega)
  have wc := wrap_small (n := (c : Int)) (by omega) (by omega)
  have hbig : ¬ ((inf.bytes : Int) * (c : Int) > 2 ^ 48) := by
    rw [h3]
    have : ((i.bytes * c : Nat) : Int) ≤ 281474976710656 := by rw [Nat.mul_comm]; omega
    rw [Int.natCast_mul] at this
    omega
  have hs := run_size (w := w) hti
  have hzr := run_zero (w := w) hti
  have hlast : (do let zero ← if c * i.size = 0 then pure #[] else do pure (← zeroValue e).cells
                   let a ← newRow e ((Array.range (c * i.size)).map (zero[· % zero.size]!))
                   pure (.slice (some a) l c) : Sem Value).run P w = .ok (.slice (some ⟨w.heap.size, 0, none⟩) l c) (w.alloc (.cells ((Array.range (c * i.size)).map (i.zero.cells[· % i.zero.cells.size]!)) e)) := by
    by_cases h0 : c * i.size = 0
    · have hr0 : ∀ f : Nat → Value, Array.map f (Array.range 0) = #[] := fun f => by simp [Array.range]
      rw [if_pos h0, h0]
      simp [newRow, hr0, Sem.run_pure]
    · rw [if_neg h0]
      simp [newRow, hzr, Sem.run_pure]
  unfold Instr.makeSlice
  simp only [Sem.run_bind, run_under hu, Result.andThen, asInt, asIntOf, Sem.run_pure, h1, wl, wc]
  have hneg : ¬ ((c : Int) < 0) := by omega
  have hneg2 : ¬ ((l : Int) < 0) := by omega
  have hlc' : ¬ ((l : Int) > (c : Int)) := by omega
  have hcond : ((decide ((c : Int) < 0) || decide ((inf.bytes : Int) * (c : Int) > 2 ^ 48)) = true ∨ (l : Int) < 0) ∨ (l : Int) > c ↔ False := by
    simp only [decide_eq_false hneg, decide_eq_false hbig, Bool.or_self]
    constructor
    · rintro ((h | h) | h)
      · cases h
      · exact hneg2 h
      · exact hlc' h
    · exact False.elim
  rw [if_neg (by simpa using hcond)]
  simp only [Sem.run_bind, run_askRoom, Result.andThen, hs, Int.toNat_natCast]
  have := hlast
  simp only [Sem.run_bind, Result.andThen] at this
  exact this
theorem aop_sound (ht : TOk P T) {h h' : AHeap} (hr : HR π N h.get h.next w) {nid : Nat} (hnid : π nid = none) {ρ ρ' : Operand → Value} {o : Oper} {v : Value} (ha : aop T ρ h nid o.op = some (v, h')) (hρ : ∀ x ∈ o.op.operands, VR π (ρ x) (ρ' x)) :
    OpOk P π N h w nid (execOp ρ' o) v h' := by
  unfold aop at ha
  simp only at ha
  unfold execOp
  have lv : ∀ {r : Option Value}, (match r with | some x => some (x, h) | none => none) = some (v, h') → r = some v ∧ h' = h := by
    intro r hr
    cases r with
    | none => cases hr
    | some x => simp only [Option.some.injEq, Prod.mk.injEq] at hr; exact ⟨by rw [hr.1], hr.2.symm⟩
  have lu : ∀ {r : Option AHeap}, (match r with | some x => some (undef, x) | none => none) = some (v, h') → r = some h' ∧ v = undef := by
    intro r hr
    cases r with
    | none => cases hr
    | some x => simp only [Option.some.injEq, Prod.mk.injEq] at hr; exact ⟨by rw [hr.2], hr.1.symm⟩
  generalize o.op = op at *
  split at ha
  · rename_i x
    simp only [Option.some.injEq, Prod.mk.injEq] at ha
    obtain ⟨rfl, rfl⟩ := ha
    exact .plain hr rfl (hρ x (by simp [Op.operands]))
  · rename_i x
    simp only [Option.some.injEq, Prod.mk.injEq] at ha
    obtain ⟨rfl, rfl⟩ := ha
    exact .plain hr rfl (hρ x (by simp [Op.operands]))
  · rename_i c a b
    have hc := hρ c (by simp [Op.operands])
    split at ha
    · rename_i e
      rw [e] at hc
      simp only [Option.some.injEq, Prod.mk.injEq] at ha
      obtain ⟨rfl, rfl⟩ := ha
      have e2 : ρ' c = .bool true := hc.bool_inv
      exact .plain hr (by simp [e2, asBool, Sem.run_pure]) (hρ a (by simp [Op.operands]))
    · rename_i e
      rw [e] at hc
      simp only [Option.some.injEq, Prod.mk.injEq] at ha
      obtain ⟨rfl, rfl⟩ := ha
      have e2 : ρ' c = .bool false := hc.bool_inv
      exact .plain hr (by simp [e2, asBool, Sem.run_pure]) (hρ b (by simp [Op.operands]))
    · cases ha
  · rename_i e
    split at ha
    · rename_i i hT
      obtain ⟨π', v', w', e1, e2, e3, e4⟩ := aneu_sound (P := P) hr hnid ha (VR.of_pv (ht.zero _ _ hT)) e
      exact ⟨π', v', w', .inl (by simp [Instr.alloc, run_zero (ht.ti _ _ hT), e1, e2]), e3, e4⟩
    · cases ha
  · rename_i e x
    obtain ⟨π', v', w', e1, e2, e3, e4⟩ := aneu_sound (P := P) hr hnid ha (hρ x (by simp [Op.operands])) e
    exact ⟨π', v', w', .inl (by simp [Instr.box, e1, e2]), e3, e4⟩
  · rename_i t ps
    obtain ⟨h1, rfl⟩ := lv ha
    obtain ⟨v', e1, e2⟩ := abuild_sound (P := P) (w := w) (parts' := ps.map fun (i, x) => (i, ρ' x)) ht h1 (by rw [Array.toList_map]; exact PRs.mapρ fun p hp => hρ p.2 (by simp only [Op.operands, List.mem_toArray, List.mem_map]; exact ⟨p, hp, rfl⟩))
    exact .plain hr (by simp [e1]) e2
  · rename_i t len ps
    obtain ⟨π', v', w', e1, e2, e3⟩ := abuildSlice_sound (P := P) (parts' := ps.map fun (i, x) => (i, ρ' x)) ht hr hnid ha (by rw [Array.toList_map]; exact PRs.mapρ fun p hp => hρ p.2 (by simp only [Op.operands, List.mem_toArray, List.mem_map]; exact ⟨p, hp, rfl⟩))
    exact ⟨π', v', w', .inl (by simp [e1]), e2, e3⟩
  · rename_i t a
    obtain ⟨h1, rfl⟩ := lv ha
    obtain ⟨v', e1, e2⟩ := aload_sound (P := P) (t := t) ht hr h1 (hρ a (by simp [Op.operands]))
    exact .plain hr (by simp [e1]) e2
  · rename_i t a x
    obtain ⟨h1, rfl⟩ := lu ha
    obtain ⟨w', e1, e2⟩ := astore_sound (P := P) (t := t) ht hr h1 (hρ a (by simp [Op.operands])) (hρ x (by simp [Op.operands])) nid
    exact ⟨π, undef, w', .inr ⟨by simp [e1], rfl⟩, VR.undef, e2⟩
  · rename_i x
    have hx := hρ x (by simp [Op.operands])
    split at ha
    · cases ha
    · cases ha
    · cases ha
    · cases ha
    · cases ha
    · rename_i n1 n2 n3 n4 n5
      simp only [Option.some.injEq, Prod.mk.injEq] at ha
      obtain ⟨rfl, rfl⟩ := ha
      refine .plain (v' := ρ' x) hr ?_ hx
      dsimp only
      generalize ρ x = y at *
      generalize ρ' x = y' at *
      cases hx with
      | nilP => exact (n1 rfl).elim
      | nilIface => exact (n2 rfl).elim
      | nilFunc => exact (n3 rfl).elim
      | func h1 h2 =>
        rename_i fn _ _ _ _
        cases fn <;> first | rfl | exact (n4 _ _ _ rfl).elim
      | tok i => exact (n5 _ rfl).elim
      | junk hu _ => exact (n5 _ rfl).elim
      | _ => rfl
  · rename_i op t x y yt
    obtain ⟨h1, rfl⟩ := lv ha
    obtain ⟨v', e1, e2⟩ := abin_sound (P := P) ht hr x y h1 (hρ x (by simp [Op.operands])) (hρ y (by simp [Op.operands]))
    exact .plain hr (by simp only [Sem.run_bind] at e1 ⊢; rw [e1]; rfl) e2
  · rename_i op t x
    obtain ⟨h1, rfl⟩ := lv ha
    obtain ⟨v', e1, e2⟩ := aun_sound (P := P) (w := w) h1 (hρ x (by simp [Op.operands]))
    exact .plain hr (by simp [e1]) e2
  · rename_i s d x
    obtain ⟨π', v', w', e1, e2, e3⟩ := aconv_sound (P := P) ht hr hnid ha (hρ x (by simp [Op.operands]))
    exact ⟨π', v', w', .inl (by simp [e1]), e2, e3⟩
  · rename_i t x
    split at ha
    · cases ha
    · rename_i i hni hT
      simp only [Option.some.injEq, Prod.mk.injEq] at ha
      obtain ⟨rfl, rfl⟩ := ha
      obtain ⟨_, hk, d, hd⟩ := ti_spec (ht.ti _ _ hT)
      refine .plain (v' := .iface t (ρ' x)) hr ?_ (.iface (hρ x (by simp [Op.operands])))
      simp only [Instr.makeInterface, Sem.run_bind, run_under hd, Result.andThen]
      cases d <;> first
        | rfl
        | (exfalso
           have : i.k = .iface := by rw [← hk]; unfold tkOf; rw [hd]
           cases i; simp only at this; subst this; exact hni _ _ _ rfl)
    · cases ha
  · rename_i fn first cap
    simp only [Option.some.injEq, Prod.mk.injEq] at ha
    obtain ⟨rfl, rfl⟩ := ha
    refine .plain (v' := .func fn (first.map ρ') (cap.map ρ')) hr (by simp [Instr.makeFunc, Sem.run_pure]) (.func ?_ ?_)
    · rw [Array.toList_map, Array.toList_map]; exact VRs.mapρ fun x hx => hρ x (by simp [Op.operands]; exact .inl (by simpa using hx))
    · rw [Array.toList_map, Array.toList_map]; exact VRs.mapρ fun x hx => hρ x (by simp [Op.operands]; exact .inr (by simpa using hx))
  · rename_i t
    simp only [Option.some.injEq, Prod.mk.injEq] at ha
    obtain ⟨rfl, rfl⟩ := ha
    have e : (w.alloc (.map #[] 0)).heap = w.heap.push (.map #[] 0) := rfl
    refine ⟨π.put nid ⟨w.heap.size, 0, 0⟩, .map (some w.heap.size), w.alloc (.map #[] 0), .inl (by simp [Instr.makeMap, Sem.run_pure]), .map (put_self π nid ⟨w.heap.size, 0, 0⟩), ?_⟩
    rw [get_new, next_new]
    exact Stp.alloc hr hnid rfl rfl rfl rfl (by rw [e]; simp) (fun b hb => by rw [e]; simp [Array.getElem?_push, Nat.ne_of_lt hb]) ⟨hr.base.le, #[], 0, by rw [e]; simp, MapKept.stamped_empty 0, .nil⟩
  · rename_i t l c
    split at ha
    · rename_i e _ _ _ ln cn hT hl hc
      split at ha
      · rename_i i hTe
        rw [bled, bled, beqd] at ha
        by_cases hb : (ln ≤ cn ∧ cn * (i.bytes + 1) ≤ 281474976710656) ∧ i.zero.cells.toList.length = i.size
        · have hb' : (decide (ln ≤ cn) && decide (cn * (i.bytes + 1) ≤ 281474976710656) && decide (i.zero.cells.toList.length = i.size)) = true := by simp only [Bool.and_eq_true, decide_eq_true_eq]; exact hb
          rw [hb', cond_true] at ha
          simp only [Option.some.injEq, Prod.mk.injEq] at ha
          obtain ⟨rfl, rfl⟩ := ha
          obtain ⟨_, hk, _⟩ := ti_spec (ht.ti _ _ hT)
          obtain ⟨kl, el⟩ := nat_of hl (hρ l (by simp [Op.operands]))
          obtain ⟨kc, ec⟩ := nat_of hc (hρ c (by simp [Op.operands]))
          have hzs : i.zero.cells.size = i.size := by simpa using hb.2
          have hrun := makeSlice_run (P := P) (w := w) (kl := kl) (kc := kc) (und_slice hk) (ht.ti _ _ hTe) hzs hb.1.1 hb.1.2
          have hzv : VRs π (reps i.zero.cells.toList cn) ((Array.range (cn * i.size)).map (i.zero.cells[· % i.zero.cells.size]!)).toList := by
            rw [← hzs, reps_array]
            exact VRs.reps (VR.cells (VR.of_pv (π := π) (ht.zero _ _ hTe))) cn
          obtain ⟨π', hs, rfl⟩ := new_row hr hnid hzv e
          have hcn : cn < CAPX := by
            have : cn * 1 ≤ cn * (i.bytes + 1) := Nat.mul_le_mul_left _ (by omega)
            have := hb.1.2
            unfold CAPX; omega
          exact ⟨_, _, _, .inl (by simp only [el, ec, Sem.run_bind, hrun, Result.andThen]; rfl), vr_slice_new π nid _ _ ln cn hcn hb.1.1, hs⟩
        · have hb' : (decide (ln ≤ cn) && decide (cn * (i.bytes + 1) ≤ 281474976710656) && decide (i.zero.cells.toList.length = i.size)) = false := by
            rw [Bool.eq_false_iff]; intro e; simp only [Bool.and_eq_true, decide_eq_true_eq] at e; exact hb e
          rw [hb', cond_false] at ha; cases ha
      · cases ha
    · cases ha
  · rename_i t x lo hi mx
    obtain ⟨h1, rfl⟩ := lv ha
    obtain ⟨v', e1, e2⟩ := aslice_sound (P := P) ht hr h1 (hρ x (by simp [Op.operands])) (ovr_map fun y hy => hρ y (by simp [Op.operands, hy])) (ovr_map fun y hy => hρ y (by simp [Op.operands, hy])) (ovr_map fun y hy => hρ y (by simp [Op.operands, hy]))
    exact .plain hr (by simp [e1]) e2
  · rename_i s x f
    obtain ⟨h1, rfl⟩ := lv ha
    obtain ⟨v', e1, e2⟩ := afieldAddr_sound (P := P) (w := w) ht h1 (hρ x (by simp [Op.operands]))
    exact .plain hr (by simp [e1]) e2
  · rename_i s x f
    obtain ⟨h1, rfl⟩ := lv ha
    obtain ⟨v', e1, e2⟩ := afield_sound (P := P) (w := w) ht h1 (hρ x (by simp [Op.operands]))
    exact .plain hr (by simp [e1]) e2
  · rename_i t x i
    obtain ⟨h1, rfl⟩ := lv ha
    obtain ⟨v', e1, e2⟩ := aindexAddr_sound (P := P) (w := w) ht h1 (hρ x (by simp [Op.operands])) (hρ i (by simp [Op.operands]))
    exact .plain hr (by simp [e1]) e2
  · rename_i t x i
    obtain ⟨h1, rfl⟩ := lv ha
    obtain ⟨v', e1, e2⟩ := aindex_sound (P := P) (w := w) ht h1 (hρ x (by simp [Op.operands])) (hρ i (by simp [Op.operands]))
    exact .plain hr (by simp [e1]) e2
  · rename_i t m k ok
    obtain ⟨h1, rfl⟩ := lv ha
    obtain ⟨v', e1, e2⟩ := alookup_sound (P := P) ht hr h1 (hρ m (by simp [Op.operands])) (hρ k (by simp [Op.operands]))
    exact .plain hr (by simp [e1]) e2
  · rename_i t m k x
    obtain ⟨h1, rfl⟩ := lu ha
    obtain ⟨w', e1, e2⟩ := amapUpdate_sound (P := P) ht hr h1 (hρ m (by simp [Op.operands])) (hρ k (by simp [Op.operands])) (hρ x (by simp [Op.operands])) nid
    exact ⟨π, undef, w', .inr ⟨by simp [e1], rfl⟩, VR.undef, e2⟩
  · rename_i t m k x
    obtain ⟨h1, rfl⟩ := lu ha
    obtain ⟨w', e1, e2⟩ := amapUpdate_sound (P := P) ht hr h1 (hρ m (by simp [Op.operands])) (hρ k (by simp [Op.operands])) (hρ x (by simp [Op.operands])) nid
    exact ⟨π, undef, w', .inr ⟨by simp [e1], rfl⟩, VR.undef, e2⟩
  · rename_i x i
    have hx := hρ x (by simp [Op.operands])
    dsimp only
    split at ha
    · rename_i vs e
      obtain ⟨h1, rfl⟩ := lv ha
      rw [e] at hx
      generalize ρ' x = y' at *
      cases hx with
      | tuple hxs =>
        rename_i ds
        obtain ⟨u, e1, e2⟩ := hxs.get _ _ h1
        have e1' : ds[i]? = some u := by simpa using e1
        exact .plain hr (by simp [Instr.extract, e1', Sem.run_pure]) e2
    · cases ha
  · rename_i x xt t ok
    have hx := hρ x (by simp [Op.operands])
    dsimp only
    split at ha
    · cases ha
    · rename_i i u y hni hT e
      rw [e] at hx
      obtain ⟨_, hk, d, hd⟩ := ti_spec (ht.ti _ _ hT)
      have hdi : ∀ m, d ≠ .interface m := by
        intro m hm
        subst hm
        have : i.k = .iface := by rw [← hk]; unfold tkOf; rw [hd]
        cases i; simp only at this; subst this; exact hni _ _ _ rfl
      generalize ρ' x = y' at *
      cases hx with
      | iface hy =>
        rename_i y2
        split at ha
        · rename_i hut
          subst hut
          simp only [Option.some.injEq, Prod.mk.injEq] at ha
          obtain ⟨rfl, rfl⟩ := ha
          cases ok
          · refine .plain (v' := y2) hr ?_ hy
            simp only [Instr.typeAssert, Sem.run_bind, run_under hd, Result.andThen]
            cases d <;> first | (simp [Sem.run_pure]; done) | exact absurd rfl (hdi _)
          · refine .plain (v' := .tuple #[y2, .bool true]) hr ?_ (.tuple (.cons hy (.cons (.bool _) .nil)))
            simp only [Instr.typeAssert, Sem.run_bind, run_under hd, Result.andThen]
            cases d <;> first | (simp [Sem.run_pure]; done) | exact absurd rfl (hdi _)
        · rename_i hut
          cases ok
          · cases ha
          · simp only [cond_true, Option.some.injEq, Prod.mk.injEq] at ha
            obtain ⟨rfl, rfl⟩ := ha
            refine .plain (v' := .tuple #[i.zero, .bool false]) hr ?_ (.tuple (.cons (.of_pv (ht.zero _ _ hT)) (.cons (.bool _) .nil)))
            simp only [Instr.typeAssert, Sem.run_bind, run_under hd, Result.andThen]
            cases d <;> first | (simp [hut, run_zero (ht.ti _ _ hT), Sem.run_pure]; done) | exact absurd rfl (hdi _)
    · cases ha
  · rename_i t x
    have hx := hρ x (by simp [Op.operands])
    dsimp only
    split at ha
    · rename_i s hT e
      rw [e] at hx
      obtain ⟨_, hk, _⟩ := ti_spec (ht.ti _ _ hT)
      simp only [Option.some.injEq, Prod.mk.injEq] at ha
      obtain ⟨rfl, rfl⟩ := ha
      generalize ρ' x = y' at *
      cases hx
      have e : (w.alloc (.stringIter s 0)).heap = w.heap.push (.stringIter s 0) := rfl
      refine ⟨π.put nid ⟨w.heap.size, 0, 0⟩, .pointer (some ⟨w.heap.size, 0, none⟩), w.alloc (.stringIter s 0), .inl (by simp [Instr.range, run_under (und_string hk), Sem.run_pure]), vr_new π nid _ _, ?_⟩
      rw [get_new, next_new]
      exact Stp.alloc hr hnid rfl rfl rfl rfl (by rw [e]; simp) (fun b hb => by rw [e]; simp [Array.getElem?_push, Nat.ne_of_lt hb]) ⟨hr.base.le, rfl, by rw [e]; simp⟩
    · cases ha
  · rename_i it
    have hx := hρ it (by simp [Op.operands])
    dsimp only
    split at ha
    · rename_i r e
      rw [e] at hx
      split at ha
      · rename_i s pos hg
        obtain ⟨L', h1, h0, hd0, h2⟩ := hr.obj r _ hg
        generalize ρ' it = y' at *
        cases hx with
        | ptr hL =>
          rename_i L
          rw [hL] at h1; injection h1 with h1; subst h1
          have hgo : (getObj L.b).run P w = .ok (.stringIter s pos) w := by simp [getObj, Sem.run, h2]
          rw [bltd] at ha
          by_cases hp : pos < (bl s).length
          · rw [decide_eq_true hp, cond_true] at ha
            simp only [Option.some.injEq, Prod.mk.injEq] at ha
            obtain ⟨rfl, rfl⟩ := ha
            rw [bl_size] at hp
            have hso : (setObj L.b (.stringIter s (pos + (Utf8.decode s pos).2))).run P w = .ok () { w with heap := w.heap.setIfInBounds L.b (.stringIter s (pos + (Utf8.decode s pos).2)) } := by simp [setObj, Sem.run, h2]
            refine ⟨π, .tuple #[.bool true, .int .i64 pos, .int .i32 (Utf8.decode s pos).1], { w with heap := w.heap.setIfInBounds L.b (.stringIter s (pos + (Utf8.decode s pos).2)) }, .inl ?_, .tuple (.cons (.bool _) (.cons (.int _ _) (.cons (.int _ _) .nil))), ?_⟩
            · simp [Instr.next, hd0, hgo, hp, hso, goInt, Sem.run_pure]
            · rw [get_set]
              exact Stp.turn hr hg rfl rfl hL rfl rfl rfl (by simp) (fun b hb => (MapKept.heap_set h2).2 b hb) ⟨h0, hd0, (MapKept.heap_set h2).1⟩
          · rw [decide_eq_false hp, cond_false] at ha
            simp only [Option.some.injEq, Prod.mk.injEq] at ha
            obtain ⟨rfl, rfl⟩ := ha
            rw [bl_size] at hp
            refine .plain (v' := .tuple #[.bool false]) hr ?_ (.tuple (.cons (.bool _) .nil))
            simp [Instr.next, hd0, hgo, hp, Sem.run_pure]
      · cases ha
    · cases ha
  · cases ha
end
end Go.Proofs.Yteffhomollmpdaa.AM

/- A range over a function whose rounds come in a known order: the law of the walk, by numbers. -/
namespace Go.Proofs.Yteffhomollmpdaa.AM
open Go Go.RowKit
set_option linter.unusedVariables false
/-- what abides the turn of a loop's record, or of a mark's block, that lies at or beyond B -/
def OwnLD {β : Type} (B : Nat) (I : β → World → Prop) : Prop :=
  ∀ s W W' row, I s W → W.grownBy W' row → (∀ r, row = some r → B ≤ r ∧ ∃ q, W.heap[r]? = some (.loop q)) → I s W'
theorem OwnLD.loop {β : Type} {B : Nat} {I : β → World → Prop} (h : OwnLD B I) {s : β} {W : World} {l : Nat} {q : Loop} (o' : Obj) (hs : I s W) (hB : B ≤ l) (hl : W.heap[l]? = some (.loop q)) : I s (W.putObj l o') :=
  h s W _ (some l) hs (grownBy_putObj' W l o') (fun r e => by cases e; exact ⟨hB, q, hl⟩)
theorem OwnLD.alloc {β : Type} {B : Nat} {I : β → World → Prop} (h : OwnLD B I) {s : β} {W : World} (o : Obj) (hs : I s W) : I s (W.alloc o) :=
  h s W _ none hs (World.grownBy_alloc W o none) (fun r e => by cases e)
/-- loops' records and marks at or beyond B lie as they lay -/
structure KeepsLD (B : Nat) (W W' : World) : Prop where
  size : W.heap.size ≤ W'.heap.size
  loop : ∀ (k : Nat) (q : Loop), B ≤ k → W.heap[k]? = some (.loop q) → W'.heap[k]? = some (.loop q)
  mark : ∀ (k : Nat) (d : Option (List Deferred)), B ≤ k → W.heap[k]? = some (.deferred d) → W'.heap[k]? = some (.deferred d)
/-- the ways in which a round may be left -/
def rfPost (B : Nat) (I : Nat → World → Prop) (Ix : Code → Nat → World → Prop) (k : Nat) (W : World) : Exit → Act → World → Prop
  | .normal, _, W' => KeepsLD B W W' ∧ I (k + 1) W'
  | .ret, _, W' => KeepsLD B W W' ∧ Ix .ret k W'
  | .exit id, _, W' => KeepsLD B W W' ∧ Ix (.exit id) k W'
  | _, _, _ => False
/-- an iterator whose rounds come in a known order: what it reads lies as Hold says -/
def SeqK (F : Fence) (n : Nat) (P : Program) (gf : Nat) (lb : Array Value) (enc : Nat → Array Value) (Hold : World → Prop) (N : Nat) : Prop :=
  ∀ (l : Nat) (J Jx : Nat → World → Prop) (W : World), (∀ k W1, (k < N ∨ k = 0) → J k W1 → Hold W1) →
    (∀ k W1, k < N → J k W1 → YieldAt F (n - 1) P l (enc k) W1 fun e W' => (e = .returned (.bool true) ∧ J (k + 1) W') ∨ (e = .returned (.bool false) ∧ Jx k W')) → J 0 W →
    CallsIn F n P gf (#[.func (.yield l) #[] #[]] ++ lb) W fun e W' => (∃ v, e = .returned v) ∧ (J N W' ∨ ∃ k, k < N ∧ Jx k W')
section
variable {F : Fence} {n : Nat} {P : Program}
theorem wpIn_rangeFunc_k {g : Operand} {ps : Array Tmp} {assign body : Code} {Q : Exit → Act → World → Prop} {a : Act} {w : World}
    (hro : F.round = none) (hdep : F.depth.isSome = true → 1 ≤ n) {gf : Nat} {lb : Array Value} (hg : a.eval g = .func (.func gf) #[] lb) (hFg : F.fn gf) (eg : ∀ args w, (callFunc gf args).run P w = .ok (.enter gf args) w)
    {enc : Nat → Array Value} {Hold : World → Prop} {N : Nat} (hseq : SeqK F (n - 1) P gf lb enc Hold N) (hps : ∀ k, (enc k).size = ps.size)
    (I : Nat → World → Prop) (Ix : Code → Nat → World → Prop) (A : Nat → Act → World → Prop) (hI : OwnLD w.heap.size I) (hIx : ∀ c, OwnLD w.heap.size (Ix c)) (hA : ∀ k a', OwnLD w.heap.size (fun (_ : Unit) W => A k a' W)) (hH : ∀ k W, (k < N ∨ k = 0) → I k W → Hold W) (h0 : I 0 w)
    (hassign : ∀ (l k : Nat) (W : World), k < N → I k W → assign.wpIn (F.inRound l) (n - 1 - 1) P (Exit.then (fun a' W' => KeepsLD w.heap.size W W' ∧ A k a' W') (fun _ _ _ => False)) { tmps := (ps.zip (enc k)).foldl (fun t (p, v) => t.setIfInBounds p v) a.tmps, defers := [] } W)
    (hbody : ∀ (l k : Nat) (a' : Act) (W : World), k < N → A k a' W → body.wpIn (F.inRound l) (n - 1 - 1) P (rfPost w.heap.size I Ix k W) a' W)
    (hdone : ∀ (D : Nat) (W : World), w.heap.size ≤ D → I N W → W.heap[D]? = some (.deferred (some [])) → Q .normal { a with defers := { target := .collected D, args := #[] } :: a.defers } W)
    (hstop : ∀ (D : Nat) (c : Code) (k : Nat) (W : World), w.heap.size ≤ D → k < N → Ix c k W → W.heap[D]? = some (.deferred (some [])) → c.wpIn F n P Q { a with defers := { target := .collected D, args := #[] } :: a.defers } W) :
    (Code.rangeFunc g ps assign body).wpIn F n P Q a w := by
  refine wpIn_rangeFunc ?_
  intro fn hfn
  rw [hro]
  obtain ⟨rec, hrec⟩ : ∃ rec : LoopState → Option Code → Loop, rec = fun st pe => { state := st, pending := pe, fn, tmps := a.tmps, params := ps, assign, body, defers := w.heap.size } := ⟨_, rfl⟩
  obtain ⟨W1, hW1⟩ : ∃ W1, (w.alloc (.deferred (some []))).alloc (.loop (rec .ready none)) = W1 := ⟨_, rfl⟩
  have hL1 : W1.heap[w.heap.size + 1]? = some (.loop (rec .ready none)) := by
    rw [← hW1]; have := World.alloc_heap_new (w.alloc (.deferred (some []))) (.loop (rec .ready none)); rwa [World.size_alloc] at this
  have hK1 : W1.heap[w.heap.size]? = some (.deferred (some [])) := by
    rw [← hW1]; exact (Below.heap_alloc _ _ _ (by simp)).trans (World.alloc_heap_new w _)
  have hI1 : I 0 W1 := by rw [← hW1]; exact hI.alloc _ (hI.alloc _ h0)
  refine ⟨w.heap.size + 1, [{ target := .collected w.heap.size, args := #[] }], W1, { target := .fn (.func gf) lb, args := #[.func (.yield (w.heap.size + 1)) #[] #[]] }, W1, gf,
    #[.func (.yield (w.heap.size + 1)) #[] #[]] ++ lb, W1, ?_, ?_, ?_, ?_, hdep, ?_⟩
  · rw [← hW1, hrec]; exact run_enterLoop_outer _ _ _ _ _
  · simp only [resolve, hg]
    simp [go_sem]
  · intro f' hf'; simp [Target.leads] at hf'; subst hf'; exact hFg
  · simp [invoke, go_sem, eg]
  · refine (hseq (w.heap.size + 1)
      (fun k W => I k W ∧ W.heap[w.heap.size + 1]? = some (.loop (rec .ready none)) ∧ W.heap[w.heap.size]? = some (.deferred (some [])))
      (fun k W => ∃ c, Ix c k W ∧ W.heap[w.heap.size + 1]? = some (.loop (rec .done (some c))) ∧ W.heap[w.heap.size]? = some (.deferred (some [])))
      W1 (fun k W hk h => hH k W hk h.1) ?_ ⟨hI1, hL1, hK1⟩).mono ?_
    · rintro k W hlen ⟨hi, hl, hk⟩
      have hlt : w.heap.size + 1 < W.heap.size := (Array.getElem?_eq_some_iff.1 hl).1
      have hy := run_yield (P := P) (args := enc k) hl (by rw [hrec]; exact hps k)
      rw [hrec] at hy
      refine ⟨fn, _, assign, body, hy, roundIn_of_wpIn hfn (wpIn_mono (hassign _ k W hlen hi) ?_)⟩
      intro e a1 W2 hp
      cases e with
      | normal =>
        obtain ⟨hkf, ha⟩ := hp
        have hl0 := hkf.loop _ _ (by omega) hl
        have hk0 := hkf.mark _ _ (Nat.le_refl _) hk
        have hlt2 : w.heap.size + 1 < W2.heap.size := (Array.getElem?_eq_some_iff.1 hl0).1
        refine ⟨_, run_beginRound hl0 (by rw [hrec]), ?_⟩
        have hl2 : (W2.putObj (w.heap.size + 1) (.loop { rec .ready none with state := .busy })).heap[w.heap.size + 1]? = some (.loop { rec .ready none with state := .busy }) := World.putObj_heap_same hlt2
        have hk2 : (W2.putObj (w.heap.size + 1) (.loop { rec .ready none with state := .busy })).heap[w.heap.size]? = some (.deferred (some [])) := (World.putObj_heap_other (by omega)).trans hk0
        refine wpIn_mono (hbody _ k _ _ hlen ((hA k a1).loop (s := ()) _ ha (by omega) hl0)) ?_
        have fin : ∀ (jump : Option Code) (W3 : World), KeepsLD w.heap.size (W2.putObj (w.heap.size + 1) (.loop { rec .ready none with state := .busy })) W3 →
            (Instr.endRound (w.heap.size + 1) jump).run P W3 = .ok (.bool jump.isNone) (W3.putObj (w.heap.size + 1) (.loop (rec (if jump.isNone then .ready else .done) jump))) ∧
            W3.heap[w.heap.size + 1]? = some (.loop { rec .ready none with state := .busy }) ∧
            (W3.putObj (w.heap.size + 1) (.loop (rec (if jump.isNone then .ready else .done) jump))).heap[w.heap.size + 1]? = some (.loop (rec (if jump.isNone then .ready else .done) jump)) ∧
            (W3.putObj (w.heap.size + 1) (.loop (rec (if jump.isNone then .ready else .done) jump))).heap[w.heap.size]? = some (.deferred (some [])) := fun jump W3 hk3 => by
          have hl3 := hk3.loop _ _ (by omega) hl2
          have := run_endRound (P := P) jump hl3
          rw [hrec] at this ⊢
          exact ⟨this, by rw [hrec] at hl3; exact hl3, World.putObj_heap_same (Array.getElem?_eq_some_iff.1 hl3).1, (World.putObj_heap_other (by omega)).trans (hk3.mark _ _ (Nat.le_refl _) hk2)⟩
        rintro e a3 W3 hp
        cases e with
        | normal =>
          obtain ⟨hk3, hi3⟩ := hp
          obtain ⟨hr, hl3, hl4, hk4⟩ := fin none W3 hk3
          exact ⟨_, _, hr, .inl ⟨rfl, hI.loop _ hi3 (by omega) hl3, hl4, hk4⟩⟩
        | ret =>
          obtain ⟨hk3, hi3⟩ := hp
          obtain ⟨hr, hl3, hl4, hk4⟩ := fin (some .ret) W3 hk3
          exact ⟨_, _, hr, .inr ⟨rfl, .ret, (hIx _).loop _ hi3 (by omega) hl3, hl4, hk4⟩⟩
        | exit id =>
          obtain ⟨hk3, hi3⟩ := hp
          obtain ⟨hr, hl3, hl4, hk4⟩ := fin (some (.exit id)) W3 hk3
          exact ⟨_, _, hr, .inr ⟨rfl, .exit id, (hIx _).loop _ hi3 (by omega) hl3, hl4, hk4⟩⟩
        | goto t => exact hp.elim
        | panic ch => exact hp.elim
        | outgrown => exact hp.elim
      | exit id => exact hp.elim
      | goto t => exact hp.elim
      | ret => exact hp.elim
      | panic ch => exact hp.elim
      | outgrown => exact hp.elim
    · rintro e W2 ⟨⟨v, rfl⟩, (⟨hi, hl, hk⟩ | ⟨k, hk0, c, hi, hl, hk⟩)⟩
      · exact ⟨none, _, by have := run_endLoop (P := P) hl (by rw [hrec]; simp); rw [hrec] at this; exact this, hdone _ _ (Nat.le_refl _) (hI.loop _ hi (by omega) hl) ((World.putObj_heap_other (by omega)).trans hk)⟩
      · exact ⟨some c, _, by have := run_endLoop (P := P) hl (by rw [hrec]; simp); rw [hrec] at this; exact this, hstop _ c k _ (Nat.le_refl _) hk0 ((hIx c).loop _ hi (by omega) hl) ((World.putObj_heap_other (by omega)).trans hk)⟩
end
end Go.Proofs.Yteffhomollmpdaa.AM
