import Derived.Calls
import Derived.MapKept
import Derived.Laws.Sem
import Derived.Lib.Strings
import Derived.Laws.IdiomCopy
import Derived.Laws.World
import Derived.Laws.Entries
import Derived.Laws.Cells
import Derived.ChangeKeysEq
import Derived.Laws.Tables
import Derived.Great.BuildSlice
import Derived.Laws.Pointers
import Derived.Laws.StructEq
import Derived.Laws.Slices
import Derived.LaidEqlPtr
import Derived.Lib.ConvBytes
import Derived.Laws.BytesArg
/- A machine of our own for Go's operations, over a heap of its own. What it computes the program computes, too: the texts behind this one show it. -/
namespace Go.Proofs.Ytffockklleanmaa.AM
open Go
set_option linter.unusedVariables false

/-! ### tables by number -/
inductive Tr (α : Type) where
  | nil
  | node (v : Option α) (l r : Tr α)
noncomputable def Tr.get {α : Type} (t : Tr α) : Nat → Option α :=
  Tr.rec (motive := fun _ => Nat → Option α) (fun _ => none) (fun v l r gl gr k => Nat.rec (motive := fun _ => Option α) v (fun p _ => Bool.rec (motive := fun _ => Option α) (gr (Nat.div p 2)) (gl (Nat.div p 2)) (Nat.beq (Nat.mod p 2) 0)) k) t
noncomputable def Tr.set {α : Type} (v : Option α) (f : Nat) : Tr α → Nat → Tr α :=
  Nat.rec (motive := fun _ => Tr α → Nat → Tr α) (fun t _ => t)
    (fun _ ih t => Tr.rec (motive := fun _ => Nat → Tr α)
      (fun k => Nat.rec (motive := fun _ => Tr α) (.node v .nil .nil) (fun p _ => Bool.rec (motive := fun _ => Tr α) (.node none .nil (ih .nil (Nat.div p 2))) (.node none (ih .nil (Nat.div p 2)) .nil) (Nat.beq (Nat.mod p 2) 0)) k)
      (fun u l r _ _ k => Nat.rec (motive := fun _ => Tr α) (.node v l r) (fun p _ => Bool.rec (motive := fun _ => Tr α) (.node u l (ih r (Nat.div p 2))) (.node u (ih l (Nat.div p 2)) r) (Nat.beq (Nat.mod p 2) 0)) k) t) f
theorem half_eq {α : Type} (p : Nat) (x y : α) : Bool.rec (motive := fun _ => α) y x (Nat.beq (Nat.mod p 2) 0) = bif Nat.beq ((p + 1) % 2) 1 then x else y := by
  have e : Nat.mod p 2 = p % 2 := rfl
  rw [e]
  rcases Nat.mod_two_eq_zero_or_one p with h | h
  · have h2 : (p + 1) % 2 = 1 := by omega
    rw [h, h2]; rfl
  · have h2 : (p + 1) % 2 = 0 := by omega
    rw [h, h2]; rfl
theorem Tr.get_node {α : Type} (v : Option α) (l r : Tr α) (k : Nat) : (Tr.node v l r).get k = bif Nat.beq k 0 then v else bif Nat.beq (k % 2) 1 then l.get ((k - 1) / 2) else r.get ((k - 1) / 2) := by
  cases k with
  | zero => rfl
  | succ p => exact half_eq p (l.get (p / 2)) (r.get (p / 2))
theorem Tr.set_zero {α : Type} (v : Option α) (t : Tr α) (k : Nat) : Tr.set v 0 t k = t := rfl
theorem Tr.set_nil {α : Type} (v : Option α) (f k : Nat) : Tr.set v (f + 1) .nil k = bif Nat.beq k 0 then .node v .nil .nil else bif Nat.beq (k % 2) 1 then .node none (Tr.set v f .nil ((k - 1) / 2)) .nil else .node none .nil (Tr.set v f .nil ((k - 1) / 2)) := by
  cases k with
  | zero => rfl
  | succ p => exact half_eq p (Tr.node none (Tr.set v f Tr.nil (p / 2)) Tr.nil) (Tr.node none Tr.nil (Tr.set v f Tr.nil (p / 2)))
theorem Tr.set_node {α : Type} (v : Option α) (f : Nat) (u : Option α) (l r : Tr α) (k : Nat) : Tr.set v (f + 1) (.node u l r) k = bif Nat.beq k 0 then .node v l r else bif Nat.beq (k % 2) 1 then .node u (Tr.set v f l ((k - 1) / 2)) r else .node u l (Tr.set v f r ((k - 1) / 2)) := by
  cases k with
  | zero => rfl
  | succ p => exact half_eq p (Tr.node u (Tr.set v f l (p / 2)) r) (Tr.node u l (Tr.set v f r (p / 2)))
noncomputable section
def Tr.put {α : Type} (t : Tr α) (k : Nat) (v : Option α) : Tr α := Tr.set v (k + 1) t k
def Tr.ofList {α : Type} : List α → Nat → Tr α → Tr α
  | [], _, t => t
  | x :: l, k, t => Tr.ofList l (k + 1) (t.put k (some x))

/-! ### objects, heaps -/
inductive AObj where
  /-- cells of our own; z: no mark of a string lies on them -/
  | cells (cs : List Value) (z : Bool)
  | ro (cs : List Value)
  | map (l : List (Value × Value))
  | siter (s : ByteArray) (pos : Nat)
  /-- a map whose entries lie in whatever order -/
  | fmap (l : List (Value × Value))
structure AHeap where
  t : Tr AObj
  next : Nat
def AHeap.get (h : AHeap) (id : Nat) : Option AObj := h.t.get id
def AHeap.set (h : AHeap) (id : Nat) (o : AObj) : AHeap := ⟨h.t.put id (some o), h.next⟩
def AHeap.kill (h : AHeap) (id : Nat) : AHeap := ⟨h.t.put id none, h.next⟩
def AHeap.new (h : AHeap) (id : Nat) (o : AObj) : AHeap := ⟨h.t.put id (some o), bif Nat.blt id h.next then h.next else id + 1⟩
def rd (h : AHeap) (id : Nat) : Option (List Value) :=
  match h.get id with
  | some (.cells cs _) => some cs
  | some (.ro cs) => some cs
  | _ => none

/-! ### types -/
inductive TK where
  | bool | int (k : IntKind) | string | ptr (e : Nat) | slice (e : Nat) | array (n e : Nat) | map (k e : Nat)
  | struct (fs : List (Nat × Nat)) (q : Bool) | func | iface | other
structure TI where
  k : TK
  size : Nat
  bytes : Nat
  zero : Value
def TK.agg : TK → Bool
  | .struct _ _ | .array _ _ => true
  | _ => false

/-! ### an activation's places -/
structure AAct where
  n : Nat
  t : Tr Value
def AAct.at (a : AAct) (t : Nat) : Value := Bool.rec (motive := fun _ => Value) undef (Option.rec (motive := fun _ => Value) undef (fun v => v) (a.t.get t)) (Nat.blt t a.n)
def AAct.put (a : AAct) (dst : Option Nat) (v : Value) : AAct := Nat.rec (motive := fun _ => AAct) ⟨0, Option.rec (motive := fun _ => Tr Value) a.t (fun d => a.t.put d (some v)) dst⟩ (fun m _ => ⟨Nat.succ m, Option.rec (motive := fun _ => Tr Value) a.t (fun d => a.t.put d (some v)) dst⟩) a.n
theorem AAct.put_eq (a : AAct) (dst : Option Nat) (v : Value) : a.put dst v = ⟨a.n, Option.rec (motive := fun _ => Tr Value) a.t (fun d => a.t.put d (some v)) dst⟩ := by
  obtain ⟨n, t⟩ := a
  cases n <;> rfl
theorem AAct.at_eq (a : AAct) (t : Nat) : a.at t = bif Nat.blt t a.n then (a.t.get t).getD undef else undef := by
  unfold AAct.at
  cases Nat.blt t a.n with
  | false => rfl
  | true => cases a.t.get t <;> rfl
theorem AAct.put_none (a : AAct) (v : Value) : a.put none v = a := AAct.put_eq a none v
theorem AAct.put_some (a : AAct) (d : Nat) (v : Value) : a.put (some d) v = ⟨a.n, a.t.put d (some v)⟩ := AAct.put_eq a (some d) v
def aev (a : AAct) : Operand → Value
  | .tmp t => a.at t
  | .const v => v
  | .global g => .pointer (some ⟨g, 0, none⟩)
  | .func f => .func (.func f) #[] #[]

/-! ### cells -/
def over : List Value → List Value → Option (List Value)
  | cs, [] => some cs
  | [], _ :: _ => none
  | _ :: cs, v :: vs => match over cs vs with | some r => some (v :: r) | none => none
def putAt : List Value → Nat → List Value → Option (List Value)
  | cs, 0, vs => over cs vs
  | [], _ + 1, _ => none
  | c :: cs, o + 1, vs => match putAt cs o vs with | some r => some (c :: r) | none => none
def cut (cs : List Value) (o n : Nat) : Option (List Value) :=
  let r := (cs.drop o).take n
  bif Nat.beq r.length n then some r else none
/-- one cell's value -/
def one : Value → Bool
  | .agg _ | .tuple _ => false
  | _ => true
def ones (l : List Value) : Bool := l.all one
def CAPX : Nat := 18446744073709551616
def eqB : List UInt8 → List UInt8 → Bool
  | [], [] => true
  | a :: x, b :: y => bif Nat.beq a.toNat b.toNat then eqB x y else false
  | _, _ => false
def ltB : List UInt8 → List UInt8 → Bool
  | _, [] => false
  | [], _ :: _ => true
  | a :: x, b :: y => bif Nat.blt a.toNat b.toNat then true else bif Nat.beq a.toNat b.toNat then ltB x y else false
def bl (s : ByteArray) : List UInt8 := s.data.toList
def lb (l : List UInt8) : ByteArray := ⟨⟨l⟩⟩
def byteV (b : UInt8) : Value := .int .u8 (b.toNat : Int)

def aload (T : Tr TI) (h : AHeap) (t : Nat) (a : Value) : Option Value :=
  match a with
  | .pointer (some ⟨id, o, none⟩) =>
    match T.get t, rd h id with
    | some i, some cs => bif i.k.agg then (match cut cs o i.size with | some r => some (.agg ⟨r⟩) | none => none) else cs[o]?
    | _, _ => none
  | _ => none
def aput (h : AHeap) (id o : Nat) (vs : List Value) : Option AHeap :=
  match h.get id with
  | some (.cells cs z) => bif ones vs then (match putAt cs o vs with | some r => some (h.set id (.cells r z)) | none => none) else none
  | _ => none
def astore (T : Tr TI) (h : AHeap) (t : Nat) (a v : Value) : Option AHeap :=
  match a with
  | .pointer (some ⟨id, o, none⟩) =>
    match T.get t with
    | some i => bif Nat.beq v.cells.toList.length i.size then aput h id o v.cells.toList else none
    | none => none
  | _ => none
def aneu (h : AHeap) (nid : Nat) (v : Value) : Option (Value × AHeap) :=
  bif ones v.cells.toList then some (.pointer (some ⟨nid, 0, none⟩), h.new nid (.cells v.cells.toList true)) else none
def afill (pl : Nat → Option (Nat × Nat)) : List Value → List (Nat × Value) → Option (List Value)
  | cs, [] => some cs
  | cs, (i, v) :: rest =>
    match pl i with
    | none => none
    | some (off, size) => bif Nat.beq v.cells.toList.length size then (match putAt cs off v.cells.toList with | some r => afill pl r rest | none => none) else none
def sizes (T : Tr TI) : List (Nat × Nat) → Option (List (Nat × Nat))
  | [] => some []
  | (o, t) :: r => match T.get t, sizes T r with | some i, some l => some ((o, i.size) :: l) | _, _ => none
def abuild (T : Tr TI) (t : Nat) (parts : List (Nat × Value)) : Option Value :=
  match T.get t with
  | some ⟨.struct fs _, _, _, z⟩ => match sizes T fs with
    | some pl => match afill (fun i => pl[i]?) z.cells.toList parts with | some r => some (.agg ⟨r⟩) | none => none
    | none => none
  | some ⟨.array _ e, _, _, z⟩ => match T.get e with
    | some i => match afill (fun j => some (j * i.size, i.size)) z.cells.toList parts with | some r => some (.agg ⟨r⟩) | none => none
    | none => none
  | _ => none
def reps (z : List Value) : Nat → List Value
  | 0 => []
  | n + 1 => z ++ reps z n
def abuildSlice (T : Tr TI) (h : AHeap) (nid t len : Nat) (parts : List (Nat × Value)) : Option (Value × AHeap) :=
  match T.get t with
  | some ⟨.slice e, _, _, _⟩ => match T.get e with
    | some i => bif Nat.ble (len * i.size) 16777216 && Nat.ble len 16777216 then (bif Nat.beq i.zero.cells.toList.length i.size then (match afill (fun j => some (j * i.size, i.size)) (reps i.zero.cells.toList len) parts with
      | some r => bif ones r then some (.slice (some ⟨nid, 0, none⟩) len len, h.new nid (.cells r true)) else none
      | none => none) else none) else none
    | none => none
  | _ => none

/-! ### plain operations -/
def aint (op : BinOp) (k : IntKind) (x y : Int) : Option Value :=
  match op with
  | .add => some (.int k (k.wrap (x + y)))
  | .sub => some (.int k (k.wrap (x - y)))
  | .mul => some (.int k (k.wrap (x * y)))
  | .quo => if y = 0 then none else some (.int k (k.wrap (x.tdiv y)))
  | .rem => if y = 0 then none else some (.int k (x.tmod y))
  | .and => some (.int k (k.wrap ((BitVec.ofInt k.bits x &&& BitVec.ofInt k.bits y).toNat : Int)))
  | .or => some (.int k (k.wrap ((BitVec.ofInt k.bits x ||| BitVec.ofInt k.bits y).toNat : Int)))
  | .xor => some (.int k (k.wrap ((BitVec.ofInt k.bits x ^^^ BitVec.ofInt k.bits y).toNat : Int)))
  | .andNot => some (.int k (k.wrap ((BitVec.ofInt k.bits x &&& ~~~BitVec.ofInt k.bits y).toNat : Int)))
  | .eql => some (.bool (x == y))
  | .neq => some (.bool (x != y))
  | .lss => some (.bool (x < y))
  | .leq => some (.bool (x ≤ y))
  | .gtr => some (.bool (x > y))
  | .geq => some (.bool (x ≥ y))
  | _ => none
def ashift (op : BinOp) (k : IntKind) (x y : Int) : Option Value :=
  if y < 0 then none else
  match op with
  | .shl => some (.int k (k.wrap (x * 2 ^ (min y.toNat k.bits))))
  | .shr => some (.int k (x.fdiv (2 ^ (min y.toNat k.bits))))
  | _ => none
def astr (op : BinOp) (x y : ByteArray) : Option Value :=
  match op with
  | .add => bif Nat.ble ((bl x).length + (bl y).length) 9223372036854775807 then some (.string (lb (bl x ++ bl y))) else none
  | .eql => some (.bool (eqB (bl x) (bl y)))
  | .neq => some (.bool (!(eqB (bl x) (bl y))))
  | .lss => some (.bool (ltB (bl x) (bl y)))
  | .leq => some (.bool (ltB (bl x) (bl y) || eqB (bl x) (bl y)))
  | .gtr => some (.bool (!(ltB (bl x) (bl y) || eqB (bl x) (bl y))))
  | .geq => some (.bool (!(ltB (bl x) (bl y))))
  | _ => none
/-- equality of two cells of a plain struct -/
def eqCell (k : TK) (x y : Value) : Option Bool :=
  match k, x, y with
  | .int _, .int j a, .int l b => if j = l then some (a == b) else none
  | .string, .string a, .string b => some (eqB (bl a) (bl b))
  | .bool, .bool a, .bool b => some (a == b)
  | _, _, _ => none
def eqCells (T : Tr TI) : List (Nat × Nat) → List Value → List Value → Option Bool
  | [], [], [] => some true
  | (_, t) :: fs, x :: xs, y :: ys =>
    match T.get t with
    | some i => match eqCell i.k x y, eqCells T fs xs ys with
      | some a, some b => some (a && b)
      | _, _ => none
    | none => none
  | _, _, _ => none
/-- a plain object's number: none of a string's -/
def unmarked (h : AHeap) (id : Nat) : Bool :=
  match h.get id with
  | some (.cells _ true) => true
  | _ => false
def aeq (T : Tr TI) (h : AHeap) (t : Nat) (x y : Value) : Option Bool :=
  match x, y with
  | .bool a, .bool b => match T.get t with
    | some ⟨.bool, _, _, _⟩ => some (a == b)
    | _ => none
  | .pointer none, .pointer b => match T.get t with
    | some ⟨.ptr _, _, _, _⟩ => some b.isNone
    | _ => none
  | .pointer (some _), .pointer none => match T.get t with
    | some ⟨.ptr _, _, _, _⟩ => some false
    | _ => none
  | .pointer (some ⟨i, o, none⟩), .pointer (some ⟨j, p, none⟩) => match T.get t with
    | some ⟨.ptr e, _, _, _⟩ => match T.get e with
      | some ei => bif Nat.beq ei.size 0 then none else bif unmarked h i && unmarked h j then some (Nat.beq i j && Nat.beq o p) else none
      | none => none
    | _ => none
  | .map none, .map b => match T.get t with
    | some ⟨.map _ _, _, _, _⟩ => some b.isNone
    | _ => none
  | .map (some _), .map none => match T.get t with
    | some ⟨.map _ _, _, _, _⟩ => some false
    | _ => none
  | .slice none 0 0, .slice b _ _ => match T.get t with
    | some ⟨.slice _, _, _, _⟩ => some b.isNone
    | _ => none
  | .slice (some _) _ _, .slice none 0 0 => match T.get t with
    | some ⟨.slice _, _, _, _⟩ => some false
    | _ => none
  | .nilFunc, .nilFunc => match T.get t with
    | some ⟨.func, _, _, _⟩ => some true
    | _ => none
  | .func _ _ _, .nilFunc => match T.get t with
    | some ⟨.func, _, _, _⟩ => some false
    | _ => none
  | .agg xs, .agg ys => match T.get t with
    | some ⟨.struct fs true, _, _, _⟩ => eqCells T fs xs.toList ys.toList
    | _ => none
  | _, _ => none
def abin (T : Tr TI) (h : AHeap) (op : BinOp) (t : Nat) (x y : Value) : Option Value :=
  match x, y with
  | .int k a, .int j b =>
    match op with
    | .shl | .shr => ashift op k a b
    | _ => if k = j then aint op k a b else none
  | .string a, .string b => astr op a b
  | _, _ =>
    match op with
    | .eql => (aeq T h t x y).map .bool
    | .neq => (aeq T h t x y).map fun b => .bool (!b)
    | _ => none
def aun (op : UnOp) (x : Value) : Option Value :=
  match op, x with
  | .neg, .int k n => some (.int k (k.wrap (0 - n)))
  | .xor, .int k n => aint .xor k (if k.signed then -1 else k.max) n
  | .not, .bool b => some (.bool (!b))
  | _, _ => none
def bytesOfCells : List Value → Option (List UInt8)
  | [] => some []
  | .int .u8 n :: r => match bytesOfCells r with | some l => some (UInt8.ofNat n.toNat :: l) | none => none
  | _ => none
def aconv (T : Tr TI) (h : AHeap) (nid src dst : Nat) (x : Value) : Option (Value × AHeap) :=
  match T.get src, T.get dst, x with
  | some _, some ⟨.int k, _, _, _⟩, .int _ n => some (.int k (k.wrap n), h)
  | some _, some ⟨.string, _, _, _⟩, .string s => some (.string s, h)
  | some _, some ⟨.slice e, _, _, _⟩, .string s => match T.get e with
    | some ⟨.int .u8, 1, 1, _⟩ => some (.slice (some ⟨nid, 0, none⟩) (bl s).length (CAPX + 1), h.new nid (.cells ((bl s).map byteV) false))
    | _ => none
  | some ⟨.slice e, _, _, _⟩, some ⟨.string, _, _, _⟩, .slice none 0 0 => match T.get e with
    | some ⟨.int .u8, _, _, _⟩ => some (.string (lb []), h)
    | _ => none
  | some ⟨.slice e, _, _, _⟩, some ⟨.string, _, _, _⟩, .slice (some ⟨id, o, none⟩) len _ => match T.get e, rd h id with
    | some ⟨.int .u8, _, _, _⟩, some cs => match cut cs o len with
      | some r => match bytesOfCells r with | some l => some (.string (lb l), h) | none => none
      | none => none
    | _, _ => none
  | some ⟨.slice _, _, _, _⟩, some ⟨.slice e, _, _, _⟩, .slice (some ⟨id, o, none⟩) len cap =>
    bif Nat.beq src dst && Nat.blt 0 len then (match T.get e, h.get id with
    | some ⟨.int .u8, _, _, _⟩, some (.cells cs true) => some (.slice (some ⟨id, o, none⟩) len cap, h.set id (.cells cs false))
    | _, _ => none) else none
  | _, _, _ => none
def nat? (x : Value) : Option Nat :=
  match x with
  | .int _ n => if 0 ≤ n then some n.toNat else none
  | _ => none
def optNat (x : Option Value) (d : Nat) : Option Nat :=
  match x with
  | none => some d
  | some v => nat? v
def afieldAddr (T : Tr TI) (s : Nat) (x : Value) (f : Nat) : Option Value :=
  match x with
  | .pointer (some ⟨id, o, none⟩) => match T.get s with
    | some ⟨.struct fs _, _, _, _⟩ => match fs[f]? with
      | some (off, t) => match T.get t with
        | some i => bif Nat.beq i.size 0 then none else some (.pointer (some ⟨id, o + off, none⟩))
        | none => none
      | none => none
    | _ => none
  | _ => none
def part? (T : Tr TI) (t : Nat) (cs : List Value) (off : Nat) : Option Value :=
  match T.get t with
  | some i => bif i.k.agg then (match cut cs off i.size with | some r => some (.agg ⟨r⟩) | none => none) else cs[off]?
  | none => none
def afield (T : Tr TI) (s : Nat) (x : Value) (f : Nat) : Option Value :=
  match x with
  | .agg cs => match T.get s with
    | some ⟨.struct fs _, _, _, _⟩ => match fs[f]? with
      | some (off, t) => part? T t cs.toList off
      | none => none
    | _ => none
  | _ => none
def aindexAddr (T : Tr TI) (t : Nat) (x ix : Value) : Option Value :=
  match ix with
  | .int _ i => match T.get t, x with
    | some ⟨.array n e, _, _, _⟩, .pointer (some ⟨id, o, none⟩) => match T.get e with
      | some ei => if 0 ≤ i ∧ i < n then some (.pointer (some ⟨id, o + i.toNat * ei.size, none⟩)) else none
      | none => none
    | some ⟨.slice e, _, _, _⟩, .slice (some ⟨id, o, none⟩) len _ => match T.get e with
      | some ei => if 0 ≤ i ∧ i < len then some (.pointer (some ⟨id, o + i.toNat * ei.size, none⟩)) else none
      | none => none
    | _, _ => none
  | _ => none
def aindex (T : Tr TI) (t : Nat) (x ix : Value) : Option Value :=
  match ix with
  | .int _ i => match T.get t, x with
    | some ⟨.array n e, _, _, _⟩, .agg cs => match T.get e with
      | some ei => if 0 ≤ i ∧ i < n then part? T e cs.toList (i.toNat * ei.size) else none
      | none => none
    | some ⟨.string, _, _, _⟩, .string s => if 0 ≤ i then (match (bl s)[i.toNat]? with | some b => some (byteV b) | none => none) else none
    | _, _ => none
  | _ => none
/-- the end of what may be sliced of a slice -/
def room (h : AHeap) (sz id o len cap : Nat) (hi : Nat) : Bool :=
  bif Nat.blt cap CAPX then Nat.ble hi cap
  else bif Nat.beq cap (CAPX + sz) then (bif Nat.ble hi len then true else match h.get id with | some (.cells cs _) => Nat.ble (o + hi * sz) cs.length | _ => false) else false
def aslice (T : Tr TI) (h : AHeap) (t : Nat) (x : Value) (lo hi mx : Option Value) : Option Value :=
  match T.get t, x with
  | some ⟨.string, _, _, _⟩, .string s => match mx, optNat lo 0, optNat hi (bl s).length with
    | none, some l, some u => bif Nat.ble l u && Nat.ble u (bl s).length then some (.string (lb (((bl s).drop l).take (u - l)))) else none
    | _, _, _ => none
  | some ⟨.slice e, _, _, _⟩, .slice none 0 0 => match T.get e, mx, optNat lo 0, optNat hi 0 with
    | some _, none, some 0, some 0 => some (.slice none 0 0)
    | _, _, _, _ => none
  | some ⟨.slice e, _, _, _⟩, .slice (some ⟨id, o, none⟩) len cap => match T.get e with
    | some ei =>
      bif Nat.beq ei.size 0 then none else
      match mx, optNat lo 0, optNat hi len with
      | none, some l, some u =>
        bif Nat.ble l u && room h ei.size id o len cap u then
          (bif Nat.blt cap CAPX then some (.slice (some ⟨id, bif Nat.beq cap l then o else o + l * ei.size, none⟩) (u - l) (cap - l))
           else some (.slice (some ⟨id, o + l * ei.size, none⟩) (u - l) cap))
        else none
      | some m, some l, some u => match nat? m with
        | some m => bif hi.isSome && Nat.ble l u && Nat.ble u m && Nat.blt m CAPX && room h ei.size id o len cap m then some (.slice (some ⟨id, bif Nat.beq m l then o else o + l * ei.size, none⟩) (u - l) (m - l)) else none
        | none => none
      | _, _, _ => none
    | none => none
  | some ⟨.array n e, _, _, _⟩, .pointer (some ⟨id, o, none⟩) => match T.get e with
    | some ei => match mx, optNat lo 0, optNat hi n with
      | none, some l, some u => bif Nat.ble l u && Nat.ble u n && Nat.blt n CAPX then some (.slice (some ⟨id, bif Nat.beq n l then o else o + l * ei.size, none⟩) (u - l) (n - l)) else none
      | _, _, _ => none
    | none => none
  | _, _ => none

/-! ### maps -/
def keyEq (x y : Value) : Option Bool :=
  match x, y with
  | .int j a, .int k b => if j = k then some (a == b) else none
  | .string a, .string b => some (eqB (bl a) (bl b))
  | _, _ => none
def mget : List (Value × Value) → Value → Option (Option Value)
  | [], _ => some none
  | (k, v) :: r, x => match keyEq x k with
    | some true => some (some v)
    | some false => mget r x
    | none => none
/-- in whatever order the entries lie -/
def fget (l : List (Value × Value)) (x : Value) : Option (Option Value) :=
  bif l.all (fun p => (keyEq x p.1).isSome) && Nat.ble (l.filter fun p => (keyEq x p.1).getD false).length 1 then mget l x else none
def mput : List (Value × Value) → Value → Value → Option (List (Value × Value))
  | [], x, u => some [(x, u)]
  | (k, v) :: r, x, u => match keyEq x k with
    | some true => some ((x, u) :: r)
    | some false => match mput r x u with | some l => some ((k, v) :: l) | none => none
    | none => none
def mdel : List (Value × Value) → Value → Option (List (Value × Value))
  | [], _ => some []
  | (k, v) :: r, x => match keyEq x k with
    | some true => some r
    | some false => match mdel r x with | some l => some ((k, v) :: l) | none => none
    | none => none
def isKey (T : Tr TI) (kt : Nat) (x : Value) : Bool :=
  match T.get kt, x with
  | some ⟨.int k, _, _, _⟩, .int j _ => decide (k = j)
  | some ⟨.string, _, _, _⟩, .string _ => true
  | _, _ => false
def alookup (T : Tr TI) (h : AHeap) (t : Nat) (m x : Value) (ok : Bool) : Option Value :=
  match T.get t with
  | some ⟨.map kt et, _, _, _⟩ => match T.get et with
    | some ei => bif isKey T kt x then
        (match (match m with
          | .map none => some none
          | .map (some id) => (match h.get id with | some (.map l) => mget l x | some (.fmap l) => fget l x | _ => none)
          | _ => none) with
        | some r => let v := r.getD ei.zero; some (bif ok then .tuple #[v, .bool r.isSome] else v)
        | none => none) else none
    | none => none
  | _ => none
def amapUpdate (T : Tr TI) (h : AHeap) (t : Nat) (m x u : Value) : Option AHeap :=
  match T.get t, m with
  | some ⟨.map kt _, _, _, _⟩, .map (some id) => bif isKey T kt x then (match h.get id with
    | some (.map l) => match mput l x u with | some r => some (h.set id (.map r)) | none => none
    | _ => none) else none
  | _, _ => none
def adelete (T : Tr TI) (h : AHeap) (t : Nat) (m x : Value) : Option AHeap :=
  match T.get t, m with
  | some ⟨.map kt _, _, _, _⟩, .map none => bif isKey T kt x then some h else none
  | some ⟨.map kt _, _, _, _⟩, .map (some id) => bif isKey T kt x then (match h.get id with
    | some (.map l) => match mdel l x with | some r => some (h.set id (.map r)) | none => none
    | _ => none) else none
  | _, _ => none

/-! ### built-in functions -/
def srcCells (h : AHeap) (sz : Nat) (x : Value) : Option (Nat × List Value) :=
  match x with
  | .slice none 0 0 => some (0, [])
  | .slice (some ⟨id, o, none⟩) n _ => match rd h id with
    | some cs => match cut cs o (n * sz) with | some r => some (n, r) | none => none
    | none => none
  | .string s => bif Nat.beq sz 1 then some ((bl s).length, (bl s).map byteV) else none
  | _ => none
def fits (need bytes : Nat) : Bool := Nat.ble ((2 * need + 192) * bytes) 281474976710656 && Nat.ble need 4611686018427387904
def aappend (T : Tr TI) (h : AHeap) (nid : Nat) (ts : List Nat) (s x : Value) : Option (Value × AHeap) :=
  match ts with
  | [st, xt] => match T.get st, T.get xt with
    | some ⟨.slice e, _, _, _⟩, some xi => match xi.k, T.get e with
      | .int _, _ => none
      | _, some ei =>
        bif Nat.beq ei.size 0 then none else
        bif !(Nat.beq ei.zero.cells.toList.length ei.size) then none else
        match srcCells h ei.size x with
        | none => none
        | some (n, news) =>
          bif ones news then
          (match s with
          | .slice none 0 0 => bif Nat.beq n 0 then some (s, h) else bif fits n ei.bytes then some (.slice (some ⟨nid, 0, none⟩) n (CAPX + ei.size), h.new nid (.cells news true)) else none
          | .slice (some ⟨id, o, none⟩) len cap =>
            bif Nat.beq n 0 then some (s, h) else
            bif fits (len + n) ei.bytes then
              (bif Nat.ble (len + n) len then none else
               bif room h ei.size id o 0 cap (len + n) then (match aput h id (o + len * ei.size) news with | some h' => some (.slice (some ⟨id, o, none⟩) (len + n) cap, h') | none => none)
               else match h.get id with
                | some (.cells cs z) => match cut cs o (len * ei.size) with
                  | some old => bif Nat.blt cap CAPX then some (.slice (some ⟨nid, 0, none⟩) (len + n) (CAPX + ei.size), h.new nid (.cells (old ++ news) true))
                    else bif Nat.beq cap (CAPX + ei.size) then some (.slice (some ⟨nid, 0, none⟩) (len + n) (CAPX + ei.size), (h.kill id).new nid (.cells (old ++ news) z)) else none
                  | none => none
                | some (.ro cs) => match cut cs o (len * ei.size) with
                  | some old => bif Nat.blt cap CAPX then some (.slice (some ⟨nid, 0, none⟩) (len + n) (CAPX + ei.size), h.new nid (.cells (old ++ news) true)) else none
                  | none => none
                | _ => none)
            else none
          | _ => none) else none
      | _, none => none
    | _, _ => none
  | _ => none
/-- the first k of what is read -/
def shrink (x : Value) (k : Nat) : Value :=
  match x with
  | .slice a _ c => .slice a k c
  | .string s => .string (lb ((bl s).take k))
  | v => v
def lenOf? (x : Value) : Option Nat :=
  match x with
  | .slice _ n _ => some n
  | .string s => some (bl s).length
  | _ => none
def acopy (T : Tr TI) (h : AHeap) (ts : List Nat) (d x : Value) : Option (Value × AHeap) :=
  match ts, d with
  | dt :: _, .slice (some ⟨id, o, none⟩) dlen _ => match T.get dt with
    | some ⟨.slice e, _, _, _⟩ => match T.get e with
      | some ei => match lenOf? x with
        | some n => match srcCells h ei.size (shrink x (Nat.min n dlen)) with
          | some (k, news) => match aput h id o news with | some h' => some (.int .i64 ((Nat.min n dlen : Nat) : Int), h') | none => none
          | none => none
        | none => none
      | none => none
    | _ => none
  | _, _ => none
def alen (T : Tr TI) (h : AHeap) (t : Nat) (x : Value) : Option Value :=
  match T.get t, x with
  | some ⟨.string, _, _, _⟩, .string s => some (.int .i64 ((bl s).length : Int))
  | some ⟨.slice _, _, _, _⟩, .slice _ n _ => some (.int .i64 (n : Int))
  | some ⟨.array n _, _, _, _⟩, _ => some (.int .i64 (n : Int))
  | some ⟨.map _ _, _, _, _⟩, .map none => some (.int .i64 0)
  | some ⟨.map _ _, _, _, _⟩, .map (some id) => match h.get id with
    | some (.map l) => some (.int .i64 (l.length : Int))
    | _ => none
  | _, _ => none
def aclear (T : Tr TI) (h : AHeap) (t : Nat) (x : Value) : Option AHeap :=
  match x with
  | .map none => some h
  | .slice none _ _ => some h
  | .slice (some _) 0 _ => some h
  | .map (some id) => match h.get id with | some (.map _) => some (h.set id (.map [])) | _ => none
  | .slice (some ⟨id, o, none⟩) n _ => match T.get t with
    | some ⟨.slice e, _, _, _⟩ => match T.get e with
      | some ei => aput h id o (reps ei.zero.cells.toList n)
      | none => none
    | _ => none
  | _ => none
def aminmax (mx : Bool) : Int → IntKind → List Value → Option Value
  | x, k, [] => some (.int k x)
  | x, k, .int _ y :: r => aminmax mx (bif mx then (if y > x then y else x) else (if y < x then y else x)) k r
  | _, _, _ => none
def abuiltin (T : Tr TI) (h : AHeap) (nid : Nat) (b : Builtin) (ts : List Nat) (args : List Value) : Option (Value × AHeap) :=
  match b, args with
  | .len, [x] => match ts with
    | t :: _ => match alen T h t x with | some v => some (v, h) | none => none
    | [] => none
  | .append, [s, x] => aappend T h nid ts s x
  | .copy, [d, x] => acopy T h ts d x
  | .delete, [m, k] => match ts with
    | t :: _ => match adelete T h t m k with | some h' => some (.tuple #[], h') | none => none
    | [] => none
  | .clear, [x] => match ts with
    | t :: _ => match T.get t, aclear T h t x with | some _, some h' => some (.tuple #[], h') | _, _ => none
    | [] => none
  | .min, .int k x :: r => match aminmax false x k r with | some v => some (v, h) | none => none
  | .max, .int k x :: r => match aminmax true x k r with | some v => some (v, h) | none => none
  | _, _ => none

/-! ### an operation -/
def aop (T : Tr TI) (ρ : Operand → Value) (h : AHeap) (nid : Nat) (op : Op) : Option (Value × AHeap) :=
  let v (r : Option Value) : Option (Value × AHeap) := match r with | some x => some (x, h) | none => none
  let u (r : Option AHeap) : Option (Value × AHeap) := match r with | some h' => some (undef, h') | none => none
  match op with
  | .move x => some (ρ x, h)
  | .assign x => some (ρ x, h)
  | .pick c a b => match ρ c with | .bool true => some (ρ a, h) | .bool false => some (ρ b, h) | _ => none
  | .alloc e => match T.get e with | some i => aneu h nid i.zero | none => none
  | .box _ x => aneu h nid (ρ x)
  | .build t ps => v (abuild T t (ps.toList.map fun p => (p.1, ρ p.2)))
  | .buildSlice t len ps => abuildSlice T h nid t len (ps.toList.map fun p => (p.1, ρ p.2))
  | .load t a => v (aload T h t (ρ a))
  | .store t a x => u (astore T h t (ρ a) (ρ x))
  | .nilCheck x => match ρ x with
    | .pointer none | .nilIface | .nilFunc => none
    | .func (.method _) _ _ => none
    | .chan _ => none
    | y => some (y, h)
  | .binOp op t x y _ => v (abin T h op t (ρ x) (ρ y))
  | .unOp op _ x => v (aun op (ρ x))
  | .convert s d x => aconv T h nid s d (ρ x)
  | .makeInterface t x => match T.get t with
    | some ⟨.iface, _, _, _⟩ => none
    | some _ => some (.iface t (ρ x), h)
    | none => none
  | .makeFunc fn first cap => some (.func fn (first.map ρ) (cap.map ρ), h)
  | .makeMap t none => some (.map (some nid), h.new nid (.map []))
  | .makeSlice t l c => match T.get t, nat? (ρ l), nat? (ρ c) with
    | some ⟨.slice e, _, _, _⟩, some l, some c => match T.get e with
      | some i => bif Nat.ble l c && Nat.ble (c * (i.bytes + 1)) 281474976710656 && Nat.beq i.zero.cells.toList.length i.size then some (.slice (some ⟨nid, 0, none⟩) l c, h.new nid (.cells (reps i.zero.cells.toList c) true)) else none
      | none => none
    | _, _, _ => none
  | .slice t x lo hi mx => v (aslice T h t (ρ x) (lo.map ρ) (hi.map ρ) (mx.map ρ))
  | .fieldAddr s x f => v (afieldAddr T s (ρ x) f)
  | .field s x f => v (afield T s (ρ x) f)
  | .indexAddr t x i => v (aindexAddr T t (ρ x) (ρ i))
  | .index t x i => v (aindex T t (ρ x) (ρ i))
  | .lookup t m k ok => v (alookup T h t (ρ m) (ρ k) ok)
  | .mapUpdate t m k x => u (amapUpdate T h t (ρ m) (ρ k) (ρ x))
  | .insert t m k x => u (amapUpdate T h t (ρ m) (ρ k) (ρ x))
  | .extract x i => match ρ x with | .tuple vs => v vs.toList[i]? | _ => none
  | .typeAssert x _ t ok => match T.get t, ρ x with
    | some ⟨.iface, _, _, _⟩, _ => none
    | some i, .iface u y => if u = t then some (bif ok then .tuple #[y, .bool true] else y, h) else bif ok then some (.tuple #[i.zero, .bool false], h) else none
    | _, _ => none
  | .range t x => match T.get t, ρ x with
    | some ⟨.string, _, _, _⟩, .string s => some (.pointer (some ⟨nid, 0, none⟩), h.new nid (.siter s 0))
    | _, _ => none
  | .next it true => match ρ it with
    | .pointer (some ⟨r, 0, none⟩) => match h.get r with
      | some (.siter s pos) => bif Nat.blt pos (bl s).length then
          some (.tuple #[.bool true, .int .i64 pos, .int .i32 (Utf8.decode s pos).1], h.set r (.siter s (pos + (Utf8.decode s pos).2)))
        else some (.tuple #[.bool false], h)
      | _ => none
    | _ => none
  | _ => none
end
end Go.Proofs.Ytffockklleanmaa.AM

/- The machine's runs: regions, code, calls. -/
namespace Go.Proofs.Ytffockklleanmaa.AM
open Go
set_option linter.unusedVariables false
noncomputable section

abbrev Ext := List Value → AHeap → Option (Value × AHeap)
structure Env where
  T : Tr TI
  F : Tr Func
  /-- functions whose answer is given -/
  X : Nat → Option Ext
  /-- functions without a body -/
  Y : Nat → Option Ext
  /-- methods: the type, the name, the function; the type that its receiver's pointer leads to, if it is read -/
  M : List (Nat × String × Nat × Option Nat)
  /-- iterators over a slice of numbers, from its end on -/
  R : Nat → Bool
  /-- what reading operations give where the machine alone cannot tell -/
  Tb : Op → List Value → Option Value
abbrev CallF := Nat → List Value → AHeap → Option (Value × AHeap)

def plainT (P : Program) (t : Nat) : Bool := match P.underlying t with | some .bool | some (.int _) | some .string => true | _ => false
/-- structs of numbers, texts and bools alone, whose equality is that of their cells -/
def eqOk (P : Program) (t : Nat) (fs : List Field) : Bool :=
  !P.stoodInHeld t && !P.eqGuardType P.depth t && fs.zipIdx.all (fun p => p.1.name != "_" && Nat.beq p.1.offset p.2 && plainT P p.1.type)
def tkOf (P : Program) (t : Nat) : TK :=
  match P.underlying t with
  | some .bool => .bool
  | some (.int k) => .int k
  | some .string => .string
  | some (.pointer e) => .ptr e
  | some (.slice e) => .slice e
  | some (.array n e) => .array n e
  | some (.map k e) => .map k e
  | some (.struct fs) => .struct (fs.toList.map fun f => (f.offset, f.type)) (eqOk P t fs.toList)
  | some (.func _ _ _) => .func
  | some (.interface _) => .iface
  | _ => .other
def tiOf (P : Program) (t : Nat) : Option TI :=
  match P.info? t with
  | some i => match i.zero, P.underlying t with
    | some z, some _ => some ⟨tkOf P t, i.size, i.bytes, z⟩
    | _, _ => none
  | none => none
def Tr.ofOpt {α : Type} (f : Nat → Option α) : Nat → Tr α → Tr α
  | 0, t => t
  | n + 1, t => (Tr.ofOpt f n t).put n (f n)

def methodOf : List (Nat × String × Nat × Option Nat) → Nat → String → Option (Nat × Option Nat)
  | [], _, _ => none
  | (t, n, f) :: r, u, m => bif Nat.beq t u && decide (n = m) then some f else methodOf r u m
/-- 0: reads at most; 1: lays something new; 2: anything -/
def kindOf : Op → Nat
  | .alloc _ | .box _ _ | .buildSlice _ _ _ | .makeMap _ _ | .makeSlice _ _ _ => 1
  | .store _ _ _ | .mapUpdate _ _ _ _ | .insert _ _ _ _ | .next _ _ | .convert _ _ _ | .range _ _ => 2
  | .call { callee := .builtin .len, .. } | .call { callee := .builtin .min, .. } | .call { callee := .builtin .max, .. } => 0
  | .call _ => 2
  | _ => 0
/-- what an operation gives -/
def astep0 (E : Env) (callf : CallF) (a : AAct) (h : AHeap) (nid : Nat) (o : Oper) : Option (Value × AHeap) :=
  match o.op with
  | .call c => match c.callee with
    | .value f => match aev a f with
      | .func (.func g) first cap => match E.Y g with
        | some y => y (first.toList ++ c.args.toList.map (aev a) ++ cap.toList) h
        | none => callf g (first.toList ++ c.args.toList.map (aev a) ++ cap.toList) h
      | _ => none
    | .builtin b => abuiltin E.T h nid b c.argTypes.toList (c.args.toList.map (aev a))
    | .invoke r m => match aev a r with
      | .iface t v => match methodOf E.M t m with
        | some (g, none) => callf g (v :: c.args.toList.map (aev a)) h
        | some (g, some e) => match aload E.T h e v with
          | some x => callf g (x :: c.args.toList.map (aev a)) h
          | none => none
        | none => none
      | _ => none
  | op => aop E.T (aev a) h nid op
def noDefer : Op → Bool
  | .defer _ => false
  | _ => true
def astep (E : Env) (callf : CallF) (a : AAct) (h : AHeap) (nid : Nat) (o : Oper) : Option (Value × AHeap) :=
  match astep0 E callf a h nid o with
  | some r => some r
  | none => bif Nat.beq (kindOf o.op) 0 && noDefer o.op then (match E.Tb o.op (o.op.operands.toList.map (aev a)) with
    | some v => some (v, h)
    | none => none) else none
def awants (ops : Array Oper) (a : AAct) (o : Oper) : Bool :=
  match o.guard with
  | none => true
  | some (j, want) => match ops[j]? with
    | some p => match p.dst with
      | some d => bif Nat.blt d a.n then (match a.at d with | .bool b => b == want | _ => false) else false
      | none => false
    | none => false
/-- a region in its order -/
def aseq (E : Env) (callf : CallF) (ops : Array Oper) : List Oper → AAct → AHeap → Option (AAct × AHeap)
  | [], a, h => some (a, h)
  | o :: os, a, h =>
    bif awants ops a o then
      (match astep E callf a h h.next o with
      | some (v, h') => aseq E callf ops os (a.put o.dst v) h'
      | none => none)
    else aseq E callf ops os (a.put o.dst undef) h
/-! ### a region that may be carried out in any order that its edges leave open -/
def tmpOf : Operand → Option Nat
  | .tmp t => some t
  | _ => none
/-- the places that an operation looks at -/
def looks (ops : Array Oper) (o : Oper) : List Nat :=
  o.op.operands.toList.filterMap tmpOf ++ (match o.guard with | some (j, _) => (match ops[j]? with | some p => p.dst.toList | none => []) | none => [])
def memN (x : Nat) (l : List Nat) : Bool := l.any (Nat.beq x)
def clash (ops : Array Oper) (o p : Oper) : Bool :=
  (match o.dst with | some d => memN d (looks ops p) || (match p.dst with | some e => Nat.beq d e | none => false) | none => false) || (match p.dst with | some d => memN d (looks ops o) | none => false)
/-- the places: what touches one place is in order -/
def tmpsOk (ops : Array Oper) (b : Array Nat) : List (Oper × Nat) → Bool
  | [] => true
  | (o, i) :: r => r.all (fun q => !(clash ops o q.1) || (b.getD q.2 0).testBit i) && tmpsOk ops b r
def isIn (b : Array Nat) (i j : Nat) : Bool := (b.getD j 0).testBit i
/-- what has been laid and isn't in the heap yet -/
abbrev Pend := List (Nat × AObj)
def vis (b : Array Nat) (base i : Nat) (g : AHeap) (p : Pend) : AHeap := p.foldr (fun q h => bif isIn b q.1 i then ⟨h.t.put (base + q.1) (some q.2), h.next⟩ else h) g
def veq1 : Value → Value → Bool
  | .bool a, .bool b => a == b
  | .int j a, .int k b => decide (j = k) && a == b
  | .string a, .string b => eqB (bl a) (bl b)
  | .pointer none, .pointer none => true
  | .pointer (some ⟨i, o, none⟩), .pointer (some ⟨j, p, none⟩) => Nat.beq i j && Nat.beq o p
  | .slice none l c, .slice none m d => Nat.beq l m && Nat.beq c d
  | .slice (some ⟨i, o, none⟩) l c, .slice (some ⟨j, p, none⟩) m d => Nat.beq i j && Nat.beq o p && Nat.beq l m && Nat.beq c d
  | .map none, .map none => true
  | .map (some i), .map (some j) => Nat.beq i j
  | .nilFunc, .nilFunc => true
  | .nilIface, .nilIface => true
  | _, _ => false
def veqs : List Value → List Value → Bool
  | [], [] => true
  | a :: x, b :: y => veq1 a b && veqs x y
  | _, _ => false
def veq0 : Value → Value → Bool
  | .agg x, .agg y => veqs x.toList y.toList
  | .tuple x, .tuple y => veqs x.toList y.toList
  | a, b => veq1 a b
def veq : Value → Value → Bool
  | .iface t x, .iface u y => Nat.beq t u && veq0 x y
  | a, b => veq0 a b
/-- what looks at nothing but its operands -/
def pureOp : Op → Bool
  | .move _ | .assign _ | .nilCheck _ | .fieldAddr _ _ _ | .field _ _ _ | .indexAddr _ _ _ | .extract _ _ | .unOp _ _ _ | .makeInterface _ _ | .makeFunc _ _ _ | .build _ _ => true
  | _ => false
/-- what was done: the place, what it looked at, what it gave -/
structure DRec where
  i : Nat
  o : Oper
  a : AAct
  v : Value
structure DSt where
  a : AAct
  g : AHeap
  p : Pend
  /-- those that read -/
  rs : List DRec
  /-- those that write, the last one ahead; the heap and what lay beside it ahead of each -/
  ws : List (Nat × AHeap × Pend)
def dstep (E : Env) (callf : CallF) (ops : Array Oper) (b : Array Nat) (base : Nat) (o : Oper) (i : Nat) (s : DSt) : Option DSt :=
  bif !(awants ops s.a o) then some { s with a := s.a.put o.dst undef }
  else match kindOf o.op with
    | 0 => match astep E callf s.a (vis b base i s.g s.p) (base + i) o with
      | some (v, _) => some { s with a := s.a.put o.dst v, rs := bif pureOp o.op then s.rs else ⟨i, o, s.a, v⟩ :: s.rs }
      | none => none
    | 1 => match astep E callf s.a ⟨.nil, base + i⟩ (base + i) o with
      | some (v, h) => match h.get (base + i) with
        | some x => some { s with a := s.a.put o.dst v, p := (i, x) :: s.p }
        | none => none
      | none => none
    | _ => bif (match s.ws with | [] => true | (j, _) :: _ => isIn b j i) then
        (match astep E callf s.a (vis b base i s.g s.p) (base + i) o with
        | some (v, g') => some { s with a := s.a.put o.dst v, g := g', p := s.p.filter (fun q => !(isIn b q.1 i)), ws := (i, s.g, s.p) :: s.ws }
        | none => none) else none
def dgo (E : Env) (callf : CallF) (ops : Array Oper) (b : Array Nat) (base : Nat) : List (Oper × Nat) → DSt → Option DSt
  | [], s => some s
  | (o, i) :: r, s => match dstep E callf ops b base o i s with
    | some s' => dgo E callf ops b base r s'
    | none => none
/-- the heaps at which a reader may come, the last one first: those ahead of writers that don't come ahead of it, and behind writers that don't wait for it -/
def reads (E : Env) (callf : CallF) (b : Array Nat) (base : Nat) (d : DRec) : AHeap → Pend → List (Nat × AHeap × Pend) → Bool
  | g, p, ws =>
    let here : Bool := match astep E callf d.a (vis b base d.i g p) (base + d.i) d.o with | some (v, _) => veq v d.v | none => false
    match ws with
    | [] => here
    | (j, g', p') :: r =>
      (isIn b d.i j || here) && (isIn b j d.i || reads E callf b base d g' p' r)
def adraw0 (E : Env) (callf : CallF) (ops : Array Oper) (a : AAct) (h : AHeap) : Option (AAct × AHeap) :=
  let b := Region.before ops
  let base := h.next
  let l := ops.toList.zipIdx
  bif tmpsOk ops b l && l.all (fun q => q.1.after.all fun e => !(Region.binds .any e) || Nat.blt e.on q.2) then
    match dgo E callf ops b base l ⟨a, ⟨h.t, base + ops.size⟩, [], [], []⟩ with
    | some s => bif s.rs.all (fun d => reads E callf b base d s.g s.p s.ws) then some (s.a, s.p.foldr (fun q h => ⟨h.t.put (base + q.1) (some q.2), h.next⟩) s.g) else none
    | none => none
  else none
/-! ### a map that is laid with its entries, in whatever order -/
def isInsert : Op → Bool
  | .insert _ _ _ _ => true
  | _ => false
structure MSt where
  a : AAct
  m : Option Nat
  ps : List (Nat × Value × Value)
def mstep (E : Env) (callf : CallF) (b : Array Nat) (base : Nat) (o : Oper) (i : Nat) (s : MSt) : Option MSt :=
  match o.guard with
  | some _ => none
  | none => match o.op, s.m with
    | .makeMap _ none, none => some ⟨s.a.put o.dst (.map (some (base + i))), some i, s.ps⟩
    | .insert t mx kx x, some j => match aev s.a mx, E.T.get t with
      | .map (some id), some ⟨.map kt _, _, _, _⟩ => bif Nat.beq id (base + j) && isIn b j i && isKey E.T kt (aev s.a kx) then some ⟨s.a.put o.dst undef, some j, s.ps ++ [(i, aev s.a kx, aev s.a x)]⟩ else none
      | _, _ => none
    | op, m => bif pureOp op then (match astep E callf s.a ⟨.nil, 0⟩ 0 o with
      | some (v, _) => some ⟨s.a.put o.dst v, m, s.ps⟩
      | none => none) else none
def mgo (E : Env) (callf : CallF) (b : Array Nat) (base : Nat) : List (Oper × Nat) → MSt → Option MSt
  | [], s => some s
  | (o, i) :: r, s => match mstep E callf b base o i s with
    | some s' => mgo E callf b base r s'
    | none => none
def apartKeys (ps : List (Nat × Value × Value)) : Bool := ps.all fun p => ps.all fun q => Nat.beq p.1 q.1 || (match keyEq p.2.1 q.2.1 with | some false => true | _ => false)
def adrawM (E : Env) (callf : CallF) (ops : Array Oper) (a : AAct) (h : AHeap) : Option (AAct × AHeap) :=
  let b := Region.before ops
  let base := h.next
  let l := ops.toList.zipIdx
  bif tmpsOk ops b l && l.all (fun q => q.1.after.all fun e => !(Region.binds .any e) || Nat.blt e.on q.2) then
    match mgo E callf b base l ⟨a, none, []⟩ with
    | some ⟨a', some j, ps⟩ => bif apartKeys ps then some (a', ⟨h.t.put (base + j) (some (.fmap (ps.map (·.2)))), base + ops.size⟩) else none
    | _ => none
  else none
def adraw (E : Env) (callf : CallF) (ops : Array Oper) (a : AAct) (h : AHeap) : Option (AAct × AHeap) :=
  bif ops.toList.any (fun o => isInsert o.op) then adrawM E callf ops a h else adraw0 E callf ops a h
def aloop (f : AAct → AHeap → Option (Exit × AAct × AHeap)) : Nat → AAct → AHeap → Option (Exit × AAct × AHeap)
  | 0, _, _ => none
  | n + 1, a, h => match f a h with
    | some (.normal, a', h') => aloop f n a' h'
    | r => r
/-! ### a range over an iterator (slices.Backward over numbers) -/
def intsOf : List Value → Option (List Int)
  | [] => some []
  | .int .i64 n :: r => match intsOf r with | some l => some (n :: l) | none => none
  | _ => none
/-- what the iterator reads: the slice in its box -/
def backList (h : AHeap) (bx o : Nat) : Option (List Int) :=
  match rd h bx with
  | some cs => match cs[o]? with
    | some (.slice A len cap) => bif Nat.ble len 16777216 then (bif Nat.beq len 0 then some [] else match A with
      | some ⟨id, p, none⟩ => match rd h id with
        | some ds => match cut ds p len with | some r => intsOf r | none => none
        | none => none
      | _ => none) else none
    | _ => none
  | none => none
def eqInts : List Int → List Int → Bool
  | [], [] => true
  | a :: x, b :: y => a == b && eqInts x y
  | _, _ => false
def putL (a : AAct) : List Nat → List Value → AAct
  | p :: ps, v :: vs => putL (a.put (some p) v) ps vs
  | _, _ => a
def sameList (h : AHeap) (bx o : Nat) (vs : List Int) : Bool := match backList h bx o with | some l => eqInts l vs | none => false
def arange (full assign : AAct → AHeap → Option (Exit × AAct × AHeap)) (a : AAct) (ps : List Nat) (bx o : Nat) (vs : List Int) : Nat → AHeap → Option (Exit × AHeap)
  | 0, h => some (.normal, h)
  | m + 1, h => bif sameList h bx o vs then
      (match assign (putL a ps [.int .i64 (m : Int), .int .i64 (vs.getD m 0)]) h with
      | some (.normal, a1, h1) => match full a1 h1 with
        | some (.normal, _, h2) => arange full assign a ps bx o vs m h2
        | some (.ret, _, h2) => some (.ret, h2)
        | some (.exit id, _, h2) => some (.exit id, h2)
        | _ => none
      | _ => none) else none
def acode (E : Env) (callf : CallF) (n : Nat) : Code → AAct → AHeap → Option (Exit × AAct × AHeap)
  | .skip, a, h => some (.normal, a, h)
  | .label _, a, h => some (.normal, a, h)
  | .region _ ops draw, a, h => match (bif draw then adraw E callf ops a h else aseq E callf ops ops.toList a h) with
    | some (a', h') => some (.normal, a', h')
    | none => none
  | .seq x y, a, h => match acode E callf n x a h with
    | some (.normal, a', h') => acode E callf n y a' h'
    | r => r
  | .cond c x y, a, h => match aev a c with
    | .bool true => acode E callf n x a h
    | .bool false => acode E callf n y a h
    | _ => none
  | .block id c, a, h => match acode E callf n c a h with
    | some (.exit j, a', h') => some (bif Nat.beq j id then .normal else .exit j, a', h')
    | r => r
  | .loop c, a, h => aloop (acode E callf n c) n a h
  | .exit id, a, h => some (.exit id, a, h)
  | .ret, a, h => some (.ret, a, h)
  | .rangeFunc f ps x y, a, h => match aev a f with
    | .func (.func g) first cap => match first.toList, cap.toList with
      | [], [.pointer (some ⟨bx, o, none⟩)] => bif E.R g && Nat.beq ps.size 2 then (match backList h bx o with
        | some vs => match arange (acode E callf n y) (acode E callf n x) a ps.toList bx o vs vs.length h with
          | some (e, h') => some (e, a, h')
          | none => none
        | none => none) else none
      | _, _ => none
    | _ => none
  | _, _, _ => none
def aresults (T : Tr TI) (h : AHeap) (a : AAct) : List ResultVar → Option (List Value)
  | [] => some []
  | .tmp t :: r => match aresults T h a r with | some l => some (a.at t :: l) | none => none
  | .cell p t :: r => match aload T h t (a.at p), aresults T h a r with | some v, some l => some (v :: l) | _, _ => none
def oneOf : List Value → Value
  | [v] => v
  | l => .tuple ⟨l⟩
def acall (E : Env) : Nat → CallF
  | 0, _, _, _ => none
  | n + 1, f, args, h => match E.X f with
    | some x => x args h
    | none => match E.F.get f with
      | some fn => match fn.body with
        | some c => match acode E (acall E n) n c ⟨args.length + (fn.ntmps - args.length), Tr.ofList args 0 .nil⟩ h with
          | some (.normal, a, h') | some (.ret, a, h') => match aresults E.T h' a fn.results.toList with
            | some l => some (oneOf l, h')
            | none => none
          | _ => none
        | none => none
      | none => none
end
end Go.Proofs.Ytffockklleanmaa.AM

/- What relates the machine's values and heap to the program's. -/
namespace Go.Proofs.Ytffockklleanmaa.AM
open Go
set_option linter.unusedVariables false
set_option linter.unusedSectionVars false
set_option linter.unusedSimpArgs false

/-! ### tables -/
theorem beqd (n m : Nat) : Nat.beq n m = decide (n = m) := by
  rw [Bool.eq_iff_iff, decide_eq_true_iff]
  exact ⟨Nat.eq_of_beq_eq_true, fun e => by subst e; exact Nat.beq_refl n⟩
theorem bled (n m : Nat) : Nat.ble n m = decide (n ≤ m) := by
  rw [Bool.eq_iff_iff, decide_eq_true_iff]
  exact ⟨Nat.le_of_ble_eq_true, Nat.ble_eq_true_of_le⟩
theorem bltd (n m : Nat) : Nat.blt n m = decide (n < m) := by
  unfold Nat.blt; rw [bled]; rfl
theorem half_lt {k f : Nat} (h : k < f + 1) (h0 : k ≠ 0) : (k - 1) / 2 < f := by omega
theorem Tr.get_nil0 {α : Type} (j : Nat) : (Tr.nil : Tr α).get j = none := rfl
theorem Tr.get_set {α : Type} (v : Option α) : ∀ (f : Nat) (t : Tr α) (k j : Nat), k < f → (Tr.set v f t k).get j = if j = k then v else t.get j
  | 0, t, k, j, h => by omega
  | f + 1, t, k, j, h => by
    have ih := Tr.get_set v f
    have bt := beqd
    cases t with
    | nil =>
      simp only [Tr.set_nil, Tr.set_node, bt]
      by_cases h0 : k = 0
      · subst h0
        by_cases hj : j = 0
        · subst hj; simp [Tr.get_node, Tr.get_nil0]
        · simp [Tr.get_node, Tr.get_nil0, bt, hj]
      · by_cases h1 : k % 2 = 1
        · simp only [h0, h1, decide_false, decide_true, cond_false, cond_true, Tr.get_node, Tr.get_nil0, bt]
          by_cases hj : j = 0
          · subst hj; simp; omega
          · by_cases hj1 : j % 2 = 1
            · simp only [hj, hj1, decide_false, decide_true, cond_false, cond_true]
              rw [ih _ _ _ (half_lt h h0)]
              by_cases e : j = k
              · subst e; simp
              · rw [if_neg (by omega), if_neg e]; simp [Tr.get_nil0]
            · simp only [hj, hj1, decide_false, cond_false]
              rw [if_neg (by intro e; rw [e] at hj1; exact hj1 h1)]
        · simp only [h0, h1, decide_false, cond_false, Tr.get_node, Tr.get_nil0, bt]
          by_cases hj : j = 0
          · subst hj; simp; omega
          · by_cases hj1 : j % 2 = 1
            · simp only [hj, hj1, decide_false, decide_true, cond_false, cond_true]
              rw [if_neg (by intro e; rw [e] at hj1; exact h1 hj1)]
            · simp only [hj, hj1, decide_false, cond_false]
              rw [ih _ _ _ (half_lt h h0)]
              by_cases e : j = k
              · subst e; simp
              · rw [if_neg (by omega), if_neg e]; simp [Tr.get_nil0]
    | node u l r =>
      simp only [Tr.set_nil, Tr.set_node, bt]
      by_cases h0 : k = 0
      · subst h0
        by_cases hj : j = 0
        · subst hj; simp [Tr.get_node, Tr.get_nil0]
        · simp [Tr.get_node, Tr.get_nil0, bt, hj]
      · by_cases h1 : k % 2 = 1
        · simp only [h0, h1, decide_false, decide_true, cond_false, cond_true, Tr.get_node, Tr.get_nil0, bt]
          by_cases hj : j = 0
          · subst hj; simp; omega
          · by_cases hj1 : j % 2 = 1
            · simp only [hj, hj1, decide_false, decide_true, cond_false, cond_true]
              rw [ih _ _ _ (half_lt h h0)]
              by_cases e : j = k
              · subst e; simp
              · rw [if_neg (by omega), if_neg e]
            · simp only [hj, hj1, decide_false, cond_false]
              rw [if_neg (by intro e; rw [e] at hj1; exact hj1 h1)]
        · simp only [h0, h1, decide_false, cond_false, Tr.get_node, Tr.get_nil0, bt]
          by_cases hj : j = 0
          · subst hj; simp; omega
          · by_cases hj1 : j % 2 = 1
            · simp only [hj, hj1, decide_false, decide_true, cond_false, cond_true]
              rw [if_neg (by intro e; rw [e] at hj1; exact h1 hj1)]
            · simp only [hj, hj1, decide_false, cond_false]
              rw [ih _ _ _ (half_lt h h0)]
              by_cases e : j = k
              · subst e; simp
              · rw [if_neg (by omega), if_neg e]
theorem Tr.get_put {α : Type} (t : Tr α) (k j : Nat) (v : Option α) : (t.put k v).get j = if j = k then v else t.get j := Tr.get_set v (k + 1) t k j (Nat.lt_succ_self k)
theorem Tr.get_nil {α : Type} (j : Nat) : (Tr.nil : Tr α).get j = none := rfl
theorem Tr.get_ofOpt {α : Type} (f : Nat → Option α) : ∀ (n : Nat) (t : Tr α) (j : Nat), (Tr.ofOpt f n t).get j = if j < n then f j else t.get j
  | 0, t, j => by simp [Tr.ofOpt]
  | n + 1, t, j => by
    simp only [Tr.ofOpt, Tr.get_put]
    by_cases e : j = n
    · subst e; simp
    · rw [if_neg e, Tr.get_ofOpt f n t j]
      by_cases h : j < n
      · rw [if_pos h, if_pos (by omega)]
      · rw [if_neg h, if_neg (by omega)]
theorem Tr.get_ofList {α : Type} : ∀ (l : List α) (k : Nat) (t : Tr α) (j : Nat), (Tr.ofList l k t).get j = if k ≤ j ∧ j < k + l.length then l[j - k]? else t.get j
  | [], k, t, j => by rw [if_neg (by simp)]; rfl
  | x :: l, k, t, j => by
    simp only [Tr.ofList]
    rw [Tr.get_ofList l (k + 1)]
    by_cases h : k + 1 ≤ j ∧ j < k + 1 + l.length
    · rw [if_pos h, if_pos (by simp; omega)]
      obtain ⟨m, hm⟩ : ∃ m, j - k = m + 1 := ⟨j - k - 1, by omega⟩
      rw [hm, List.getElem?_cons_succ]
      congr 1
      omega
    · rw [if_neg h, Tr.get_put]
      by_cases e : j = k
      · subst e; rw [if_pos rfl, if_pos (by simp)]; simp
      · rw [if_neg e, if_neg (by simp; omega)]

/-! ### values -/
/-- what tokens stand for; what lies below the call's first block -/
class Tok where
  val : Nat → Value
  one : ∀ i, (val i).oneCell' = true
  nb : ∀ i b, val i ≠ .bool b
  low : Nat → Option Obj
variable [Tok]
/-- where an object lies: the block, the first cell, the block's cells -/
structure Loc where
  b : Nat
  d : Nat
  n : Nat
abbrev Pi := Nat → Option Loc
def CapOk (L : Loc) (o len cap cap' : Nat) : Prop := (cap < CAPX ∧ cap' = cap ∧ len ≤ cap) ∨ (∃ sz, cap = CAPX + sz ∧ 0 < sz ∧ L.d + o + cap' * sz = L.n ∧ len ≤ cap')
mutual
inductive VR (π : Pi) : Value → Value → Prop where
  | bool (b : Bool) : VR π (.bool b) (.bool b)
  | int (k : IntKind) (n : Int) : VR π (.int k n) (.int k n)
  | string (s : ByteArray) : VR π (.string s) (.string s)
  | nilP : VR π (.pointer none) (.pointer none)
  | ptr {id o : Nat} {L : Loc} (h : π id = some L) : VR π (.pointer (some ⟨id, o, none⟩)) (.pointer (some ⟨L.b, L.d + o, none⟩))
  | slice0 (l c : Nat) : VR π (.slice none l c) (.slice none l c)
  | slice {id o len cap cap' : Nat} {L : Loc} (h : π id = some L) (hc : CapOk L o len cap cap') : VR π (.slice (some ⟨id, o, none⟩) len cap) (.slice (some ⟨L.b, L.d + o, none⟩) len cap')
  | sliceE {id o cap : Nat} {a : Addr} (hc : cap = 0 ∨ (CAPX < cap ∧ ∃ L, π id = some L ∧ L.n ≤ L.d + o)) : VR π (.slice (some ⟨id, o, none⟩) 0 cap) (.slice (some a) 0 0)
  | map0 : VR π (.map none) (.map none)
  | map {id : Nat} {L : Loc} (h : π id = some L) : VR π (.map (some id)) (.map (some L.b))
  | func {fn : Fn} {fs gs cs ds : Array Value} (h1 : VRs π fs.toList gs.toList) (h2 : VRs π cs.toList ds.toList) : VR π (.func fn fs cs) (.func fn gs ds)
  | nilFunc : VR π .nilFunc .nilFunc
  | nilIface : VR π .nilIface .nilIface
  | iface {t : Nat} {v u : Value} (h : VR π v u) : VR π (.iface t v) (.iface t u)
  | agg {cs ds : Array Value} (h : VRs π cs.toList ds.toList) : VR π (.agg cs) (.agg ds)
  | tuple {cs ds : Array Value} (h : VRs π cs.toList ds.toList) : VR π (.tuple cs) (.tuple ds)
  /-- a token -/
  | tok (i : Nat) : VR π (.chan (some i)) (Tok.val i)
  /-- whatever there is -/
  | junk {u : Value} (h : u.oneCell' = true) (hb : ∀ b, u ≠ .bool b) : VR π (.chan none) u
inductive VRs (π : Pi) : List Value → List Value → Prop where
  | nil : VRs π [] []
  | cons {v u : Value} {l m : List Value} (h : VR π v u) (t : VRs π l m) : VRs π (v :: l) (u :: m)
end
theorem VRs.length {π : Pi} : ∀ {l m : List Value}, VRs π l m → l.length = m.length
  | _, _, .nil => rfl
  | _, _, .cons _ t => by simp [t.length]
theorem VRs.get {π : Pi} : ∀ {l m : List Value}, VRs π l m → ∀ (i : Nat) v, l[i]? = some v → ∃ u, m[i]? = some u ∧ VR π v u
  | _, _, .nil, i, v, h => by simp at h
  | _, _, .cons h t, 0, v, e => by simp at e; subst e; exact ⟨_, rfl, h⟩
  | _, _, .cons h t, i + 1, v, e => by simpa using t.get i v (by simpa using e)
theorem VRs.of_get {π : Pi} : ∀ {l m : List Value}, l.length = m.length → (∀ (i : Nat) v u, l[i]? = some v → m[i]? = some u → VR π v u) → VRs π l m
  | [], [], _, _ => .nil
  | [], _ :: _, h, _ => by simp at h
  | _ :: _, [], h, _ => by simp at h
  | v :: l, u :: m, h, hh => .cons (hh 0 v u rfl rfl) (VRs.of_get (by simpa using h) (fun i a b ha hb => hh (i + 1) a b (by simpa using ha) (by simpa using hb)))
theorem VRs.append {π : Pi} : ∀ {l m l' m' : List Value}, VRs π l m → VRs π l' m' → VRs π (l ++ l') (m ++ m')
  | _, _, _, _, .nil, h => h
  | _, _, _, _, .cons a t, h => .cons a (t.append h)
theorem VRs.take {π : Pi} : ∀ {l m : List Value} (n : Nat), VRs π l m → VRs π (l.take n) (m.take n)
  | _, _, 0, _ => by simp; exact .nil
  | _, _, _ + 1, .nil => by simp; exact .nil
  | _, _, n + 1, .cons a t => by simp; exact .cons a (t.take n)
theorem VRs.drop {π : Pi} : ∀ {l m : List Value} (n : Nat), VRs π l m → VRs π (l.drop n) (m.drop n)
  | _, _, 0, h => by simpa using h
  | _, _, _ + 1, .nil => by simp; exact .nil
  | _, _, n + 1, .cons a t => by simp; exact t.drop n
def Pi.le (π π' : Pi) : Prop := ∀ id L, π id = some L → π' id = some L
theorem Pi.le.refl (π : Pi) : π.le π := fun _ _ h => h
theorem Pi.le.trans {a b c : Pi} (h : a.le b) (k : b.le c) : a.le c := fun id L e => k id L (h id L e)
mutual
theorem VR.mono {π π' : Pi} (hl : π.le π') : ∀ {v u : Value}, VR π v u → VR π' v u
  | _, _, .bool b => .bool b
  | _, _, .int k n => .int k n
  | _, _, .string s => .string s
  | _, _, .nilP => .nilP
  | _, _, .ptr h => .ptr (hl _ _ h)
  | _, _, .slice0 l c => .slice0 l c
  | _, _, .slice h hc => .slice (hl _ _ h) hc
  | _, _, .sliceE hc => .sliceE (hc.imp id (fun ⟨h1, L, h2, h3⟩ => ⟨h1, L, hl _ _ h2, h3⟩))
  | _, _, .map0 => .map0
  | _, _, .map h => .map (hl _ _ h)
  | _, _, .func h1 h2 => .func (VRs.mono hl h1) (VRs.mono hl h2)
  | _, _, .nilFunc => .nilFunc
  | _, _, .nilIface => .nilIface
  | _, _, .iface h => .iface (VR.mono hl h)
  | _, _, .agg h => .agg (VRs.mono hl h)
  | _, _, .tuple h => .tuple (VRs.mono hl h)
  | _, _, .tok i => .tok i
  | _, _, .junk h hb => .junk h hb
theorem VRs.mono {π π' : Pi} (hl : π.le π') : ∀ {l m : List Value}, VRs π l m → VRs π' l m
  | _, _, .nil => .nil
  | _, _, .cons h t => .cons (VR.mono hl h) (VRs.mono hl t)
end
/-- values that lead nowhere -/
def pv1 : Value → Bool
  | .bool _ | .int _ _ | .string _ | .pointer none | .slice none _ _ | .map none | .nilFunc | .nilIface => true
  | .func _ fs cs => fs.toList.isEmpty && cs.toList.isEmpty
  | _ => false
def pv : Value → Bool
  | .agg cs => cs.toList.all pv1
  | .tuple cs => cs.toList.all pv1
  | v => pv1 v
theorem VR.of_pv1 {π : Pi} {v : Value} (h : pv1 v = true) : VR π v v := by
  cases v with
  | bool b => exact .bool b
  | int k n => exact .int k n
  | string s => exact .string s
  | pointer a => cases a with
    | none => exact .nilP
    | some a => simp [pv1] at h
  | slice a l c => cases a with
    | none => exact .slice0 l c
    | some a => simp [pv1] at h
  | map r => cases r with
    | none => exact .map0
    | some r => simp [pv1] at h
  | func fn fs cs =>
    simp only [pv1, Bool.and_eq_true, List.isEmpty_iff] at h
    refine .func ?_ ?_
    · rw [h.1]; exact .nil
    · rw [h.2]; exact .nil
  | nilFunc => exact .nilFunc
  | nilIface => exact .nilIface
  | _ => simp [pv1] at h
theorem VRs.of_pv {π : Pi} : ∀ {l : List Value}, l.all pv1 = true → VRs π l l
  | [], _ => .nil
  | v :: l, h => by
    simp only [List.all_cons, Bool.and_eq_true] at h
    exact .cons (.of_pv1 h.1) (VRs.of_pv h.2)
theorem VR.of_pv {π : Pi} {v : Value} (h : pv v = true) : VR π v v := by
  cases v with
  | agg cs => exact .agg (.of_pv h)
  | tuple cs => exact .tuple (.of_pv h)
  | _ => exact .of_pv1 h
theorem VR.one {π : Pi} {v u : Value} (h : VR π v u) : u.oneCell' = one v := by
  cases h <;> first | rfl | exact Tok.one _ | assumption
theorem VRs.ones {π : Pi} : ∀ {l m : List Value}, VRs π l m → ones l = true → ∀ u ∈ m, u.oneCell' = true
  | _, _, .nil, _, u, hu => by simp at hu
  | _, _, .cons h t, ho, u, hu => by
    simp only [AM.ones, List.all_cons, Bool.and_eq_true] at ho
    rcases List.mem_cons.1 hu with rfl | hu
    · rw [h.one]; exact ho.1
    · exact t.ones ho.2 u hu
theorem cells_one {u : Value} (h : u.oneCell' = true) : u.cells.toList = [u] := by
  cases u <;> first | rfl | (simp [Value.oneCell'] at h; done)
theorem VR.cells {π : Pi} {v u : Value} (h : VR π v u) : VRs π v.cells.toList u.cells.toList := by
  by_cases hc : ∃ i, v = .chan i
  · obtain ⟨i, rfl⟩ := hc
    have h1 : (Value.chan i).cells.toList = [.chan i] := rfl
    rw [h1, cells_one (by cases h with | tok j => exact Tok.one _ | junk hu _ => exact hu)]
    exact .cons h .nil
  cases h <;> first
    | (simp only [Value.cells]; refine .cons ?_ .nil; first | exact .bool _ | exact .int _ _ | exact .string _ | exact .nilP | exact .slice0 _ _ | exact .map0 | exact .nilFunc | exact .nilIface | (exact .ptr ‹_›) | (exact .slice ‹_› ‹_›) | (exact .sliceE ‹_›) | (exact .map ‹_›) | (exact .func ‹_› ‹_›) | (exact .iface ‹_›) | (exact .tuple ‹_›))
    | (simp only [Value.cells]; assumption)
    | exact absurd ⟨_, rfl⟩ hc
theorem VR.undef {π : Pi} : VR π undef undef := .tuple .nil

/-! ### heaps -/
def AObj.rw : AObj → Bool
  | .ro _ => false
  | _ => true
def CR (π : Pi) (cs : List Value) (ds : Array Value) (d : Nat) : Prop := ∀ (j : Nat) v, cs[j]? = some v → ∃ u, ds[d + j]? = some u ∧ VR π v u
inductive MR (π : Pi) : List (Value × Value) → List MapEntry → Prop where
  | nil : MR π [] []
  | cons {k v : Value} {e : MapEntry} {l : List (Value × Value)} {m : List MapEntry} (hk : e.key = k) (h : VR π v e.val) (t : MR π l m) : MR π ((k, v) :: l) (e :: m)
def OR (π : Pi) (N : Nat) (o : AObj) (L : Loc) (w : World) : Prop :=
  match o with
  | .cells cs z => N ≤ L.b ∧ ∃ ds t fr, w.heap[L.b]? = some (.cells ds t fr) ∧ ds.size = L.n ∧ (z = true → fr = (0, 0)) ∧ (∀ j, j < ds.size → ¬ (fr.1 ≤ j ∧ j < fr.2)) ∧ CR π cs ds L.d
  | .ro cs => L.b < N ∧ ∃ ds t fr, w.heap[L.b]? = some (.cells ds t fr) ∧ CR π cs ds L.d
  | .map l => N ≤ L.b ∧ ∃ es clock, w.heap[L.b]? = some (.map es clock) ∧ MapKept.Stamped es clock ∧ MR π l es.toList
  | .siter s pos => N ≤ L.b ∧ L.d = 0 ∧ w.heap[L.b]? = some (.stringIter s pos)
  | .fmap l => N ≤ L.b ∧ ∃ l' es clock, List.Perm l' l ∧ w.heap[L.b]? = some (.map es clock) ∧ MapKept.Stamped es clock ∧ MR π l' es.toList
abbrev AG := Nat → Option AObj
/-- what lies below N lies as it lay -/
structure BaseOk (N : Nat) (w : World) : Prop where
  le : N ≤ w.heap.size
  low : ∀ b, b < N → w.heap[b]? = Tok.low b
theorem BaseOk.step {N : Nat} {w w' : World} (h : BaseOk N w) (hs : w.heap.size ≤ w'.heap.size) (hb : ∀ b, b < N → w'.heap[b]? = w.heap[b]?) : BaseOk N w' := ⟨Nat.le_trans h.le hs, fun b hN => (hb b hN).trans (h.low b hN)⟩
structure HR (π : Pi) (N : Nat) (g : AG) (nx : Nat) (w : World) : Prop where
  obj : ∀ id o, g id = some o → ∃ L, π id = some L ∧ OR π N o L w
  sep : ∀ i j o p L M, g i = some o → g j = some p → o.rw = true → p.rw = true → π i = some L → π j = some M → L.b = M.b → i = j
  lim : ∀ id, nx ≤ id → π id = none
  base : BaseOk N w
def Own (π : Pi) (g : AG) (b : Nat) : Prop := ∃ id o L, g id = some o ∧ o.rw = true ∧ π id = some L ∧ L.b = b
structure Stp (π : Pi) (N : Nat) (g : AG) (nx : Nat) (w : World) (π' : Pi) (g' : AG) (nx' : Nat) (w' : World) (nid : Nat) : Prop where
  le : π.le π'
  fresh : ∀ id, π id = none → id ≠ nid → id < nx → π' id = none
  hr : HR π' N g' nx' w'
  nxl : nx ≤ nx'
  os : w'.os = w.os
  tape : w'.tape = w.tape
  output : w'.output = w.output
  size : w.heap.size ≤ w'.heap.size
  blk : ∀ b, b < w.heap.size → ¬ Own π g b → w'.heap[b]? = w.heap[b]?
  own : ∀ b, Own π' g' b → Own π g b ∨ w.heap.size ≤ b
  dom : ∀ id o, g' id = some o → (∃ p, g id = some p) ∨ id = nid ∨ nx ≤ id
theorem Stp.refl {π : Pi} {N : Nat} {g : AG} {nx : Nat} {w : World} (h : HR π N g nx w) (nid : Nat) : Stp π N g nx w π g nx w nid :=
  ⟨Pi.le.refl π, fun _ h _ _ => h, h, Nat.le_refl _, rfl, rfl, rfl, Nat.le_refl _, fun _ _ _ => rfl, fun _ h => .inl h, fun _ o h => .inl ⟨o, h⟩⟩
theorem Stp.trans {π : Pi} {N : Nat} {g : AG} {nx : Nat} {w : World} {π' : Pi} {g' : AG} {nx' : Nat} {w' : World} {π'' : Pi} {g'' : AG} {nx'' : Nat} {w'' : World} {nid nid' : Nat}
    (h : Stp π N g nx w π' g' nx' w' nid) (k : Stp π' N g' nx' w' π'' g'' nx'' w'' nid') (hn : nid' = nid ∨ nx ≤ nid') : Stp π N g nx w π'' g'' nx'' w'' nid :=
  ⟨h.le.trans k.le, fun id h0 h1 h2 => k.fresh id (h.fresh id h0 h1 h2) (by rcases hn with e | e; rw [e]; exact h1; omega) (Nat.lt_of_lt_of_le h2 h.nxl), k.hr, Nat.le_trans h.nxl k.nxl, k.os.trans h.os, k.tape.trans h.tape, k.output.trans h.output, Nat.le_trans h.size k.size,
    fun b hb ho => (k.blk b (Nat.lt_of_lt_of_le hb h.size) (fun hh => by rcases h.own b hh with h1 | h1; exact ho h1; omega)).trans (h.blk b hb ho),
    fun b hb => by
      rcases k.own b hb with h1 | h1
      · exact h.own b h1
      · exact .inr (Nat.le_trans h.size h1),
    fun id o ho => by
      rcases k.dom id o ho with ⟨p, hp⟩ | h1 | h1
      · exact h.dom id p hp
      · rcases hn with e | e
        · exact .inr (.inl (h1.trans e))
        · exact .inr (.inr (by omega))
      · exact .inr (.inr (Nat.le_trans h.nxl h1))⟩
theorem CR.mono {π π' : Pi} (hl : π.le π') {cs : List Value} {ds : Array Value} {d : Nat} (h : CR π cs ds d) : CR π' cs ds d := fun j v hj => let ⟨u, h1, h2⟩ := h j v hj; ⟨u, h1, h2.mono hl⟩
theorem MR.mono {π π' : Pi} (hl : π.le π') : ∀ {l : List (Value × Value)} {m : List MapEntry}, MR π l m → MR π' l m
  | _, _, .nil => .nil
  | _, _, .cons hk h t => .cons hk (h.mono hl) (t.mono hl)
theorem OR.mono {π π' : Pi} (hl : π.le π') {N : Nat} {o : AObj} {L : Loc} {w w' : World} (h : OR π N o L w) (hb : w'.heap[L.b]? = w.heap[L.b]?) : OR π' N o L w' := by
  cases o with
  | cells cs z =>
    obtain ⟨h0, ds, t, fr, h1, h2, h3, h4, h5⟩ := h
    exact ⟨h0, ds, t, fr, hb.trans h1, h2, h3, h4, h5.mono hl⟩
  | ro cs =>
    obtain ⟨h0, ds, t, fr, h1, h2⟩ := h
    exact ⟨h0, ds, t, fr, hb.trans h1, h2.mono hl⟩
  | map l =>
    obtain ⟨h0, es, c, h1, h2, h3⟩ := h
    exact ⟨h0, es, c, hb.trans h1, h2, h3.mono hl⟩
  | siter s pos =>
    obtain ⟨h0, h1, h2⟩ := h
    exact ⟨h0, h1, hb.trans h2⟩
  | fmap l =>
    obtain ⟨h0, l', es, c, h1, h2, h3, h4⟩ := h
    exact ⟨h0, l', es, c, h1, hb.trans h2, h3, h4.mono hl⟩
theorem OR.lt {π : Pi} {N : Nat} {o : AObj} {L : Loc} {w : World} (h : OR π N o L w) : L.b < w.heap.size := by
  cases o with
  | cells cs z => obtain ⟨h0, ds, t, fr, h1, _⟩ := h; exact (Array.getElem?_eq_some_iff.1 h1).1
  | ro cs => obtain ⟨h0, ds, t, fr, h1, _⟩ := h; exact (Array.getElem?_eq_some_iff.1 h1).1
  | map l => obtain ⟨h0, es, c, h1, _⟩ := h; exact (Array.getElem?_eq_some_iff.1 h1).1
  | siter s pos => obtain ⟨h0, h1, h2⟩ := h; exact (Array.getElem?_eq_some_iff.1 h2).1
  | fmap l => obtain ⟨h0, l', es, c, h1, h2, _⟩ := h; exact (Array.getElem?_eq_some_iff.1 h2).1
theorem OR.low {π : Pi} {N : Nat} {o : AObj} {L : Loc} {w : World} (h : OR π N o L w) (ho : o.rw = true) : N ≤ L.b := by
  cases o with
  | cells cs z => exact h.1
  | ro cs => simp [AObj.rw] at ho
  | map l => exact h.1
  | siter s pos => exact h.1
  | fmap l => exact h.1
theorem OR.high {π : Pi} {N : Nat} {o : AObj} {L : Loc} {w : World} (h : OR π N o L w) (ho : o.rw = false) : L.b < N := by
  cases o <;> first | exact h.1 | simp [AObj.rw] at ho
end Go.Proofs.Ytffockklleanmaa.AM

/- How the heaps change together. -/
namespace Go.Proofs.Ytffockklleanmaa.AM
open Go
variable [Tok]
set_option linter.unusedVariables false
set_option linter.unusedSectionVars false
set_option linter.unusedSimpArgs false

def upd (g : AG) (id : Nat) (o : Option AObj) : AG := fun j => if j = id then o else g j
def Pi.put (π : Pi) (id : Nat) (L : Loc) : Pi := fun j => if j = id then some L else π j
theorem get_set (h : AHeap) (id : Nat) (o : AObj) : (h.set id o).get = upd h.get id (some o) := by
  funext j; simp only [AHeap.get, AHeap.set, Tr.get_put, upd]
theorem get_kill (h : AHeap) (id : Nat) : (h.kill id).get = upd h.get id none := by
  funext j; simp only [AHeap.get, AHeap.kill, Tr.get_put, upd]
theorem get_new (h : AHeap) (id : Nat) (o : AObj) : (h.new id o).get = upd h.get id (some o) := by
  funext j; simp only [AHeap.get, AHeap.new, Tr.get_put, upd]
theorem next_new (h : AHeap) (id : Nat) (o : AObj) : (h.new id o).next = if id < h.next then h.next else id + 1 := by
  simp only [AHeap.new, bltd]
  by_cases e : id < h.next
  · simp [e]
  · simp [e]
theorem Pi.le_put {π : Pi} {id : Nat} {L : Loc} (h : π id = none) : π.le (π.put id L) := by
  intro j M hj
  unfold Pi.put
  rw [if_neg (by intro e; rw [e, h] at hj; cases hj)]
  exact hj
theorem pi_lt {π : Pi} {N : Nat} {g : AG} {nx : Nat} {w : World} (hr : HR π N g nx w) {id : Nat} {o : AObj} (h : g id = some o) : π id ≠ none := by
  obtain ⟨L, h1, _⟩ := hr.obj id o h
  rw [h1]; simp
/-- a new object -/
theorem Stp.alloc {π : Pi} {N : Nat} {g : AG} {nx : Nat} {w w' : World} {nid n : Nat} {o : AObj} (hr : HR π N g nx w) (hn : π nid = none) (ho : o.rw = true)
    (hos : w'.os = w.os) (htape : w'.tape = w.tape) (hout : w'.output = w.output) (hsz : w.heap.size < w'.heap.size) (hblk : ∀ b, b < w.heap.size → w'.heap[b]? = w.heap[b]?)
    (hO : OR (π.put nid ⟨w.heap.size, 0, n⟩) N o ⟨w.heap.size, 0, n⟩ w') :
    Stp π N g nx w (π.put nid ⟨w.heap.size, 0, n⟩) (upd g nid (some o)) (if nid < nx then nx else nid + 1) w' nid := by
  have hle : π.le (π.put nid ⟨w.heap.size, 0, n⟩) := Pi.le_put hn
  have hgn : g nid = none := by
    cases e : g nid with
    | none => rfl
    | some p => exact absurd hn (pi_lt hr e)
  have hput : ∀ j, j ≠ nid → (π.put nid ⟨w.heap.size, 0, n⟩) j = π j := fun j h => by unfold Pi.put; rw [if_neg h]
  have hself : (π.put nid ⟨w.heap.size, 0, n⟩) nid = some ⟨w.heap.size, 0, n⟩ := by unfold Pi.put; rw [if_pos rfl]
  refine ⟨hle, fun id h0 h1 _ => by rw [hput id h1]; exact h0, ⟨?_, ?_, ?_, ?_⟩, ?_, hos, htape, hout, Nat.le_of_lt hsz, fun b hb _ => hblk b hb, ?_, fun id p hp => by
    by_cases e : id = nid
    · exact .inr (.inl e)
    · exact .inl ⟨p, by simpa only [upd, if_neg e] using hp⟩⟩
  · intro id p hp
    by_cases e : id = nid
    · subst e
      simp only [upd, if_pos] at hp
      injection hp with hp; subst hp
      exact ⟨_, hself, hO⟩
    · simp only [upd, if_neg e] at hp
      obtain ⟨L, h1, h2⟩ := hr.obj id p hp
      exact ⟨L, by rw [hput id e]; exact h1, h2.mono hle (hblk _ h2.lt)⟩
  · intro i j p q L M hi hj hp hq hL hM hb
    by_cases ei : i = nid
    · by_cases ej : j = nid
      · rw [ei, ej]
      · rw [ei, hself] at hL
        injection hL with hL
        simp only [upd, if_neg ej] at hj
        obtain ⟨M', h1, h2⟩ := hr.obj j q hj
        rw [hput j ej, h1] at hM
        injection hM with hM
        have := h2.lt
        rw [← hL, ← hM] at hb
        simp at hb; omega
    · simp only [upd, if_neg ei] at hi
      by_cases ej : j = nid
      · rw [ej, hself] at hM
        injection hM with hM
        obtain ⟨L', h1, h2⟩ := hr.obj i p hi
        rw [hput i ei, h1] at hL
        injection hL with hL
        have := h2.lt
        rw [← hL, ← hM] at hb
        simp at hb; omega
      · simp only [upd, if_neg ej] at hj
        rw [hput i ei] at hL
        rw [hput j ej] at hM
        exact hr.sep i j p q L M hi hj hp hq hL hM hb
  · intro id hid
    have h1 : nx ≤ id ∧ id ≠ nid := by
      split at hid <;> constructor <;> omega
    rw [hput id h1.2]
    exact hr.lim id h1.1
  · exact hr.base.step (Nat.le_of_lt hsz) (fun b hb => hblk b (Nat.lt_of_lt_of_le hb hr.base.le))
  · split <;> omega
  · intro b ⟨id, p, L, h1, h2, h3, h4⟩
    by_cases e : id = nid
    · subst e
      rw [hself] at h3
      injection h3 with h3
      right; rw [← h4, ← h3]; exact Nat.le_refl _
    · left
      refine ⟨id, p, L, ?_, h2, by rw [hput id e] at h3; exact h3, h4⟩
      simpa only [upd, if_neg e] using h1
/-- an object of ours that is turned where it lies -/
theorem Stp.turn {π : Pi} {N : Nat} {g : AG} {nx : Nat} {w w' : World} {id nid : Nat} {o o' : AObj} {L : Loc} (hr : HR π N g nx w) (hg : g id = some o) (ho : o.rw = true) (ho' : o'.rw = true) (hL : π id = some L)
    (hos : w'.os = w.os) (htape : w'.tape = w.tape) (hout : w'.output = w.output) (hsz : w.heap.size = w'.heap.size) (hblk : ∀ b, b ≠ L.b → w'.heap[b]? = w.heap[b]?) (hO : OR π N o' L w') :
    Stp π N g nx w π (upd g id (some o')) nx w' nid := by
  have hown : Own π g L.b := ⟨id, o, L, hg, ho, hL, rfl⟩
  refine ⟨Pi.le.refl π, fun _ h _ _ => h, ⟨?_, ?_, hr.lim, hr.base.step (Nat.le_of_eq hsz) (fun b hb => hblk b (fun e => by have := hO.low ho'; omega))⟩, Nat.le_refl _, hos, htape, hout, Nat.le_of_eq hsz, fun b hb hn => hblk b (fun e => hn (e ▸ hown)), ?_, fun j p hp => by
    by_cases e : j = id
    · exact .inl ⟨o, by rw [e]; exact hg⟩
    · exact .inl ⟨p, by simpa only [upd, if_neg e] using hp⟩⟩
  · intro j p hp
    by_cases e : j = id
    · subst e
      simp only [upd, if_pos] at hp
      injection hp with hp; subst hp
      exact ⟨L, hL, hO⟩
    · simp only [upd, if_neg e] at hp
      obtain ⟨M, h1, h2⟩ := hr.obj j p hp
      refine ⟨M, h1, h2.mono (Pi.le.refl π) (hblk _ ?_)⟩
      intro hb
      by_cases hp2 : p.rw = true
      · exact e (hr.sep j id p o M L hp hg hp2 ho h1 hL hb)
      · obtain ⟨L', h3, h4⟩ := hr.obj id o hg
        rw [hL] at h3; injection h3 with h3; subst h3
        have h5 := h4.low ho
        have h6 := h2.high (by simpa using hp2)
        omega
  · intro i j p q A B hi hj hp hq hA hB hb
    have hi' : ∃ p', g i = some p' ∧ p'.rw = true := by
      by_cases e : i = id
      · exact ⟨o, by rw [e]; exact hg, ho⟩
      · exact ⟨p, by simpa only [upd, if_neg e] using hi, hp⟩
    have hj' : ∃ q', g j = some q' ∧ q'.rw = true := by
      by_cases e : j = id
      · exact ⟨o, by rw [e]; exact hg, ho⟩
      · exact ⟨q, by simpa only [upd, if_neg e] using hj, hq⟩
    obtain ⟨p', h1, h2⟩ := hi'
    obtain ⟨q', h3, h4⟩ := hj'
    exact hr.sep i j p' q' A B h1 h3 h2 h4 hA hB hb
  · intro b ⟨j, p, M, h1, h2, h3, h4⟩
    left
    by_cases e : j = id
    · subst e; exact ⟨j, o, M, hg, ho, h3, h4⟩
    · exact ⟨j, p, M, by simpa only [upd, if_neg e] using h1, h2, h3, h4⟩
/-- an object that is let go -/
theorem HR.kill {π : Pi} {N : Nat} {g : AG} {nx : Nat} {w : World} (hr : HR π N g nx w) (id : Nat) : HR π N (upd g id none) nx w := by
  refine ⟨fun j p hp => ?_, fun i j p q A B hi hj => ?_, hr.lim, hr.base⟩
  · by_cases e : j = id
    · simp [upd, e] at hp
    · exact hr.obj j p (by simpa only [upd, if_neg e] using hp)
  · by_cases e : i = id
    · simp [upd, e] at hi
    · by_cases e2 : j = id
      · simp [upd, e2] at hj
      · exact hr.sep i j p q A B (by simpa only [upd, if_neg e] using hi) (by simpa only [upd, if_neg e2] using hj)
theorem Stp.kill {π : Pi} {N : Nat} {g : AG} {nx : Nat} {w : World} (hr : HR π N g nx w) (id nid : Nat) : Stp π N g nx w π (upd g id none) nx w nid :=
  ⟨Pi.le.refl π, fun _ h _ _ => h, hr.kill id, Nat.le_refl _, rfl, rfl, rfl, Nat.le_refl _, fun _ _ _ => rfl, fun b ⟨j, p, M, h1, h2, h3, h4⟩ => .inl (by
    by_cases e : j = id
    · simp [upd, e] at h1
    · exact ⟨j, p, M, by simpa only [upd, if_neg e] using h1, h2, h3, h4⟩), fun j p hp => .inl (by
    by_cases e : j = id
    · simp [upd, e] at hp
    · exact ⟨p, by simpa only [upd, if_neg e] using hp⟩)⟩
/-- an object that goes on under another number, from a cell of its own block on -/
theorem Stp.move {π : Pi} {N : Nat} {g : AG} {nx : Nat} {w w' : World} {id nid d : Nat} {o o' : AObj} {L : Loc} (hr : HR π N g nx w) (hg : g id = some o) (ho : o.rw = true) (ho' : o'.rw = true) (hL : π id = some L) (hn : π nid = none)
    (hos : w'.os = w.os) (htape : w'.tape = w.tape) (hout : w'.output = w.output) (hsz : w.heap.size = w'.heap.size) (hblk : ∀ b, b ≠ L.b → w'.heap[b]? = w.heap[b]?) (hO : OR (π.put nid ⟨L.b, d, L.n⟩) N o' ⟨L.b, d, L.n⟩ w') :
    Stp π N g nx w (π.put nid ⟨L.b, d, L.n⟩) (upd (upd g id none) nid (some o')) (if nid < nx then nx else nid + 1) w' nid := by
  have hown : Own π g L.b := ⟨id, o, L, hg, ho, hL, rfl⟩
  have hle : π.le (π.put nid ⟨L.b, d, L.n⟩) := Pi.le_put hn
  have hput : ∀ j, j ≠ nid → (π.put nid ⟨L.b, d, L.n⟩) j = π j := fun j h => by unfold Pi.put; rw [if_neg h]
  have hself : (π.put nid ⟨L.b, d, L.n⟩) nid = some ⟨L.b, d, L.n⟩ := by unfold Pi.put; rw [if_pos rfl]
  have hk := hr.kill id
  have hother : ∀ j p M, upd g id none j = some p → p.rw = true → π j = some M → M.b ≠ L.b := by
    intro j p M hj hp hM hb
    by_cases e : j = id
    · simp [upd, e] at hj
    · exact e (hr.sep j id p o M L (by simpa only [upd, if_neg e] using hj) hg hp ho hM hL hb)
  refine ⟨hle, fun i h0 h1 _ => by rw [hput i h1]; exact h0, ⟨?_, ?_, ?_, hr.base.step (Nat.le_of_eq hsz) (fun b hb => hblk b (fun e => by have h7 := hO.low ho'; simp only at h7; omega))⟩, by split <;> omega, hos, htape, hout, Nat.le_of_eq hsz, fun b hb hn => hblk b (fun e => hn (e ▸ hown)), ?_, fun j p hp => by
    by_cases e : j = nid
    · exact .inr (.inl e)
    · have hp' : upd g id none j = some p := by simpa only [upd, if_neg e] using hp
      by_cases e2 : j = id
      · simp [upd, e2] at hp'
      · exact .inl ⟨p, by simpa only [upd, if_neg e2] using hp'⟩⟩
  · intro j p hp
    by_cases e : j = nid
    · subst e
      simp only [upd, if_pos] at hp
      injection hp with hp; subst hp
      exact ⟨_, hself, hO⟩
    · have hp' : upd g id none j = some p := by simpa only [upd, if_neg e] using hp
      obtain ⟨M, h1, h2⟩ := hk.obj j p hp'
      refine ⟨M, by rw [hput j e]; exact h1, h2.mono hle (hblk _ ?_)⟩
      by_cases hp2 : p.rw = true
      · exact hother j p M hp' hp2 h1
      · intro hb
        obtain ⟨L', h3, h4⟩ := hr.obj id o hg
        rw [hL] at h3; injection h3 with h3; subst h3
        have h5 := h4.low ho
        have h6 := h2.high (by simpa using hp2)
        omega
  · intro i j p q A B hi hj hp hq hA hB hb
    by_cases ei : i = nid
    · by_cases ej : j = nid
      · rw [ei, ej]
      · have hj' : upd g id none j = some q := by simpa only [upd, if_neg ej] using hj
        rw [ei, hself] at hA; injection hA with hA
        rw [hput j ej] at hB
        exact absurd (hb.symm.trans (by rw [← hA])) (hother j q B hj' hq hB)
    · have hi' : upd g id none i = some p := by simpa only [upd, if_neg ei] using hi
      rw [hput i ei] at hA
      by_cases ej : j = nid
      · rw [ej, hself] at hB; injection hB with hB
        exact absurd (hb.trans (by rw [← hB])) (hother i p A hi' hp hA)
      · have hj' : upd g id none j = some q := by simpa only [upd, if_neg ej] using hj
        rw [hput j ej] at hB
        exact hk.sep i j p q A B hi' hj' hp hq hA hB hb
  · intro i hid
    have h1 : nx ≤ i ∧ i ≠ nid := by
      split at hid <;> constructor <;> omega
    rw [hput i h1.2]
    exact hr.lim i h1.1
  · intro b ⟨j, p, M, h1, h2, h3, h4⟩
    left
    by_cases e : j = nid
    · subst e
      rw [hself] at h3
      injection h3 with h3
      rw [← h4, ← h3]; exact hown
    · rw [hput j e] at h3
      have h1' : upd g id none j = some p := by simpa only [upd, if_neg e] using h1
      by_cases e2 : j = id
      · simp [upd, e2] at h1'
      · exact ⟨j, p, M, by simpa only [upd, if_neg e2] using h1', h2, h3, h4⟩

/-! ### cells -/
theorem over_spec : ∀ {cs vs r : List Value}, over cs vs = some r → vs.length ≤ cs.length ∧ r = vs ++ cs.drop vs.length
  | cs, [], r, h => by simp [over] at h; subst h; simp
  | [], v :: vs, r, h => by simp [over] at h
  | c :: cs, v :: vs, r, h => by
    simp only [over] at h
    split at h
    · rename_i r' hr
      obtain ⟨h1, h2⟩ := over_spec hr
      injection h with h
      subst h
      simp [h2]; omega
    · cases h
theorem putAt_spec : ∀ {cs : List Value} {o : Nat} {vs r : List Value}, putAt cs o vs = some r → o + vs.length ≤ cs.length ∧ r = cs.take o ++ vs ++ cs.drop (o + vs.length)
  | cs, 0, vs, r, h => by
    have h' : over cs vs = some r := by cases cs <;> exact h
    obtain ⟨h1, h2⟩ := over_spec h'
    simp [h2]; omega
  | [], o + 1, vs, r, h => by simp [putAt] at h
  | c :: cs, o + 1, vs, r, h => by
    simp only [putAt] at h
    split at h
    · rename_i r' hr
      obtain ⟨h1, h2⟩ := putAt_spec hr
      injection h with h
      subst h
      refine ⟨by simp; omega, ?_⟩
      rw [h2, show o + 1 + vs.length = (o + vs.length) + 1 by omega]
      simp
    · cases h
theorem cut_spec {cs r : List Value} {o n : Nat} (h : cut cs o n = some r) : r = (cs.drop o).take n ∧ r.length = n ∧ (n = 0 ∨ o + n ≤ cs.length) := by
  unfold cut at h
  simp only [beqd] at h
  by_cases e : ((cs.drop o).take n).length = n
  · simp only [e, decide_true, cond_true, Option.some.injEq] at h
    subst h
    refine ⟨rfl, e, ?_⟩
    rw [List.length_take, List.length_drop] at e
    omega
  · rw [decide_eq_false e] at h; cases h
theorem CR.cut {π : Pi} {cs : List Value} {ds : Array Value} {d : Nat} (h : CR π cs ds d) {o n : Nat} {r : List Value} (hc : cut cs o n = some r) :
    ∃ m : List Value, VRs π r m ∧ m.length = n ∧ ∀ (j : Nat) u, m[j]? = some u → ds[d + o + j]? = some u := by
  obtain ⟨rfl, hl, _⟩ := cut_spec hc
  refine ⟨(List.range n).map fun j => (ds[d + o + j]?).getD undef, ?_, by simp, ?_⟩
  · refine VRs.of_get (by rw [hl]; simp) (fun i v u hi hu => ?_)
    have hin : i < n := by have := (List.getElem?_eq_some_iff.1 hi).1; omega
    rw [List.getElem?_take, if_pos hin, List.getElem?_drop] at hi
    obtain ⟨u', h1, h2⟩ := h (o + i) v hi
    rw [List.getElem?_map, List.getElem?_range hin] at hu
    simp only [Option.map_some, Option.some.injEq] at hu
    rw [← Nat.add_assoc] at h1
    rw [h1] at hu
    simp only [Option.getD_some] at hu
    subst hu
    exact h2
  · intro j u hj
    have hjn : j < n := by have := (List.getElem?_eq_some_iff.1 hj).1; simpa using this
    rw [List.getElem?_map, List.getElem?_range hjn] at hj
    simp only [Option.map_some, Option.some.injEq] at hj
    obtain ⟨v, hv⟩ : ∃ v, ((cs.drop o).take n)[j]? = some v := ⟨_, List.getElem?_eq_getElem (by omega)⟩
    rw [List.getElem?_take, if_pos hjn, List.getElem?_drop] at hv
    obtain ⟨u', h1, h2⟩ := h (o + j) v hv
    rw [← Nat.add_assoc] at h1
    rw [h1] at hj ⊢
    simpa using hj
end Go.Proofs.Ytffockklleanmaa.AM

/- The program's types as the machine reads them; loads and stores. -/
namespace Go.Proofs.Ytffockklleanmaa.AM
open Go
variable [Tok]
set_option linter.unusedVariables false
set_option linter.unusedSectionVars false
set_option linter.unusedSimpArgs false

structure TOk (P : Program) (T : Tr TI) : Prop where
  ti : ∀ t i, T.get t = some i → tiOf P t = some i
  zero : ∀ t i, T.get t = some i → pv i.zero = true
theorem ti_spec {P : Program} {t : Nat} {i : TI} (h : tiOf P t = some i) : (∃ inf, P.info? t = some inf ∧ inf.size = i.size ∧ inf.bytes = i.bytes ∧ inf.zero = some i.zero) ∧ tkOf P t = i.k ∧ ∃ d, P.underlying t = some d := by
  unfold tiOf at h
  cases e : P.info? t with
  | none => simp [e] at h
  | some inf =>
    simp only [e] at h
    cases ez : inf.zero with
    | none => simp [ez] at h
    | some z =>
      cases eu : P.underlying t with
      | none => simp [ez, eu] at h
      | some d =>
        simp only [ez, eu, Option.some.injEq] at h
        subst h
        exact ⟨⟨inf, rfl, rfl, rfl, ez⟩, rfl, d, rfl⟩
section
variable {P : Program} {t : Nat} {i : TI} {w : World}
theorem und_bool (h : tkOf P t = .bool) : P.underlying t = some .bool := by
  unfold tkOf at h; split at h <;> first | assumption | (simp at h; done)
theorem und_int {k : IntKind} (h : tkOf P t = .int k) : P.underlying t = some (.int k) := by
  unfold tkOf at h; split at h <;> first | (rename_i e; injection h with h; subst h; exact e) | (simp at h; done)
theorem und_string (h : tkOf P t = .string) : P.underlying t = some .string := by
  unfold tkOf at h; split at h <;> first | assumption | (simp at h; done)
theorem und_ptr {e : Nat} (h : tkOf P t = .ptr e) : P.underlying t = some (.pointer e) := by
  unfold tkOf at h; split at h <;> first | (rename_i e; injection h with h; subst h; exact e) | (simp at h; done)
theorem und_slice {e : Nat} (h : tkOf P t = .slice e) : P.underlying t = some (.slice e) := by
  unfold tkOf at h; split at h <;> first | (rename_i e; injection h with h; subst h; exact e) | (simp at h; done)
theorem und_array {n e : Nat} (h : tkOf P t = .array n e) : P.underlying t = some (.array n e) := by
  unfold tkOf at h; split at h <;> first | (rename_i e; injection h with h1 h2; subst h1; subst h2; exact e) | (simp at h; done)
theorem und_map {k e : Nat} (h : tkOf P t = .map k e) : P.underlying t = some (.map k e) := by
  unfold tkOf at h; split at h <;> first | (rename_i e; injection h with h1 h2; subst h1; subst h2; exact e) | (simp at h; done)
theorem und_struct {fs : List (Nat × Nat)} {q : Bool} (h : tkOf P t = .struct fs q) : ∃ fa : Array Field, P.underlying t = some (.struct fa) ∧ (fs = fa.toList.map fun f => (f.offset, f.type)) ∧ q = eqOk P t fa.toList := by
  unfold tkOf at h; split at h <;> first | (rename_i fa e; injection h with h h2; exact ⟨fa, e, h.symm, h2.symm⟩) | (simp at h; done)
theorem und_func (h : tkOf P t = .func) : ∃ a b c, P.underlying t = some (.func a b c) := by
  unfold tkOf at h; split at h <;> first | (rename_i a b c e; exact ⟨a, b, c, e⟩) | (simp at h; done)
theorem run_under {d : TypeDesc} (h : P.underlying t = some d) : (underlying t).run P w = .ok d w := by simp [underlying, h]
theorem run_size (h : tiOf P t = some i) : (sizeOf t).run P w = .ok i.size w := by
  obtain ⟨⟨inf, h1, h2, h3, h4⟩, _⟩ := ti_spec h
  simp [sizeOf, typeInfo, h1, h2]
theorem run_info (h : tiOf P t = some i) : ∃ inf, (typeInfo t).run P w = .ok inf w ∧ inf.size = i.size ∧ inf.bytes = i.bytes := by
  obtain ⟨⟨inf, h1, h2, h3, h4⟩, _⟩ := ti_spec h
  exact ⟨inf, by simp [typeInfo, h1], h2, h3⟩
theorem run_zero (h : tiOf P t = some i) : (zeroValue t).run P w = .ok i.zero w := by
  obtain ⟨⟨inf, h1, h2, h3, h4⟩, _⟩ := ti_spec h
  simp [zeroValue, typeInfo, h1, h4]
theorem run_agg (h : tiOf P t = some i) : (isAgg t).run P w = .ok i.k.agg w := by
  obtain ⟨_, hk, d, hd⟩ := ti_spec h
  rw [← hk]
  unfold tkOf
  rw [hd]
  cases d <;> simp [isAgg, underlying, hd, TK.agg]
/-! ### loads -/
theorem cell_row {w : World} {b : Nat} {ds : Array Value} {ty : Nat} {fr : Nat × Nat} (h : w.heap[b]? = some (.cells ds ty fr)) (j : Nat) : w.cell? ⟨b, j, none⟩ = ds[j]? := by
  simp [World.cell?, h]
theorem add_none (b o n : Nat) : (⟨b, o, none⟩ : Addr).add n = ⟨b, o + n, none⟩ := by
  unfold Addr.add; split
  · rename_i h; subst h; rfl
  · rfl
theorem rd_spec {π : Pi} {N : Nat} {h : AHeap} {nx : Nat} {w : World} (hr : HR π N h.get nx w) {id : Nat} {cs : List Value} (hc : rd h id = some cs) :
    ∃ L ds ty fr, π id = some L ∧ w.heap[L.b]? = some (.cells ds ty fr) ∧ CR π cs ds L.d := by
  unfold rd at hc
  split at hc
  · rename_i cs' z e
    injection hc with hc; subst hc
    obtain ⟨L, h1, h0, ds, ty, fr, h2, _, _, _, h5⟩ := hr.obj id _ e
    exact ⟨L, ds, ty, fr, h1, h2, h5⟩
  · rename_i cs' e
    injection hc with hc; subst hc
    obtain ⟨L, h1, h0, ds, ty, fr, h2, h5⟩ := hr.obj id _ e
    exact ⟨L, ds, ty, fr, h1, h2, h5⟩
  · cases hc
theorem load_cells {π : Pi} {cs r : List Value} {b o n d ty : Nat} {ds : Array Value} {fr : Nat × Nat} (hb : w.heap[b]? = some (.cells ds ty fr)) (h : CR π cs ds d) (hc : cut cs o n = some r) :
    ∃ m : List Value, (loadCells ⟨b, d + o, none⟩ n).run P w = .ok ⟨m⟩ w ∧ VRs π r m ∧ m.length = n := by
  obtain ⟨m, h1, h2, h3⟩ := h.cut hc
  refine ⟨m, ?_, h1, h2⟩
  rw [← h2]
  exact run_loadCells_list (P := P) w ⟨b, d + o, none⟩ m (fun j v hj => by rw [add_none, cell_row hb]; exact h3 j v hj)
theorem aload_sound {π : Pi} {N : Nat} {h : AHeap} {nx : Nat} {T : Tr TI} (ht : TOk P T) (hr : HR π N h.get nx w) {a a' v : Value} (hl : aload T h t a = some v) (ha : VR π a a') :
    ∃ v', (Instr.loadAt t a').run P w = .ok v' w ∧ VR π v v' := by
  unfold aload at hl
  split at hl
  · rename_i id o
    cases ha with
    | ptr hL =>
      rename_i L
      split at hl
      · rename_i i cs hi hcs
        obtain ⟨L', ds, ty, fr, h1, h2, h3⟩ := rd_spec hr hcs
        rw [hL] at h1; injection h1 with h1; subst h1
        have hti := ht.ti _ _ hi
        cases hg : i.k.agg with
        | true =>
          rw [hg, cond_true] at hl
          split at hl
          · rename_i r hc
            injection hl with hl; subst hl
            obtain ⟨m, e1, e2, e3⟩ := load_cells (P := P) h2 h3 hc
            exact ⟨.agg ⟨m⟩, by simp [Instr.loadAt, Instr.sureAddr, loadVar, run_agg hti, run_size hti, hg, e1], .agg e2⟩
          · cases hl
        | false =>
          rw [hg, cond_false] at hl
          obtain ⟨u, e1, e2⟩ := h3 o v hl
          refine ⟨u, ?_, e2⟩
          have hcell : w.cell? ⟨L.b, L.d + o, none⟩ = some u := by rw [cell_row h2]; exact e1
          simp [Instr.loadAt, Instr.sureAddr, loadVar, run_agg hti, hg, load, Sem.run, hcell]
      · cases hl
  · cases hl
/-! ### stores -/
def setL (ds : Array Value) : Nat → List Value → Array Value
  | _, [] => ds
  | o, v :: r => setL (ds.setIfInBounds o v) (o + 1) r
theorem setL_size : ∀ (us : List Value) (o : Nat) (ds : Array Value), (setL ds o us).size = ds.size
  | [], _, _ => rfl
  | v :: r, o, ds => by rw [setL, setL_size r]; simp
theorem setL_get : ∀ (us : List Value) (o : Nat) (ds : Array Value) (j : Nat), o + us.length ≤ ds.size → (setL ds o us)[j]? = if o ≤ j ∧ j < o + us.length then us[j - o]? else ds[j]?
  | [], o, ds, j, _ => by rw [if_neg (by simp)]; rfl
  | v :: r, o, ds, j, h => by
    rw [setL, setL_get r (o + 1) _ j (by simp at h ⊢; omega)]
    by_cases h1 : o + 1 ≤ j ∧ j < o + 1 + r.length
    · rw [if_pos h1, if_pos (by simp; omega)]
      obtain ⟨m, hm⟩ : ∃ m, j - o = m + 1 := ⟨j - o - 1, by omega⟩
      rw [hm, List.getElem?_cons_succ]; congr 1; omega
    · rw [if_neg h1]
      by_cases e : o = j
      · subst e
        rw [if_pos (by simp), Nat.sub_self, List.getElem?_cons_zero, Array.getElem?_setIfInBounds_self_of_lt (by simp at h; omega)]
      · rw [if_neg (by simp; omega), Array.getElem?_setIfInBounds_ne e]
theorem heap_setCells (b : Nat) : ∀ (us : List Value) (o : Nat) (w : World) (ds : Array Value) (ty : Nat) (fr : Nat × Nat), w.heap[b]? = some (.cells ds ty fr) → (w.setCells b o us).heap[b]? = some (.cells (setL ds o us) ty fr)
  | [], o, w, ds, ty, fr, h => h
  | v :: r, o, w, ds, ty, fr, h => by
    rw [World.setCells, setL]
    exact heap_setCells b r (o + 1) _ _ ty fr (by simp [World.setCell, Array.getElem?_modify, h])
theorem other_setCells (b : Nat) : ∀ (us : List Value) (o : Nat) (w : World) (c : Nat), c ≠ b → (w.setCells b o us).heap[c]? = w.heap[c]?
  | [], _, _, _, _ => rfl
  | v :: r, o, w, c, h => by
    rw [World.setCells, other_setCells b r _ _ c h]
    simp [World.setCell, Array.getElem?_modify, h.symm]
theorem same_setCells (b : Nat) : ∀ (us : List Value) (o : Nat) (w : World), (w.setCells b o us).os = w.os ∧ (w.setCells b o us).tape = w.tape ∧ (w.setCells b o us).output = w.output ∧ (w.setCells b o us).heap.size = w.heap.size
  | [], _, _ => ⟨rfl, rfl, rfl, rfl⟩
  | v :: r, o, w => by
    obtain ⟨h1, h2, h3, h4⟩ := same_setCells b r (o + 1) (w.setCell ⟨b, o, none⟩ v)
    rw [World.setCells]
    exact ⟨h1, h2, h3, by rw [h4]; simp [World.setCell]⟩
theorem CR.set {π : Pi} {cs vs us : List Value} {ds : Array Value} {d o : Nat} (h : CR π cs ds d) (hv : VRs π vs us) (hl : o + vs.length ≤ cs.length) (hd : d + o + us.length ≤ ds.size) : CR π (cs.take o ++ vs ++ cs.drop (o + vs.length)) (setL ds (d + o) us) d := by
  intro j v hj
  have hlen := hv.length
  rw [setL_get us (d + o) ds (d + j) hd]
  by_cases h1 : j < o
  · rw [if_neg (by omega)]
    rw [List.append_assoc, List.getElem?_append_left (by simp; omega), List.getElem?_take, if_pos h1] at hj
    exact h j v hj
  · by_cases h2 : j < o + vs.length
    · rw [if_pos (by omega)]
      rw [List.append_assoc, List.getElem?_append_right (by simp; omega), List.getElem?_append_left (by simp; omega)] at hj
      rw [List.length_take, Nat.min_eq_left (by omega)] at hj
      obtain ⟨u, e1, e2⟩ := hv.get _ _ hj
      exact ⟨u, by rw [show d + j - (d + o) = j - o by omega]; exact e1, e2⟩
    · rw [if_neg (by omega)]
      rw [List.append_assoc, List.getElem?_append_right (by simp; omega), List.getElem?_append_right (by simp; omega), List.getElem?_drop] at hj
      rw [List.length_take, Nat.min_eq_left (by omega)] at hj
      have := h (o + vs.length + (j - o - vs.length)) v hj
      rwa [show o + vs.length + (j - o - vs.length) = j by omega] at this
theorem CR.le {π : Pi} {cs : List Value} {ds : Array Value} {d : Nat} (h : CR π cs ds d) (h0 : cs ≠ []) : d + cs.length ≤ ds.size := by
  have hp : 0 < cs.length := List.length_pos_iff.2 h0
  obtain ⟨u, hu, _⟩ := h (cs.length - 1) _ (List.getElem?_eq_getElem (by omega))
  have := (Array.getElem?_eq_some_iff.1 hu).1
  omega
theorem aput_sound {π : Pi} {N : Nat} {h h' : AHeap} {w : World} (hr : HR π N h.get h.next w) {id o : Nat} {vs us : List Value} (hp : aput h id o vs = some h') (hv : VRs π vs us) (nid : Nat) :
    ∃ L w', π id = some L ∧ (storeCells ⟨L.b, L.d + o, none⟩ us).run P w = .ok () w' ∧ Stp π N h.get h.next w π h'.get h'.next w' nid := by
  unfold aput at hp
  split at hp
  · rename_i cs z hg
    cases ho : ones vs with
    | false => rw [ho, cond_false] at hp; cases hp
    | true =>
      rw [ho, cond_true] at hp
      split at hp
      · rename_i r hpa
        injection hp with hp; subst hp
        obtain ⟨hl, rfl⟩ := putAt_spec hpa
        obtain ⟨L, hL, h0, ds, ty, fr, h1, h2, h3, h4, h5⟩ := hr.obj id _ hg
        have hlen := hv.length
        refine ⟨L, w.setCells L.b (L.d + o) us, hL, ?_, ?_⟩
        · by_cases he : us = []
          · subst he; rfl
          · have hsz : L.d + cs.length ≤ ds.size := h5.le (by intro e; have h9 := congrArg List.length e; have : us.length ≠ 0 := fun e => he (List.length_eq_zero_iff.1 e); simp only [List.length_nil] at h9; omega)
            have := run_storeCells_cells (P := P) L.b (L.d + o) us 0 w (fun j hj => by
              rw [cell_row h1, Nat.add_zero, Array.getElem?_eq_getElem (by omega)]; rfl) (fun j hj => by
              have := h4 (L.d + o + 0 + j) (by omega)
              obtain ⟨lo, hi⟩ := fr
              simp only [World.frozen?, h1]
              rw [Bool.eq_false_iff]
              intro hh
              simp only [Bool.and_eq_true, decide_eq_true_eq] at hh
              exact this hh) (hv.ones ho)
            simpa using this
        · rw [get_set]
          obtain ⟨s1, s2, s3, s4⟩ := same_setCells L.b us (L.d + o) w
          refine Stp.turn hr hg rfl rfl hL s1 s2 s3 s4.symm (fun b hb => other_setCells L.b us _ w b hb) ⟨h0, setL ds (L.d + o) us, ty, fr, heap_setCells L.b us _ w ds ty fr h1, by rw [setL_size]; exact h2, h3, by rw [setL_size]; exact h4, ?_⟩
          by_cases he : us = []
          · subst he
            have : vs = [] := by simpa using hlen
            subst this
            simp only [List.append_nil, List.length_nil, Nat.add_zero, List.take_append_drop]
            exact h5
          · have hsz : L.d + cs.length ≤ ds.size := h5.le (by intro e; have h9 := congrArg List.length e; have : us.length ≠ 0 := fun e => he (List.length_eq_zero_iff.1 e); simp only [List.length_nil] at h9; omega)
            exact h5.set hv hl (by omega)
      · cases hp
  · cases hp
theorem astore_sound {π : Pi} {N : Nat} {h h' : AHeap} {T : Tr TI} (ht : TOk P T) (hr : HR π N h.get h.next w) {a a' v v' : Value} (hl : astore T h t a v = some h') (ha : VR π a a') (hv : VR π v v') (nid : Nat) :
    ∃ w', (Instr.storeAt t a' v').run P w = .ok () w' ∧ Stp π N h.get h.next w π h'.get h'.next w' nid := by
  unfold astore at hl
  split at hl
  · rename_i id o
    split at hl
    · rename_i i hi
      rw [beqd] at hl
      by_cases hs : v.cells.toList.length = i.size
      · rw [decide_eq_true hs, cond_true] at hl
        cases ha with
        | ptr hL =>
          rename_i L
          obtain ⟨L', w', h1, h2, h3⟩ := aput_sound (P := P) hr hl hv.cells nid
          rw [hL] at h1; injection h1 with h1; subst h1
          refine ⟨w', ?_, h3⟩
          have hlen := hv.cells.length
          simp only [Array.length_toList] at hs hlen
          simp [Instr.storeAt, Instr.sureAddr, storeVar, run_size (ht.ti _ _ hi), ← hlen, hs, h2]
      · rw [decide_eq_false hs, cond_false] at hl; cases hl
    · cases hl
  · cases hl
end
end Go.Proofs.Ytffockklleanmaa.AM

/- The machine's plain operations are the program's: literals, numbers, strings, comparisons. -/
namespace Go.Proofs.Ytffockklleanmaa.AM
open Go
variable [Tok]
set_option linter.unusedVariables false
set_option linter.unusedSectionVars false
set_option linter.unusedSimpArgs false

inductive PRs (π : Pi) : List (Nat × Value) → List (Nat × Value) → Prop where
  | nil : PRs π [] []
  | cons {i : Nat} {v u : Value} {l m : List (Nat × Value)} (h : VR π v u) (t : PRs π l m) : PRs π ((i, v) :: l) ((i, u) :: m)
theorem fold_setL : ∀ (us : List Value) (k off : Nat) (ds : Array Value), (us.zipIdx k).foldl (fun (cs : Array Value) (p : Value × Nat) => cs.setIfInBounds (off + p.2) p.1) ds = setL ds (off + k) us
  | [], _, _, _ => rfl
  | v :: r, k, off, ds => by
    rw [List.zipIdx_cons, List.foldl_cons, fold_setL r (k + 1) off, setL]
    rfl
theorem setL_list {ds : Array Value} {us : List Value} {o : Nat} (h : o + us.length ≤ ds.size) : (setL ds o us).toList = ds.toList.take o ++ us ++ ds.toList.drop (o + us.length) := by
  apply List.ext_getElem?
  intro j
  have h1 := setL_get us o ds j h
  rw [Array.getElem?_toList, h1]
  by_cases a : j < o
  · rw [if_neg (by omega), List.append_assoc, List.getElem?_append_left (by simp; omega), List.getElem?_take, if_pos a, Array.getElem?_toList]
  · by_cases b : j < o + us.length
    · rw [if_pos (by omega), List.append_assoc, List.getElem?_append_right (by simp; omega), List.getElem?_append_left (by simp; omega)]
      congr 1; simp; omega
    · rw [if_neg (by omega), List.append_assoc, List.getElem?_append_right (by simp; omega), List.getElem?_append_right (by simp; omega), List.getElem?_drop, Array.getElem?_toList]
      congr 1; simp; omega
theorem afill_sound {π : Pi} {pl : Nat → Option (Nat × Nat)} : ∀ {parts parts' : List (Nat × Value)} {cs r : List Value} {ds : Array Value}, afill pl cs parts = some r → VRs π cs ds.toList → PRs π parts parts' →
    ∃ rs : Array Value, Instr.fill pl ds parts' = some rs ∧ VRs π r rs.toList
  | [], _, cs, r, ds, h, hv, .nil => by
    simp only [afill, Option.some.injEq] at h
    subst h
    exact ⟨ds, rfl, hv⟩
  | (i, v) :: rest, _, cs, r, ds, h, hv, .cons (u := u) (m := m) hvu ht => by
    simp only [afill] at h
    split at h
    · cases h
    · rename_i off size hpl
      rw [beqd] at h
      by_cases hs : v.cells.toList.length = size
      · rw [decide_eq_true hs, cond_true] at h
        split at h
        · rename_i r' hp
          obtain ⟨hl, rfl⟩ := putAt_spec hp
          have hc := hvu.cells
          have hlen := hc.length
          have hlen2 := hv.length
          have hus : u.cells.size = v.cells.toList.length := by rw [hlen]; simp
          have hds : ds.size = cs.length := by rw [hlen2]; simp
          have e1 : (u.cells.zipIdx.foldl (fun (cs : Array Value) (p : Value × Nat) => cs.setIfInBounds (off + p.2) p.1) ds) = setL ds off u.cells.toList := by
            have h9 := fold_setL u.cells.toList 0 off ds
            rw [Nat.add_zero] at h9
            rw [← h9, ← Array.foldl_toList, Array.toList_zipIdx]
          have hv' : VRs π (cs.take off ++ v.cells.toList ++ cs.drop (off + v.cells.toList.length)) (setL ds off u.cells.toList).toList := by
            rw [setL_list (by simp; omega), ← hlen]
            exact ((hv.take off).append hc).append (hv.drop _)
          obtain ⟨rs, h1, h2⟩ := afill_sound h hv' ht
          refine ⟨rs, ?_, h2⟩
          rw [Instr.fill]
          simp only [hpl]
          rw [if_neg (by simp; omega)]
          rw [← e1] at h1
          exact h1
        · cases h
      · rw [decide_eq_false hs, cond_false] at h; cases h
section
variable {P : Program} {T : Tr TI} {w : World} {π : Pi} {N : Nat}
theorem sizes_spec (ht : TOk P T) : ∀ {fs : List Field} {pl : List (Nat × Nat)}, sizes T (fs.map fun f => (f.offset, f.type)) = some pl → fs.mapM (fun f => (P.info? f.type).map fun i => (f.offset, i.size)) = some pl
  | [], pl, h => by simp [sizes] at h; subst h; rfl
  | f :: fs, pl, h => by
    simp only [List.map_cons, sizes] at h
    split at h
    · rename_i i l h1 h2
      injection h with h; subst h
      obtain ⟨⟨inf, e1, e2, _⟩, _⟩ := ti_spec (ht.ti _ _ h1)
      simp only [List.mapM_cons, sizes_spec ht h2, e1, e2, Option.map_some, Option.bind_eq_bind, Option.pure_def, Option.bind_some]
    · cases h
theorem abuild_sound (ht : TOk P T) {t : Nat} {parts : List (Nat × Value)} {parts' : Array (Nat × Value)} {v : Value} (h : abuild T t parts = some v) (hp : PRs π parts parts'.toList) :
    ∃ v', (Instr.build t parts').run P w = .ok v' w ∧ VR π v v' := by
  unfold abuild at h
  split at h
  · rename_i fs q sz by_ z hT
    split at h
    · rename_i pl hpl
      split at h
      · rename_i r hf
        injection h with h; subst h
        obtain ⟨⟨inf, e1, e2, e3, e4⟩, hk, _⟩ := ti_spec (ht.ti _ _ hT)
        obtain ⟨fa, hu, hfs, _⟩ := und_struct hk
        have hz := ht.zero _ _ hT
        obtain ⟨rs, h1, h2⟩ := afill_sound hf (VR.cells (VR.of_pv (π := π) hz)) hp
        refine ⟨.agg rs, run_build w t parts' rs ?_, .agg h2⟩
        unfold Program.built
        rw [hfs] at hpl
        simp only [e1, hu, e4, sizes_spec ht hpl]
        rw [← h1]
        simp
      · cases h
    · cases h
  · rename_i n e sz by_ z hT
    split at h
    · rename_i i hTe
      split at h
      · rename_i r hf
        injection h with h; subst h
        obtain ⟨⟨inf, e1, e2, e3, e4⟩, hk, _⟩ := ti_spec (ht.ti _ _ hT)
        obtain ⟨⟨inf2, g1, g2, g3, g4⟩, _⟩ := ti_spec (ht.ti _ _ hTe)
        have hu := und_array hk
        have hz := ht.zero _ _ hT
        obtain ⟨rs, h1, h2⟩ := afill_sound hf (VR.cells (VR.of_pv (π := π) hz)) hp
        refine ⟨.agg rs, run_build w t parts' rs ?_, .agg h2⟩
        unfold Program.built
        simp only [e1, hu, e4, g1, g2]
        exact h1
      · cases h
    · cases h
  · cases h
theorem reps_length (z : List Value) : ∀ n, (reps z n).length = n * z.length
  | 0 => by simp [reps]
  | n + 1 => by rw [reps, List.length_append, reps_length z n]; simp [Nat.add_mul]; omega
theorem reps_get (z : List Value) : ∀ (n j : Nat), j < n * z.length → (reps z n)[j]? = z[j % z.length]?
  | 0, j, h => by omega
  | n + 1, j, h => by
    rw [reps]
    by_cases e : j < z.length
    · rw [List.getElem?_append_left e, Nat.mod_eq_of_lt e]
    · rw [List.getElem?_append_right (by omega), reps_get z n (j - z.length) (by rw [Nat.add_mul] at h; omega)]
      rw [Nat.mod_eq_sub_mod (a := j) (by omega)]
theorem reps_array (z : Array Value) (n : Nat) : ((Array.range (n * z.size)).map (z[· % z.size]!)).toList = reps z.toList n := by
  apply List.ext_getElem?
  intro j
  by_cases h : j < n * z.size
  · rw [reps_get z.toList n j (by simpa using h)]
    have hz : 0 < z.size := by
      rcases Nat.eq_zero_or_pos z.size with e | e
      · rw [e] at h; omega
      · exact e
    have hm : j % z.size < z.size := Nat.mod_lt _ hz
    simp [h, hm]
  · rw [List.getElem?_eq_none (by simp; omega), List.getElem?_eq_none (by rw [reps_length]; simp; omega)]
theorem VRs.reps {z : List Value} (h : VRs π z z) : ∀ n, VRs π (reps z n) (reps z n)
  | 0 => .nil
  | n + 1 => by rw [AM.reps]; exact h.append (VRs.reps h n)
/-- a row of cells that is laid anew -/
theorem new_row {h : AHeap} (hr : HR π N h.get h.next w) {nid : Nat} (hn : π nid = none) {cs : List Value} {ds : Array Value} (hv : VRs π cs ds.toList) (ty : Nat) :
    ∃ π' , Stp π N h.get h.next w π' (h.new nid (.cells cs true)).get (h.new nid (.cells cs true)).next (w.alloc (.cells ds ty)) nid ∧ π' = π.put nid ⟨w.heap.size, 0, ds.size⟩ := by
  refine ⟨_, ?_, rfl⟩
  rw [get_new, next_new]
  have e : (w.alloc (.cells ds ty)).heap = w.heap.push (.cells ds ty) := rfl
  refine Stp.alloc hr hn rfl rfl rfl rfl (by rw [e]; simp) (fun b hb => by rw [e]; simp [Array.getElem?_push, Nat.ne_of_lt hb]) ⟨hr.base.le, ds, ty, (0, 0), by rw [e]; simp, rfl, fun _ => rfl, fun j hj => by simp, ?_⟩
  intro j v hj
  obtain ⟨u, h1, h2⟩ := hv.get j v hj
  exact ⟨u, by simpa using h1, h2.mono (Pi.le_put hn)⟩
theorem put_self (π : Pi) (id : Nat) (L : Loc) : (π.put id L) id = some L := by simp [Pi.put]
theorem vr_new (π : Pi) (id : Nat) (b n : Nat) : VR (π.put id ⟨b, 0, n⟩) (.pointer (some ⟨id, 0, none⟩)) (.pointer (some ⟨b, 0, none⟩)) := by
  have := VR.ptr (o := 0) (put_self π id ⟨b, 0, n⟩)
  simpa using this
theorem vr_slice_new (π : Pi) (id b n len cap : Nat) (hc : cap < CAPX) (hl : len ≤ cap) : VR (π.put id ⟨b, 0, n⟩) (.slice (some ⟨id, 0, none⟩) len cap) (.slice (some ⟨b, 0, none⟩) len cap) := by
  have := VR.slice (o := 0) (len := len) (cap := cap) (cap' := cap) (put_self π id ⟨b, 0, n⟩) (.inl ⟨hc, rfl, hl⟩)
  simpa using this
theorem abuildSlice_sound (ht : TOk P T) {h h' : AHeap} (hr : HR π N h.get h.next w) {nid t len : Nat} (hn : π nid = none) {parts : List (Nat × Value)} {parts' : Array (Nat × Value)} {v : Value}
    (hb : abuildSlice T h nid t len parts = some (v, h')) (hp : PRs π parts parts'.toList) :
    ∃ π' v' w', (Instr.buildSlice t len parts').run P w = .ok v' w' ∧ VR π' v v' ∧ Stp π N h.get h.next w π' h'.get h'.next w' nid := by
  unfold abuildSlice at hb
  split at hb
  · rename_i e sz by_ z hT
    split at hb
    · rename_i i hTe
      rw [bled, bled, beqd] at hb
      by_cases h1 : len * i.size ≤ 16777216 ∧ len ≤ 16777216
      · by_cases h2 : i.zero.cells.toList.length = i.size
        · obtain ⟨h1, hl⟩ := h1
          rw [decide_eq_true h1, decide_eq_true hl, decide_eq_true h2, Bool.and_self, cond_true, cond_true] at hb
          split at hb
          · rename_i r hf
            cases ho : ones r with
            | false => rw [ho, cond_false] at hb; cases hb
            | true =>
              rw [ho, cond_true] at hb
              injection hb with hb
              obtain ⟨rfl, rfl⟩ := Prod.mk.inj hb
              obtain ⟨_, hk, _⟩ := ti_spec (ht.ti _ _ hT)
              obtain ⟨⟨inf, e1, e2, e3, e4⟩, _⟩ := ti_spec (ht.ti _ _ hTe)
              have hu := und_slice hk
              have hz := ht.zero _ _ hTe
              have hzs : i.zero.cells.size = i.size := by simpa using h2
              by_cases hpos : len * i.size = 0
              · have hc0 : reps i.zero.cells.toList len = (#[] : Array Value).toList := by
                  have := reps_length i.zero.cells.toList len
                  rw [h2, hpos] at this
                  simpa using List.length_eq_zero_iff.1 this
                rw [hc0] at hf
                obtain ⟨rs, g1, g2⟩ := afill_sound (ds := #[]) hf .nil hp
                obtain ⟨π', hs, rfl⟩ := new_row hr hn g2 e
                refine ⟨_, .slice (some ⟨w.heap.size, 0, none⟩) len len, w.alloc (.cells rs e), ?_, ?_, hs⟩
                · have hs0 := run_size (w := w) (ht.ti _ _ hTe)
                  unfold Instr.buildSlice
                  simp only [Sem.run_bind, run_under hu, Result.andThen, hs0]
                  rw [hpos]
                  have hr0 : ∀ f : Nat → Value, Array.map f (Array.range 0) = #[] := fun f => by simp [Array.range]
                  simp [hr0, g1, newRow]
                · exact vr_slice_new π nid _ _ len len (by unfold CAPX; omega) (Nat.le_refl _)
              · have hzv : VRs π (reps i.zero.cells.toList len) ((Array.range (len * i.size)).map (i.zero.cells[· % i.zero.cells.size]!)).toList := by
                  rw [← hzs, reps_array]
                  exact VRs.reps (VR.cells (VR.of_pv (π := π) hz)) len
                obtain ⟨rs, g1, g2⟩ := afill_sound hf hzv hp
                obtain ⟨π', hs, rfl⟩ := new_row hr hn g2 e
                refine ⟨_, .slice (some ⟨w.heap.size, 0, none⟩) len len, w.alloc (.cells rs e), ?_, ?_, hs⟩
                · exact run_buildSlice w t e len parts' rs inf i.zero hu e1 e4 (by rw [e2]; omega) (by rw [e2]; exact hpos) (by rw [e2]; exact g1)
                · exact vr_slice_new π nid _ _ len len (by unfold CAPX; omega) (Nat.le_refl _)
          · cases hb
        · rw [decide_eq_false h2, cond_false] at hb; cases hc : (decide (len * i.size ≤ 16777216) && decide (len ≤ 16777216)) <;> rw [hc] at hb <;> cases hb
      · rw [← Bool.decide_and, decide_eq_false h1, cond_false] at hb; cases hb
    · cases hb
  · cases hb
end
end Go.Proofs.Ytffockklleanmaa.AM

/- Numbers, strings, comparisons. -/
namespace Go.Proofs.Ytffockklleanmaa.AM
open Go
variable [Tok]
set_option linter.unusedVariables false
set_option linter.unusedSectionVars false
set_option linter.unusedSimpArgs false

theorem eqB_spec : ∀ (x y : List UInt8), eqB x y = decide (x = y)
  | [], [] => by simp [eqB]
  | [], _ :: _ => by simp [eqB]
  | _ :: _, [] => by simp [eqB]
  | a :: x, b :: y => by
    simp only [eqB, beqd]
    by_cases h : a.toNat = b.toNat
    · have hab : a = b := UInt8.toNat_inj.1 h
      rw [decide_eq_true h, cond_true, eqB_spec x y, hab]
      simp
    · have hab : a ≠ b := fun e => h (by rw [e])
      rw [decide_eq_false h, cond_false]
      simp [hab]
theorem ltB_spec : ∀ (x y : List UInt8), ltB x y = Op.bytesLess x y
  | [], [] => by simp [ltB, Op.bytesLess]
  | [], _ :: _ => by simp [ltB, Op.bytesLess]
  | _ :: _, [] => by simp [ltB, Op.bytesLess]
  | a :: x, b :: y => by
    simp only [ltB, beqd, bltd, Op.bytesLess]
    by_cases h : a.toNat < b.toNat
    · have hab : a < b := UInt8.lt_iff_toNat_lt.2 h
      rw [decide_eq_true h, cond_true]
      simp [hab]
    · have hab : ¬ a < b := fun e => h (UInt8.lt_iff_toNat_lt.1 e)
      rw [decide_eq_false h, cond_false]
      by_cases e : a.toNat = b.toNat
      · have e2 : a = b := UInt8.toNat_inj.1 e
        rw [decide_eq_true e, cond_true, ltB_spec x y, e2]
        simp
      · have e2 : a ≠ b := fun e3 => e (by rw [e3])
        rw [decide_eq_false e, cond_false]
        simp [hab, e2]
theorem bl_size (s : ByteArray) : (bl s).length = s.size := by simp [bl]
theorem lb_bl (s : ByteArray) : lb (bl s) = s := by rcases s with ⟨⟨l⟩⟩; rfl
theorem bl_lb (l : List UInt8) : bl (lb l) = l := rfl
theorem bl_append (x y : ByteArray) : lb (bl x ++ bl y) = x ++ y := by
  have : bl (x ++ y) = bl x ++ bl y := by simp [bl]
  rw [← this, lb_bl]
theorem bl_extract (s : ByteArray) (l u : Nat) : lb (((bl s).drop l).take (u - l)) = s.extract l u := by
  have : bl (s.extract l u) = ((bl s).drop l).take (u - l) := by simp [bl, List.extract_eq_take_drop]
  rw [← this, lb_bl]
section
variable {P : Program} {T : Tr TI} {w : World} {π : Pi} {N : Nat}
theorem aint_sound {op : BinOp} {k : IntKind} {x y : Int} {v : Value} (h : aint op k x y = some v) (xt : Nat) : (binOp op xt (.int k x) (.int k y)).run P w = .ok v w ∧ ∀ π, VR π v v := by
  unfold aint at h
  cases op <;> simp only [Option.some.injEq] at h
  all_goals first
    | (subst h; exact ⟨by simp [binOp, Op.intArith, Op.intBits, Op.intCmp, Sem.run_pure], fun π => by first | exact .int _ _ | exact .bool _⟩)
    | (split at h
       · cases h
       · rename_i h0
         simp only [Option.some.injEq] at h
         subst h
         exact ⟨by simp [binOp, Op.intDiv, h0, Sem.run_pure], fun π => .int _ _⟩)
    | cases h
theorem ashift_sound {op : BinOp} {k j : IntKind} {x y : Int} {v : Value} (h : ashift op k x y = some v) (xt : Nat) : (binOp op xt (.int k x) (.int j y)).run P w = .ok v w ∧ ∀ π, VR π v v := by
  unfold ashift at h
  split at h
  · cases h
  · rename_i h0
    cases op <;> simp only [Option.some.injEq] at h
    all_goals first
      | (subst h; exact ⟨by simp [binOp, Op.shift, h0, Sem.run_pure], fun π => .int _ _⟩)
      | cases h
theorem astr_sound {op : BinOp} {x y : ByteArray} {v : Value} (h : astr op x y = some v) (xt : Nat) : (binOp op xt (.string x) (.string y)).run P w = .ok v w ∧ ∀ π, VR π v v := by
  have hb : ∀ s : ByteArray, s.toList = bl s := fun s => Lib.toList_data s
  have he : (bl x == bl y) = eqB (bl x) (bl y) := by rw [eqB_spec, Bool.eq_iff_iff]; simp
  unfold astr at h
  cases op <;> simp only [Option.some.injEq] at h
  case add =>
    rw [bled] at h
    by_cases hs : (bl x).length + (bl y).length ≤ 9223372036854775807
    · rw [decide_eq_true hs, cond_true] at h
      injection h with h; subst h
      refine ⟨?_, fun π => .string _⟩
      rw [bl_size, bl_size] at hs
      have hs' : ¬ ((x.size + y.size : Nat) : Int) > IntKind.i64.max := by
        have : IntKind.i64.max = 9223372036854775807 := by decide
        rw [this]; omega
      simp only [binOp, Op.stringOp]
      rw [if_neg hs', bl_append]
      rfl
    · rw [decide_eq_false hs, cond_false] at h; cases h
  all_goals first
    | (subst h; exact ⟨by simp only [binOp, Op.stringOp, hb, he, ← ltB_spec]; rfl, fun π => .bool _⟩)
    | cases h
/-! ### equality -/
theorem eqCell_sound {k : TK} {d : Nat} {t : Nat} (hk : tkOf P t = k) {x y x' y' : Value} {b : Bool} (h : eqCell k x y = some b) (hx : VR π x x') (hy : VR π y y') : (Op.equalIn (d + 1) t x' y').run P w = .ok b w := by
  unfold eqCell at h
  split at h
  · rename_i kk j a l c
    cases hx; cases hy
    split at h
    · rename_i hj
      simp only [Option.some.injEq] at h
      subst hj; subst h
      simp [Op.equalIn, run_under (und_int hk)]
    · cases h
  · cases hx; cases hy
    simp only [Option.some.injEq] at h
    subst h
    rename_i a c
    have : (a == c) = eqB (bl a) (bl c) := by
      rw [eqB_spec, Bool.eq_iff_iff, MapKept.bytes_beq, decide_eq_true_eq]
      exact ⟨fun e => by rw [e], fun e => by rw [← lb_bl a, ← lb_bl c, e]⟩
    simp [Op.equalIn, run_under (und_string hk), this]
  · cases hx; cases hy
    simp only [Option.some.injEq] at h
    subst h
    simp [Op.equalIn, run_under (und_bool hk)]
  · cases h
theorem eqCells_sound (ht : TOk P T) {d : Nat} {xs ys : Array Value} : ∀ {fs : List Field} {k : Nat} {l m l' m' : List Value} {b : Bool}, eqCells T (fs.map fun f => (f.offset, f.type)) l m = some b → VRs π l l' → VRs π m m' →
    (∀ p ∈ fs.zipIdx k, (p.1.name != "_" && Nat.beq p.1.offset p.2 && plainT P p.1.type) = true) →
    (∀ j, l'[j]? = xs[k + j]?) → (∀ j, m'[j]? = ys[k + j]?) → (Op.eqFields (d + 1) xs ys fs).run P w = .ok b w
  | [], k, l, m, l', m', b, h, hl, hm, _, _, _ => by
    cases l <;> cases m <;> simp [eqCells] at h
    subst h
    simp [Op.eqFields]
  | f :: fs, k, l, m, l', m', b, h, hl, hm, hq, hx, hy => by
    cases hl with
    | nil => simp [eqCells] at h
    | cons hv hl =>
      rename_i x x' l l'
      cases hm with
      | nil => simp [eqCells] at h
      | cons hu hm =>
        rename_i y y' m m'
        simp only [List.map_cons, eqCells] at h
        split at h
        · rename_i i hT
          split at h
          · rename_i a c h1 h2
            simp only [Option.some.injEq] at h
            subst h
            have hq0 := hq (f, k) (by simp [List.zipIdx_cons])
            simp only [Bool.and_eq_true, bne_iff_ne, ne_eq, beqd, decide_eq_true_eq] at hq0
            obtain ⟨⟨q1, q2⟩, q3⟩ := hq0
            have hti := ht.ti _ _ hT
            obtain ⟨_, hk, _⟩ := ti_spec hti
            have e1 : xs[f.offset]? = some x' := by rw [q2]; have := hx 0; simpa using this.symm
            have e2 : ys[f.offset]? = some y' := by rw [q2]; have := hy 0; simpa using this.symm
            have hag : i.k.agg = false := by
              rw [← hk]; unfold plainT at q3; unfold tkOf
              split at q3 <;> first | (rename_i e; rw [e]; rfl) | simp at q3
            have p1 : (part f.type xs f.offset).run P w = .ok x' w := by simp [part, run_agg hti, hag, e1]
            have p2 : (part f.type ys f.offset).run P w = .ok y' w := by simp [part, run_agg hti, hag, e2]
            have h3 := eqCell_sound (w := w) (d := d) hk h1 hv hu
            have h4 := eqCells_sound ht (d := d) (xs := xs) (ys := ys) (k := k + 1) h2 hl hm (fun p hp => hq p (by rw [List.zipIdx_cons]; exact List.mem_cons_of_mem _ hp)) (fun j => by have := hx (j + 1); simp only [List.getElem?_cons_succ] at this; rw [this]; congr 1; omega) (fun j => by have := hy (j + 1); simp only [List.getElem?_cons_succ] at this; rw [this]; congr 1; omega)
            unfold Op.eqFields
            rw [if_pos q1]
            simp only [Sem.run_bind, p1, p2, Result.andThen, h3]
            cases a <;> simp [h4]
          · cases h
        · cases h
end
end Go.Proofs.Ytffockklleanmaa.AM

/- Equality, conversions, fields, places in rows. -/
namespace Go.Proofs.Ytffockklleanmaa.AM
open Go
variable [Tok]
set_option linter.unusedVariables false
set_option linter.unusedSectionVars false
set_option linter.unusedSimpArgs false
section
variable {P : Program} {T : Tr TI} {w : World} {π : Pi} {N : Nat}
theorem unmarked_spec {h : AHeap} {nx : Nat} (hr : HR π N h.get nx w) {id : Nat} (hu : unmarked h id = true) : ∃ L ds ty, π id = some L ∧ w.heap[L.b]? = some (.cells ds ty (0, 0)) ∧ (∃ o, h.get id = some o ∧ o.rw = true) := by
  unfold unmarked at hu
  split at hu
  · rename_i cs e
    obtain ⟨L, h1, h0, ds, ty, fr, h2, h3, h4, _⟩ := hr.obj id _ e
    have := h4 rfl
    subst this
    exact ⟨L, ds, ty, h1, h2, _, e, rfl⟩
  · cases hu
theorem aeqIn_sound (d : Nat) (ht : TOk P T) {h : AHeap} {nx : Nat} (hr : HR π N h.get nx w) {t : Nat} {x y x' y' : Value} {b : Bool} (ha : aeq T h t x y = some b) (hx : VR π x x') (hy : VR π y y') : (Op.equalIn (d + 1 + 1) t x' y').run P w = .ok b w := by
  unfold aeq at ha
  split at ha
  · cases hx; cases hy
    split at ha
    · rename_i hT
      obtain ⟨_, hk, _⟩ := ti_spec (ht.ti _ _ hT)
      simp only [Option.some.injEq] at ha; subst ha
      unfold Op.equalIn; simp [run_under (und_bool hk)]
    · cases ha
  · cases hx
    split at ha
    · rename_i hT
      obtain ⟨_, hk, _⟩ := ti_spec (ht.ti _ _ hT)
      simp only [Option.some.injEq] at ha; subst ha
      cases hy <;> (unfold Op.equalIn; simp [run_under (und_ptr hk)])
    · cases ha
  · cases hy
    split at ha
    · rename_i hT
      obtain ⟨_, hk, _⟩ := ti_spec (ht.ti _ _ hT)
      simp only [Option.some.injEq] at ha; subst ha
      cases hx; unfold Op.equalIn; simp [run_under (und_ptr hk)]
    · cases ha
  · rename_i i o j p
    cases hx with
    | ptr hL =>
      rename_i L
      cases hy with
      | ptr hM =>
        rename_i M
        split at ha
        · rename_i e _ _ _ hT
          obtain ⟨_, hk, _⟩ := ti_spec (ht.ti _ _ hT)
          split at ha
          · rename_i ei hTe
            obtain ⟨⟨inf, g1, g2, _⟩, _⟩ := ti_spec (ht.ti _ _ hTe)
            rw [beqd] at ha
            by_cases hz : ei.size = 0
            · rw [decide_eq_true hz, cond_true] at ha; cases ha
            · rw [decide_eq_false hz, cond_false] at ha
              cases hu : (unmarked h i && unmarked h j) with
              | false => rw [hu, cond_false] at ha; cases ha
              | true =>
                rw [hu, cond_true] at ha
                simp only [Bool.and_eq_true] at hu
                simp only [Option.some.injEq] at ha
                obtain ⟨L', ds1, ty1, a1, a2, o1, a3, a4⟩ := unmarked_spec hr hu.1
                obtain ⟨M', ds2, ty2, b1, b2, o2, b3, b4⟩ := unmarked_spec hr hu.2
                rw [hL] at a1; injection a1 with a1; subst a1
                rw [hM] at b1; injection b1 with b1; subst b1
                by_cases hij : i = j ∧ o = p
                · obtain ⟨e1, e2⟩ := hij
                  subst e1; subst e2
                  rw [hL] at hM; injection hM with hM; subst hM
                  simp only [beqd, decide_true, Bool.and_self] at ha
                  subst ha
                  unfold Op.equalIn; simp [run_under (und_ptr hk), sizeOf, typeInfo, g1, run_sameAddr_same]
                · have hne : (⟨L.b, L.d + o, none⟩ : Addr) ≠ ⟨M.b, M.d + p, none⟩ := by
                    intro e
                    injection e with e1 e2 _
                    have e3 := hr.sep i j o1 o2 L M a3 b3 a4 b4 hL hM e1
                    subst e3
                    rw [hL] at hM; injection hM with hM; subst hM
                    exact hij ⟨rfl, by omega⟩
                  have hb : b = false := by
                    rw [← ha, beqd, beqd, ← Bool.decide_and]
                    exact decide_eq_false hij
                  subst hb
                  unfold Op.equalIn; simp [run_under (und_ptr hk), sizeOf, typeInfo, g1, g2, hz, run_sameAddr_other w hne a2 b2]
          · cases ha
        · cases ha
  · cases hx
    split at ha
    · rename_i hT
      obtain ⟨_, hk, _⟩ := ti_spec (ht.ti _ _ hT)
      simp only [Option.some.injEq] at ha; subst ha
      cases hy <;> (unfold Op.equalIn; simp [run_under (und_map hk)])
    · cases ha
  · cases hy
    split at ha
    · rename_i hT
      obtain ⟨_, hk, _⟩ := ti_spec (ht.ti _ _ hT)
      simp only [Option.some.injEq] at ha; subst ha
      cases hx; unfold Op.equalIn; simp [run_under (und_map hk)]
    · cases ha
  · cases hx
    split at ha
    · rename_i hT
      obtain ⟨_, hk, _⟩ := ti_spec (ht.ti _ _ hT)
      simp only [Option.some.injEq] at ha; subst ha
      cases hy <;> (unfold Op.equalIn; simp [run_under (und_slice hk)])
    · cases ha
  · cases hy
    split at ha
    · rename_i hT
      obtain ⟨_, hk, _⟩ := ti_spec (ht.ti _ _ hT)
      simp only [Option.some.injEq] at ha; subst ha
      cases hx <;> (unfold Op.equalIn; simp [run_under (und_slice hk)])
    · cases ha
  · cases hx; cases hy
    split at ha
    · rename_i hT
      obtain ⟨_, hk, _⟩ := ti_spec (ht.ti _ _ hT)
      obtain ⟨_, _, _, hf⟩ := und_func hk
      simp only [Option.some.injEq] at ha; subst ha
      unfold Op.equalIn; simp [run_under hf]
    · cases ha
  · cases hx; cases hy
    split at ha
    · rename_i hT
      obtain ⟨_, hk, _⟩ := ti_spec (ht.ti _ _ hT)
      obtain ⟨_, _, _, hf⟩ := und_func hk
      simp only [Option.some.injEq] at ha; subst ha
      unfold Op.equalIn; simp [run_under hf]
    · cases ha
  · cases hx with
    | agg hxs =>
      cases hy with
      | agg hys =>
        split at ha
        · rename_i hT
          obtain ⟨_, hk, _⟩ := ti_spec (ht.ti _ _ hT)
          obtain ⟨fa, hu, hfs, hq⟩ := und_struct hk
          have hq' := hq.symm
          unfold eqOk at hq'
          simp only [Bool.and_eq_true, Bool.not_eq_true', List.all_eq_true] at hq'
          obtain ⟨⟨q1, q2⟩, q3⟩ := hq'
          have hfo : P.fieldsOf t = fa := by simp [Program.fieldsOf, hu]
          have hu' : P.underlying t = some (.struct (P.fieldsOf t)) := by rw [hfo]; exact hu
          rw [run_equalIn_struct w (d + 1) t _ _ hu' q1, hfo]
          rw [hfs] at ha
          exact eqCells_sound ht (d := d) (k := 0) ha hxs hys (fun p hp => by rw [Bool.and_eq_true, Bool.and_eq_true]; exact q3 p hp) (fun j => by simp) (fun j => by simp)
        · cases ha
  · cases ha
theorem aeq_sound (ht : TOk P T) {h : AHeap} {nx : Nat} (hr : HR π N h.get nx w) {t : Nat} {x y x' y' : Value} {b : Bool} (ha : aeq T h t x y = some b) (hx : VR π x x') (hy : VR π y y') : (Op.equal t x' y').run P w = .ok b w := by
  have := aeqIn_sound (P := P) (w := w) 9998 ht hr ha hx hy
  exact this
end
end Go.Proofs.Ytffockklleanmaa.AM
