/- Rows of numbers in the machine's memory. -/
import Derived.Test.YteffhomollmpdaaSXB
namespace Go.Proofs.Yteffhomollmpdaa.AM.SX
open Go
set_option linter.unusedVariables false
set_option linter.unusedSimpArgs false
def ints (l : List Int) : List Value := l.map fun n => .int .i64 n
/-- a row of numbers: a slice's value, the block that it owns -/
def IntsAt (h : AHeap) (l : List Int) (v : Value) (O : List Nat) : Prop :=
  (l = [] ∧ v = .slice none 0 0 ∧ O = []) ∨ ∃ b js, v = .slice (some ⟨b, 0, none⟩) l.length (CAPX + 1) ∧ h.get b = some (.cells (ints (l ++ js)) true) ∧ O = [b]
/-- what is not owned stays -/
def Keep (h h' : AHeap) (O : List Nat) : Prop := h.next ≤ h'.next ∧ ∀ i, i < h.next → i ∉ O → h'.get i = h.get i
theorem Keep.refl (h : AHeap) (O : List Nat) : Keep h h O := ⟨Nat.le_refl _, fun _ _ _ => rfl⟩
theorem Keep.trans {h h' h'' : AHeap} {O O' : List Nat} (k : Keep h h' O) (k' : Keep h' h'' O') (ho : ∀ i ∈ O', i ∈ O ∨ h.next ≤ i) : Keep h h'' O :=
  ⟨Nat.le_trans k.1 k'.1, fun i hi hn => by
    rw [k'.2 i (Nat.lt_of_lt_of_le hi k.1) (fun hm => by
      rcases ho i hm with h1 | h1
      · exact hn h1
      · omega), k.2 i hi hn]⟩
theorem Keep.mono {h h' : AHeap} {O O' : List Nat} (k : Keep h h' O) (ho : ∀ i ∈ O, i ∈ O') : Keep h h' O' := ⟨k.1, fun i hi hn => k.2 i hi (fun hm => hn (ho i hm))⟩
theorem Keep.bump (h : AHeap) (n : Nat) (O : List Nat) : Keep h (bump h n) O := ⟨Nat.le_add_right _ _, fun _ _ _ => rfl⟩
theorem Keep.new (h : AHeap) (o : AObj) (O : List Nat) : Keep h (h.new h.next o) O := ⟨by rw [next_new_self]; omega, fun i hi _ => get_new_ne (by omega)⟩
theorem Keep.set (h : AHeap) (i : Nat) (o : AObj) : Keep h (h.set i o) [i] := ⟨Nat.le_refl _, fun j _ hn => get_set_ne (by simpa using hn)⟩
theorem cut_len {cs r : List Value} {o n : Nat} (hr : r = (cs.drop o).take n) (hl : r.length = n) : cut cs o n = some r := by
  subst hr
  simp only [cut, hl, beqd, decide_true, cond_true]
theorem over_app : ∀ (vs cs ds : List Value), vs.length = cs.length → over (cs ++ ds) vs = some (vs ++ ds)
  | [], [], ds, _ => by cases ds <;> rfl
  | v :: vs, [], ds, h => by simp at h
  | [], c :: cs, ds, h => by simp at h
  | v :: vs, c :: cs, ds, h => by
    simp only [List.cons_append, over]
    rw [over_app vs cs ds (by simpa using h)]
theorem putAt_app : ∀ (as vs cs ds : List Value), vs.length = cs.length → putAt (as ++ (cs ++ ds)) as.length vs = some (as ++ (vs ++ ds))
  | [], vs, cs, ds, h => by
    have := over_app vs cs ds h
    cases hc : cs ++ ds with
    | nil => rw [hc] at this; simpa [putAt] using this
    | cons c r => rw [hc] at this; simpa [putAt] using this
  | a :: as, vs, cs, ds, h => by
    simp only [List.cons_append, List.length_cons, putAt]
    rw [putAt_app as vs cs ds h]
def intTI : TI := ⟨.int .i64, 1, 8, .int .i64 0⟩
section
variable {T : Tr TI} {h : AHeap} {st e sz b : Nat} {z : Value}
end
theorem bi_app {T : Tr TI} {h : AHeap} {nid : Nat} {ts : List Nat} {s x : Value} {r : Value × AHeap} (h1 : aappend T h nid ts s x = some r) : abuiltin T h nid .append ts [s, x] = some r := h1
/-! ### values that are as they are -/
def vok1 : Value → Bool
  | .bool _ | .int _ _ | .string _ | .pointer none | .pointer (some ⟨_, _, none⟩) | .slice none _ _ | .slice (some ⟨_, _, none⟩) _ _ | .map _ | .nilFunc | .nilIface => true
  | _ => false
def vok : Value → Bool
  | .agg x => x.toList.all vok1
  | .tuple x => x.toList.all vok1
  | v => vok1 v
theorem veq1_self : ∀ {v : Value}, vok1 v = true → veq1 v v = true
  | .bool a, _ => by simp [veq1]
  | .int _ _, _ => by simp [veq1]
  | .string _, _ => by simp [veq1, eqB_eq]
  | .pointer none, _ => rfl
  | .pointer (some ⟨_, _, none⟩), _ => by simp [veq1]
  | .slice none _ _, _ => by simp [veq1]
  | .slice (some ⟨_, _, none⟩) _ _, _ => by simp [veq1]
  | .map none, _ => rfl
  | .map (some _), _ => by simp [veq1]
  | .nilFunc, _ => rfl
  | .nilIface, _ => rfl
  | .pointer (some ⟨_, _, some _⟩), h => by simp [vok1] at h
  | .slice (some ⟨_, _, some _⟩) _ _, h => by simp [vok1] at h
  | .iface _ _, h => by simp [vok1] at h
  | .agg _, h => by simp [vok1] at h
  | .tuple _, h => by simp [vok1] at h
  | .func _ _ _, h => by simp [vok1] at h
  | .chan _, h => by simp [vok1] at h
  | .float _ _, h => by simp [vok1] at h
  | .complex _ _ _, h => by simp [vok1] at h
theorem veqs_self : ∀ {l : List Value}, l.all vok1 = true → veqs l l = true
  | [], _ => rfl
  | v :: l, h => by
    simp only [List.all_cons, Bool.and_eq_true] at h
    simp only [veqs, veq1_self h.1, veqs_self h.2, Bool.and_self]
theorem veq_self {v : Value} (h : vok v = true) : veq v v = true := by
  cases v with
  | agg x => exact veqs_self h
  | tuple x => exact veqs_self h
  | iface t v => simp [vok, vok1] at h
  | _ => exact veq1_self (by simpa [vok] using h)
theorem IntsAt.vok {h : AHeap} {l : List Int} {v : Value} {O : List Nat} (hv : IntsAt h l v O) : veq v v = true := by
  rcases hv with ⟨_, rfl, _⟩ | ⟨b, js, rfl, _⟩ <;> exact veq_self rfl
theorem IntsAt.index {T : Tr TI} {st e sz b : Nat} {z : Value} {h : AHeap} {l : List Int} {v : Value} {O : List Nat} (hst : T.get st = some ⟨.slice e, sz, b, z⟩) (he : T.get e = some intTI) (hv : IntsAt h l v O) {i : Nat} (hi : i < l.length) : ∃ bk cs, aindexAddr T st v (.int .i64 (i : Int)) = some (.pointer (some ⟨bk, i, none⟩)) ∧ h.get bk = some (.cells cs true) ∧ cs[i]? = some (.int .i64 (l[i]'hi)) := by
  rcases hv with ⟨rfl, _, _⟩ | ⟨bk, js, rfl, hb, rfl⟩
  · exact absurd hi (Nat.not_lt_zero _)
  · refine ⟨bk, _, ?_, hb, ?_⟩
    · simp only [aindexAddr, hst, he, intTI]
      rw [if_pos ⟨Int.natCast_nonneg _, by omega⟩]
      simp
    · simp [ints, List.getElem?_append_left, hi]
theorem IntsAt.len {h : AHeap} {l : List Int} {v : Value} {O : List Nat} (hv : IntsAt h l v O) : ∃ A c, v = .slice A l.length c := by
  rcases hv with ⟨rfl, rfl, _⟩ | ⟨b, js, rfl, _⟩
  · exact ⟨_, _, rfl⟩
  · exact ⟨_, _, rfl⟩
theorem bi_max {T : Tr TI} {h : AHeap} {nid : Nat} {ts : List Nat} {k j : IntKind} {x y : Int} : abuiltin T h nid .max ts [.int k x, .int j y] = some (.int k (max x y), h) := by
  simp only [abuiltin, aminmax, cond_true]
  congr 3
  by_cases e : y > x <;> simp [e] <;> omega
theorem bi_min {T : Tr TI} {h : AHeap} {nid : Nat} {ts : List Nat} {k j : IntKind} {x y : Int} : abuiltin T h nid .min ts [.int k x, .int j y] = some (.int k (min x y), h) := by
  simp only [abuiltin, aminmax, cond_false]
  congr 3
  by_cases e : y < x <;> simp [e] <;> omega
theorem lenS {T : Tr TI} {h : AHeap} {nid t e sz b n c : Nat} {z : Value} {ts : List Nat} {A : Option Addr} (hT : T.get t = some ⟨.slice e, sz, b, z⟩) : abuiltin T h nid .len (t :: ts) [.slice A n c] = some (.int .i64 (n : Int), h) := by
  simp only [abuiltin, alen, hT]
theorem IntsAt.lenB {T : Tr TI} {h h2 : AHeap} {nid t e sz b : Nat} {z : Value} {ts : List Nat} {l : List Int} {v : Value} {O : List Nat} (hv : IntsAt h l v O) (hT : T.get t = some ⟨.slice e, sz, b, z⟩) : abuiltin T h2 nid .len (t :: ts) [v] = some (.int .i64 (l.length : Int), h2) := by
  obtain ⟨A, c, rfl⟩ := hv.len
  exact lenS hT
theorem optNat_int (i d : Nat) : optNat (some (.int .i64 (i : Int))) d = some i := by simp [optNat, nat?]
theorem optNat_none (d : Nat) : optNat none d = some d := rfl
theorem cl_none {T : Tr TI} {st : Nat} {i : TI} {h : AHeap} {A : Option Addr} {c nid : Nat} {ts : List Nat} (hst : T.get st = some i) : abuiltin T h nid .clear (st :: ts) [.slice A 0 c] = some (.tuple #[], h) := by
  cases A <;> simp only [abuiltin, hst, aclear]
/-- a store of a value that is one cell -/
theorem o_st1 {E : Env} {cf : CallF} {a : AAct} {h : AHeap} {nid : Nat} {dst : Option Nat} {ty : Nat} {pos : String} {aft : Array Edge} {g : Option (Nat × Bool)} {t : Nat} {x y : Operand} {id o : Nat} {v : Value} (hx : aev a x = .pointer (some ⟨id, o, none⟩)) (hy : aev a y = v) {i : TI} (hT : E.T.get t = some i) (hs : i.size = 1) (h1 : v.cells.toList = [v] ∧ one v = true) {cs : List Value} {z : Bool} (hg : h.get id = some (.cells cs z)) {r : List Value} (hp : putAt cs o [v] = some r) : astep0 E cf a h nid ⟨dst, .store t x y, ty, pos, aft, g⟩ = some (undef, h.set id (.cells r z)) := by
  obtain ⟨h1, h2⟩ := h1
  exact o_st hx hy hT (by rw [h1, hs]; rfl) hg (by rw [h1]; simp [ones, h2]) (by rw [h1]; exact hp)
theorem IntsAt.one {h : AHeap} {l : List Int} {v : Value} {O : List Nat} (hv : IntsAt h l v O) : v.cells.toList = [v] ∧ one v = true := by
  rcases hv with ⟨_, rfl, _⟩ | ⟨b, js, rfl, _⟩ <;> exact ⟨rfl, rfl⟩
end Go.Proofs.Yteffhomollmpdaa.AM.SX
