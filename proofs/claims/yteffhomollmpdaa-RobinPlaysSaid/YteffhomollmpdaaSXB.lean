/- What comparing and reckoning gives. -/
import Derived.Test.YteffhomollmpdaaSXD
import Derived.IntWalk
namespace Go.Proofs.Yteffhomollmpdaa.AM.SX
open Go
set_option linter.unusedVariables false
set_option linter.unusedSimpArgs false
section
variable {T : Tr TI} {h : AHeap} {t : Nat}
theorem wrap64 {x : Int} (h1 : -9223372036854775808 ≤ x) (h2 : x ≤ 9223372036854775807) : IntKind.i64.wrap x = x := by
  rw [IntKind.wrap_i64]; omega
theorem b_lss {k : IntKind} {x y : Int} : abin T h .lss t (.int k x) (.int k y) = some (.bool (decide (x < y))) := by simp [abin, aint]
theorem b_leq {k : IntKind} {x y : Int} : abin T h .leq t (.int k x) (.int k y) = some (.bool (decide (x ≤ y))) := by simp [abin, aint]
theorem b_gtr {k : IntKind} {x y : Int} : abin T h .gtr t (.int k x) (.int k y) = some (.bool (decide (y < x))) := by simp [abin, aint]
theorem b_geq {k : IntKind} {x y : Int} : abin T h .geq t (.int k x) (.int k y) = some (.bool (decide (y ≤ x))) := by simp [abin, aint]
theorem b_eql {k : IntKind} {x y : Int} : abin T h .eql t (.int k x) (.int k y) = some (.bool (decide (x = y))) := by
  simp only [abin, aint, if_true]; rfl
theorem b_neq {k : IntKind} {x y : Int} : abin T h .neq t (.int k x) (.int k y) = some (.bool (decide (x ≠ y))) := by
  simp only [abin, aint, if_true]
  congr 2
  show (!(x == y)) = _
  by_cases e : x = y <;> simp [e]
theorem b_add {x y : Int} (h1 : -9223372036854775808 ≤ x + y) (h2 : x + y ≤ 9223372036854775807) : abin T h .add t (.int .i64 x) (.int .i64 y) = some (.int .i64 (x + y)) := by
  simp only [abin, aint, if_true, wrap64 h1 h2]
theorem b_sub {x y : Int} (h1 : -9223372036854775808 ≤ x - y) (h2 : x - y ≤ 9223372036854775807) : abin T h .sub t (.int .i64 x) (.int .i64 y) = some (.int .i64 (x - y)) := by
  simp only [abin, aint, if_true, wrap64 h1 h2]
theorem eqB_eq : ∀ x y : List UInt8, eqB x y = decide (x = y)
  | [], [] => by simp [eqB]
  | [], _ :: _ => by simp [eqB]
  | _ :: _, [] => by simp [eqB]
  | a :: x, b :: y => by
    simp only [eqB, beqd, eqB_eq x y]
    by_cases e : a = b
    · subst e; simp
    · have : a.toNat ≠ b.toNat := fun h => e (UInt8.toNat_inj.1 h)
      simp [e, this]
theorem bl_inj {x y : ByteArray} : bl x = bl y ↔ x = y := by
  constructor
  · intro h
    rcases x with ⟨⟨x⟩⟩; rcases y with ⟨⟨y⟩⟩
    simpa [bl] using h
  · rintro rfl; rfl
theorem eqS (x y : ByteArray) : eqB (bl x) (bl y) = decide (x = y) := by
  rw [eqB_eq]; simp only [bl_inj]
theorem b_seql {x y : ByteArray} : abin T h .eql t (.string x) (.string y) = some (.bool (decide (x = y))) := by
  simp only [abin, astr, eqS]
theorem b_sneq {x y : ByteArray} : abin T h .neq t (.string x) (.string y) = some (.bool (decide (x ≠ y))) := by
  simp only [abin, astr, eqS]
  by_cases e : x = y <;> simp [e]
theorem b_nilP {e sz b : Nat} {z : Value} {a : Addr} (hT : T.get t = some ⟨.ptr e, sz, b, z⟩) : abin T h .eql t (.pointer (some a)) (.pointer none) = some (.bool false) := by
  obtain ⟨i, o, w⟩ := a
  cases w <;> simp [abin, aeq, hT]
theorem build_struct {fs : List (Nat × Nat)} {q : Bool} {sz b : Nat} {z : Value} {ps : List (Nat × Nat)} {l : List (Nat × Value)} (hT : T.get t = some ⟨.struct fs q, sz, b, z⟩) (hs : sizes T fs = some ps) : abuild T t l = match afill (fun i => ps[i]?) z.cells.toList l with | some r => some (.agg ⟨r⟩) | none => none := by
  simp only [abuild, hT, hs]; rfl
theorem lk_some {kt et sz b : Nat} {z key r : Value} {ok : Bool} {l : List (Value × Value)} {m : Nat} {i : TI} (hT : T.get t = some ⟨.map kt et, sz, b, z⟩) (hi : T.get et = some i) (hk : isKey T kt key = true) (hg : h.get m = some (.map l)) (hl : mget l key = some (some r)) : alookup T h t (.map (some m)) key ok = some (bif ok then .tuple #[r, .bool true] else r) := by
  simp only [alookup, hT, hi, hk, cond_true, hg, hl]; rfl
theorem lk_none {kt et sz b : Nat} {z key : Value} {ok : Bool} {l : List (Value × Value)} {m : Nat} {i : TI} (hT : T.get t = some ⟨.map kt et, sz, b, z⟩) (hi : T.get et = some i) (hk : isKey T kt key = true) (hg : h.get m = some (.map l)) (hl : mget l key = some none) : alookup T h t (.map (some m)) key ok = some (bif ok then .tuple #[i.zero, .bool false] else i.zero) := by
  simp only [alookup, hT, hi, hk, cond_true, hg, hl]; rfl
theorem isKey_int {kt sz b : Nat} {z : Value} {k : IntKind} {n : Int} (hT : T.get kt = some ⟨.int k, sz, b, z⟩) : isKey T kt (.int k n) = true := by simp [isKey, hT]
end
end Go.Proofs.Yteffhomollmpdaa.AM.SX
