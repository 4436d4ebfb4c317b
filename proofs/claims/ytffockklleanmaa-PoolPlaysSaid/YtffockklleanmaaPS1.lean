/- A pool in the machine's memory; what only reads it. -/
import Derived.Test.YtffockklleanmaaSXA
namespace Go.Proofs.Ytffockklleanmaa.AM.SX
open Go
set_option linter.unusedVariables false
set_option linter.unusedSimpArgs false
set_option maxRecDepth 100000
set_option maxHeartbeats 4000000
attribute [local irreducible] astep0 aev awants abin abuild
/-- a handle: its number, its block, where it leads, its state -/
structure Hd where
  k : Int
  id : Nat
  aim : ByteArray
  st : Int
structure PS where
  most : Int
  last : Int
  all : List Hd
  idles : List Int
def hKV (x : Hd) : Value × Value := (.int .i64 x.k, .pointer (some ⟨x.id, 0, none⟩))
def HAt (h : AHeap) (x : Hd) : Prop := h.get x.id = some (.cells [.string x.aim, .int .i64 x.st] true)
/-- a pool at p: the blocks that it owns -/
structure PInv (h : AHeap) (p : Nat) (s : PS) (m : Nat) (v : Value) (OI : List Nat) : Prop where
  cell : h.get p = some (.cells [.int .i64 s.most, .int .i64 s.last, .map (some m), v] true)
  map : h.get m = some (.map (s.all.map hKV))
  ints : IntsAt h s.idles v OI
  hs : ∀ x ∈ s.all, HAt h x
  keys : (s.all.map (·.k)).Nodup
  nd : (p :: m :: OI ++ s.all.map (·.id)).Nodup
  lt : ∀ i ∈ p :: m :: OI ++ s.all.map (·.id), i < h.next
def own (p m : Nat) (OI : List Nat) (s : PS) : List Nat := p :: m :: OI ++ s.all.map (·.id)
def PS.find (s : PS) (k : Int) : Option Hd := s.all.find? fun x => x.k == k
def PS.state (s : PS) (k : Int) : Int := match s.find k with | some x => x.st | none => 0
def PS.aim (s : PS) (k : Int) : ByteArray := match s.find k with | some x => x.aim | none => ⟨#[]⟩
theorem mget_all (k : Int) : ∀ l : List Hd, mget (l.map hKV) (.int .i64 k) = some ((l.find? fun x => x.k == k).map fun x => .pointer (some ⟨x.id, 0, none⟩))
  | [] => rfl
  | x :: l => by
    have e : keyEq (.int .i64 k) (.int .i64 x.k) = some (k == x.k) := by simp [keyEq]
    simp only [List.map_cons, hKV, mget, e, List.find?_cons]
    by_cases h : k = x.k
    · subst h; simp
    · have h1 : (k == x.k) = false := by simpa using h
      have h2 : (x.k == k) = false := by simpa using fun e => h e.symm
      rw [h1, h2]
      exact mget_all k l
theorem PInv.bump {h : AHeap} {p : Nat} {s : PS} {m : Nat} {v : Value} {OI : List Nat} (hi : PInv h p s m v OI) (n : Nat) : PInv (bump h n) p s m v OI :=
  ⟨hi.cell, hi.map, hi.ints, hi.hs, hi.keys, hi.nd, fun i hm => Nat.lt_of_lt_of_le (hi.lt i hm) (Nat.le_add_right _ _)⟩
section
variable {n : Nat} {h : AHeap} {p : Nat} {s : PS} {m : Nat} {v : Value} {OI : List Nat}
theorem state_spec (hi : PInv h p s m v OI) (k : Int) : C EE (n + 1) 31 [.pointer (some ⟨p, 0, none⟩), .int .i64 k] h fun r h' => r = .int .i64 (s.state k) ∧ h' = h := by
  have hp := hi.cell
  have hm := hi.map
  have hl := mget_all k s.all
  have hh := hi.hs
  refine C_in (E_X _) F_state rfl rfl rfl ?_
  intro a hn hat
  have e0 := hat 0 _ rfl
  have e1 := hat 1 _ rfl
  replace hn : a.n = 21 := hn
  clear hat hi
  unfold PS.state PS.find
  cases hf : s.all.find? fun x => x.k == k with
  | none =>
    rw [hf] at hl
    replace hl : mget (s.all.map hKV) (.int .i64 k) = some none := hl
    repeat first | refine G_seq ?_ | refine G_reg ?_ | refine N_seq ?_ | refine N_block ?_ | refine G_block ?_ | refine G_skip ?_ | refine G_cT ?_ | refine G_cF ?_ | refine G_ret ?_ | refine U_seq_ret ?_ | refine U_block_ret ?_ | refine U_nil ?_ | refine S_nil ?_ | refine S_auto ?_
    refine FQ_in (by first | exact .inr rfl | exact .inl rfl) (by first | exact ares1 (by simp only [at_put, at_none, n_put, reduceIte, Nat.reduceEqDiff, Nat.reduceLT, zq, *]; first | done | rfl) | exact ares2 (by simp only [at_put, at_none, n_put, reduceIte, Nat.reduceEqDiff, Nat.reduceLT, zq, *]; first | done | rfl) (by simp only [at_put, at_none, n_put, reduceIte, Nat.reduceEqDiff, Nat.reduceLT, zq, *]; first | done | rfl)) ?_
    exact ⟨rfl, rfl⟩
  | some x =>
    rw [hf] at hl
    replace hl : mget (s.all.map hKV) (.int .i64 k) = some (some (.pointer (some ⟨x.id, 0, none⟩))) := hl
    have hx : h.get x.id = some (.cells [.string x.aim, .int .i64 x.st] true) := hh x (List.mem_of_find?_eq_some hf)
    clear hh
    repeat first | refine G_seq ?_ | refine G_reg ?_ | refine N_seq ?_ | refine N_block ?_ | refine G_block ?_ | refine G_skip ?_ | refine G_cT ?_ | refine G_cF ?_ | refine G_ret ?_ | refine U_seq_ret ?_ | refine U_block_ret ?_ | refine U_nil ?_ | refine S_nil ?_ | refine S_auto ?_
    refine FQ_in (by first | exact .inr rfl | exact .inl rfl) (by first | exact ares1 (by simp only [at_put, at_none, n_put, reduceIte, Nat.reduceEqDiff, Nat.reduceLT, zq, *]; first | done | rfl) | exact ares2 (by simp only [at_put, at_none, n_put, reduceIte, Nat.reduceEqDiff, Nat.reduceLT, zq, *]; first | done | rfl) (by simp only [at_put, at_none, n_put, reduceIte, Nat.reduceEqDiff, Nat.reduceLT, zq, *]; first | done | rfl)) ?_
    exact ⟨rfl, rfl⟩
theorem aim_spec (hi : PInv h p s m v OI) (k : Int) : C EE (n + 1) 33 [.pointer (some ⟨p, 0, none⟩), .int .i64 k] h fun r h' => r = .string (s.aim k) ∧ h' = h := by
  have hp := hi.cell
  have hm := hi.map
  have hl := mget_all k s.all
  have hh := hi.hs
  refine C_in (E_X _) F_aim rfl rfl rfl ?_
  intro a hn hat
  have e0 := hat 0 _ rfl
  have e1 := hat 1 _ rfl
  replace hn : a.n = 21 := hn
  clear hat hi
  unfold PS.aim PS.find
  cases hf : s.all.find? fun x => x.k == k with
  | none =>
    rw [hf] at hl
    replace hl : mget (s.all.map hKV) (.int .i64 k) = some none := hl
    repeat first | refine G_seq ?_ | refine G_reg ?_ | refine N_seq ?_ | refine N_block ?_ | refine G_block ?_ | refine G_skip ?_ | refine G_cT ?_ | refine G_cF ?_ | refine G_ret ?_ | refine U_seq_ret ?_ | refine U_block_ret ?_ | refine U_nil ?_ | refine S_nil ?_ | refine S_auto ?_
    refine FQ_in (by first | exact .inr rfl | exact .inl rfl) (by first | exact ares1 (by simp only [at_put, at_none, n_put, reduceIte, Nat.reduceEqDiff, Nat.reduceLT, zq, *]; first | done | rfl) | exact ares2 (by simp only [at_put, at_none, n_put, reduceIte, Nat.reduceEqDiff, Nat.reduceLT, zq, *]; first | done | rfl) (by simp only [at_put, at_none, n_put, reduceIte, Nat.reduceEqDiff, Nat.reduceLT, zq, *]; first | done | rfl)) ?_
    exact ⟨rfl, rfl⟩
  | some x =>
    rw [hf] at hl
    replace hl : mget (s.all.map hKV) (.int .i64 k) = some (some (.pointer (some ⟨x.id, 0, none⟩))) := hl
    have hx : h.get x.id = some (.cells [.string x.aim, .int .i64 x.st] true) := hh x (List.mem_of_find?_eq_some hf)
    clear hh
    repeat first | refine G_seq ?_ | refine G_reg ?_ | refine N_seq ?_ | refine N_block ?_ | refine G_block ?_ | refine G_skip ?_ | refine G_cT ?_ | refine G_cF ?_ | refine G_ret ?_ | refine U_seq_ret ?_ | refine U_block_ret ?_ | refine U_nil ?_ | refine S_nil ?_ | refine S_auto ?_
    refine FQ_in (by first | exact .inr rfl | exact .inl rfl) (by first | exact ares1 (by simp only [at_put, at_none, n_put, reduceIte, Nat.reduceEqDiff, Nat.reduceLT, zq, *]; first | done | rfl) | exact ares2 (by simp only [at_put, at_none, n_put, reduceIte, Nat.reduceEqDiff, Nat.reduceLT, zq, *]; first | done | rfl) (by simp only [at_put, at_none, n_put, reduceIte, Nat.reduceEqDiff, Nat.reduceLT, zq, *]; first | done | rfl)) ?_
    exact ⟨rfl, rfl⟩
theorem len_spec (hi : PInv h p s m v OI) : C EE (n + 1) 30 [.pointer (some ⟨p, 0, none⟩)] h fun r h' => r = .int .i64 (s.all.length : Int) ∧ h' = h := by
  have hp := hi.cell
  have hm := hi.map
  refine C_in (E_X _) F_len rfl rfl rfl ?_
  intro a hn hat
  have e0 := hat 0 _ rfl
  replace hn : a.n = 8 := hn
  clear hat hi
  repeat first | refine G_seq ?_ | refine G_reg ?_ | refine N_seq ?_ | refine N_block ?_ | refine G_block ?_ | refine G_skip ?_ | refine G_cT ?_ | refine G_cF ?_ | refine G_ret ?_ | refine U_seq_ret ?_ | refine U_block_ret ?_ | refine U_nil ?_ | refine S_nil ?_ | refine S_auto ?_
  refine S_step wants0 (o_builtin (by simp only [List.map, aev_tmp, aev_const, aev_func, aev_global, at_put, at_none, n_put, reduceIte, Nat.reduceEqDiff, Nat.reduceLT, zq, *]; first | done | rfl) (lenM (TL rfl) (by simp (disch := omega) only [get_set_self, get_new_self, get_set_ne, get_new_ne, get_bump, next_set, next_new, Nat.lt_irrefl, reduceIte, next_kill, next_bump, *]; first | done | rfl))) ?_
  repeat first | refine G_seq ?_ | refine G_reg ?_ | refine N_seq ?_ | refine N_block ?_ | refine G_block ?_ | refine G_skip ?_ | refine G_cT ?_ | refine G_cF ?_ | refine G_ret ?_ | refine U_seq_ret ?_ | refine U_block_ret ?_ | refine U_nil ?_ | refine S_nil ?_ | refine S_auto ?_
  refine FQ_in (by first | exact .inr rfl | exact .inl rfl) (by first | exact ares1 (by simp only [at_put, at_none, n_put, reduceIte, Nat.reduceEqDiff, Nat.reduceLT, zq, *]; first | done | rfl) | exact ares2 (by simp only [at_put, at_none, n_put, reduceIte, Nat.reduceEqDiff, Nat.reduceLT, zq, *]; first | done | rfl) (by simp only [at_put, at_none, n_put, reduceIte, Nat.reduceEqDiff, Nat.reduceLT, zq, *]; first | done | rfl)) ?_
  rw [List.length_map]
  exact ⟨rfl, rfl⟩
theorem turn_spec (hi : PInv h p s m v OI) (k f t : Int) (hf0 : f ≠ 0) : C EE (n + 2) 42 [.pointer (some ⟨p, 0, none⟩), .int .i64 k, .int .i64 f, .int .i64 t] h fun r h' => r = .bool (decide (s.state k = f)) ∧ ((s.state k ≠ f ∧ h' = h) ∨ (s.state k = f ∧ ∃ x, s.find k = some x ∧ h' = h.set x.id (.cells [.string x.aim, .int .i64 t] true))) := by
  have hp := hi.cell
  have hm := hi.map
  have hl := mget_all k s.all
  have hh := hi.hs
  refine C_in (E_X _) F_turn rfl rfl rfl ?_
  intro a hn hat
  have e0 := hat 0 _ rfl
  have e1 := hat 1 _ rfl
  have e2 := hat 2 _ rfl
  have e3 := hat 3 _ rfl
  replace hn : a.n = 23 := hn
  clear hat
  repeat first | refine G_seq ?_ | refine G_reg ?_ | refine N_seq ?_ | refine N_block ?_ | refine G_block ?_ | refine G_skip ?_ | refine G_cT ?_ | refine G_cF ?_ | refine G_ret ?_ | refine U_seq_ret ?_ | refine U_block_ret ?_ | refine U_nil ?_ | refine S_nil ?_ | refine S_auto ?_
  refine S_call wants0 (by simp only [aev_tmp, aev_const, aev_func, aev_global, at_put, at_none, n_put, reduceIte, Nat.reduceEqDiff, Nat.reduceLT, zq, *]; first | done | rfl) (E_Y _) (by simp only [List.map, aev_tmp, aev_const, aev_func, aev_global, at_put, at_none, n_put, reduceIte, Nat.reduceEqDiff, Nat.reduceLT, zq, *]; first | done | rfl) ?_
  refine (state_spec hi k).mono ?_
  rintro r h' ⟨rfl, rfl⟩
  clear hi
  by_cases hs : s.state k = f
  · obtain ⟨x, hx⟩ : ∃ x, s.find k = some x := by
      unfold PS.state at hs
      cases hx : s.find k with
      | none => rw [hx] at hs; exact absurd hs.symm hf0
      | some x => exact ⟨x, rfl⟩
    have hxm : x ∈ s.all := List.mem_of_find?_eq_some hx
    have hx2 : h'.get x.id = some (.cells [.string x.aim, .int .i64 x.st] true) := hh x hxm
    have hx3 : s.all.find? (fun x => x.k == k) = some x := hx
    rw [hx3] at hl
    replace hl : mget (s.all.map hKV) (.int .i64 k) = some (some (.pointer (some ⟨x.id, 0, none⟩))) := hl
    clear hx3 hh
    repeat first | refine G_seq ?_ | refine G_reg ?_ | refine N_seq ?_ | refine N_block ?_ | refine G_block ?_ | refine G_skip ?_ | refine G_cT ?_ | refine G_cF ?_ | refine G_ret ?_ | refine U_seq_ret ?_ | refine U_block_ret ?_ | refine U_nil ?_ | refine S_nil ?_ | refine S_auto ?_
    refine FQ_in (by first | exact .inr rfl | exact .inl rfl) (by first | exact ares1 (by simp only [at_put, at_none, n_put, reduceIte, Nat.reduceEqDiff, Nat.reduceLT, zq, *]; first | done | rfl) | exact ares2 (by simp only [at_put, at_none, n_put, reduceIte, Nat.reduceEqDiff, Nat.reduceLT, zq, *]; first | done | rfl) (by simp only [at_put, at_none, n_put, reduceIte, Nat.reduceEqDiff, Nat.reduceLT, zq, *]; first | done | rfl)) ?_
    exact ⟨by simp [hs, oneOf], .inr ⟨hs, x, hx, rfl⟩⟩
  · repeat first | refine G_seq ?_ | refine G_reg ?_ | refine N_seq ?_ | refine N_block ?_ | refine G_block ?_ | refine G_skip ?_ | refine G_cT ?_ | refine G_cF ?_ | refine G_ret ?_ | refine U_seq_ret ?_ | refine U_block_ret ?_ | refine U_nil ?_ | refine S_nil ?_ | refine S_auto ?_
    refine FQ_in (by first | exact .inr rfl | exact .inl rfl) (by first | exact ares1 (by simp only [at_put, at_none, n_put, reduceIte, Nat.reduceEqDiff, Nat.reduceLT, zq, *]; first | done | rfl) | exact ares2 (by simp only [at_put, at_none, n_put, reduceIte, Nat.reduceEqDiff, Nat.reduceLT, zq, *]; first | done | rfl) (by simp only [at_put, at_none, n_put, reduceIte, Nat.reduceEqDiff, Nat.reduceLT, zq, *]; first | done | rfl)) ?_
    exact ⟨by simp [hs, oneOf], .inl ⟨hs, rfl⟩⟩
end
end Go.Proofs.Ytffockklleanmaa.AM.SX
