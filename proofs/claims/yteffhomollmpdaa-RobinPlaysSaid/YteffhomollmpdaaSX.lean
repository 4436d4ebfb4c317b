import Derived.Test.YteffhomollmpdaaAMZ1
/- Walking on the machine with values that aren't known: what is to be shown of a run. -/
namespace Go.Proofs.Yteffhomollmpdaa.AM.SX
open Go
set_option linter.unusedVariables false
set_option linter.unusedSectionVars false
set_option linter.unusedSimpArgs false

/-! ### places -/
theorem at_put (a : AAct) (d t : Nat) (v : Value) : (a.put (some d) v).at t = if t = d then (if t < a.n then v else undef) else a.at t := by
  rw [AAct.put_some, AAct.at_eq, AAct.at_eq]
  simp only [Tr.get_put, bltd]
  by_cases h : t = d
  · subst h; by_cases h2 : t < a.n <;> simp [h2]
  · simp [h]
theorem n_put (a : AAct) (d : Option Nat) (v : Value) : (a.put d v).n = a.n := by
  rw [AAct.put_eq]
theorem at_none (a : AAct) (t : Nat) (v : Value) : (a.put none v).at t = a.at t := by rw [AAct.put_none]
theorem aev_tmp (a : AAct) (t : Nat) : aev a (.tmp t) = a.at t := rfl
theorem aev_const (a : AAct) (v : Value) : aev a (.const v) = v := rfl
theorem aev_func (a : AAct) (f : Nat) : aev a (.func f) = .func (.func f) #[] #[] := rfl
theorem aev_global (a : AAct) (g : Nat) : aev a (.global g) = .pointer (some ⟨g, 0, none⟩) := rfl

/-! ### heaps -/
theorem get_set (h : AHeap) (i j : Nat) (o : AObj) : (h.set i o).get j = if j = i then some o else h.get j := Tr.get_put h.t i j (some o)
theorem get_new (h : AHeap) (i j : Nat) (o : AObj) : (h.new i o).get j = if j = i then some o else h.get j := Tr.get_put h.t i j (some o)
theorem get_kill (h : AHeap) (i j : Nat) : (h.kill i).get j = if j = i then none else h.get j := Tr.get_put h.t i j none
theorem next_set (h : AHeap) (i : Nat) (o : AObj) : (h.set i o).next = h.next := rfl
theorem next_kill (h : AHeap) (i : Nat) : (h.kill i).next = h.next := rfl
theorem next_new (h : AHeap) (i : Nat) (o : AObj) : (h.new i o).next = if i < h.next then h.next else i + 1 := by
  unfold AHeap.new; simp only [bltd]; by_cases e : i < h.next <;> simp [e]
theorem next_new_self (h : AHeap) (o : AObj) : (h.new h.next o).next = h.next + 1 := by rw [next_new, if_neg (Nat.lt_irrefl _)]
theorem get_set_self (h : AHeap) (i : Nat) (o : AObj) : (h.set i o).get i = some o := by rw [get_set, if_pos rfl]
theorem get_set_ne {h : AHeap} {i j : Nat} {o : AObj} (e : j ≠ i) : (h.set i o).get j = h.get j := by rw [get_set, if_neg e]
theorem get_new_self (h : AHeap) (i : Nat) (o : AObj) : (h.new i o).get i = some o := by rw [get_new, if_pos rfl]
theorem get_new_ne {h : AHeap} {i j : Nat} {o : AObj} (e : j ≠ i) : (h.new i o).get j = h.get j := by rw [get_new, if_neg e]
theorem rd_cells {h : AHeap} {id : Nat} {cs : List Value} {z : Bool} (e : h.get id = some (.cells cs z)) : rd h id = some cs := by unfold rd; rw [e]
theorem rd_ro {h : AHeap} {id : Nat} {cs : List Value} (e : h.get id = some (.ro cs)) : rd h id = some cs := by unfold rd; rw [e]

/-! ### frames of what is left -/
inductive Fr where
  | seq (c : Code)
  | block (id : Nat)
abbrev QT := Exit → AAct → AHeap → Prop
section
variable (E : Env) (cf : CallF) (n : Nat)
def R (c : Code) (a : AAct) (h : AHeap) (Q : QT) : Prop := ∃ e a' h', acode E cf n c a h = some (e, a', h') ∧ Q e a' h'
/-- what is left behind an exit -/
def U : List Fr → QT → QT
  | [], Q, e, a, h => Q e a h
  | .seq c :: k, Q, .normal, a, h => R E cf n c a h (U k Q)
  | .seq _ :: k, Q, e, a, h => U k Q e a h
  | .block id :: k, Q, .exit j, a, h => U k Q (if j = id then .normal else .exit j) a h
  | .block _ :: k, Q, e, a, h => U k Q e a h
def G (k : List Fr) (c : Code) (a : AAct) (h : AHeap) (Q : QT) : Prop := R E cf n c a h (U E cf n k Q)
def S (ops : Array Oper) (os : List Oper) (a : AAct) (h : AHeap) (Q : AAct → AHeap → Prop) : Prop := ∃ a' h', aseq E cf ops os a h = some (a', h') ∧ Q a' h'
def N (k : List Fr) (a : AAct) (h : AHeap) (Q : QT) : Prop := U E cf n k Q .normal a h
end
section
variable {E : Env} {cf : CallF} {n : Nat} {k : List Fr} {a : AAct} {h : AHeap} {Q : QT} {x y c : Code}
theorem R.mono {Q Q' : QT} (hR : R E cf n c a h Q) (hq : ∀ e a h, Q e a h → Q' e a h) : R E cf n c a h Q' := by
  obtain ⟨e, a', h', h1, h2⟩ := hR
  exact ⟨e, a', h', h1, hq _ _ _ h2⟩
theorem G_seq (hh : G E cf n (.seq y :: k) x a h Q) : G E cf n k (.seq x y) a h Q := by
  obtain ⟨e, a', h', h1, h2⟩ := hh
  cases e with
  | normal =>
    obtain ⟨e2, a2, h2', h3, h4⟩ := h2
    refine ⟨e2, a2, h2', ?_, h4⟩
    simp only [acode, h1, h3]
  | exit j => exact ⟨.exit j, a', h', by simp only [acode, h1], h2⟩
  | ret => exact ⟨.ret, a', h', by simp only [acode, h1], h2⟩
  | _ => exact ⟨_, a', h', by simp only [acode, h1], h2⟩
theorem G_skip (hh : N E cf n k a h Q) : G E cf n k .skip a h Q := ⟨.normal, a, h, rfl, hh⟩
theorem G_ret (hh : U E cf n k Q .ret a h) : G E cf n k .ret a h Q := ⟨.ret, a, h, rfl, hh⟩
theorem G_exit {id : Nat} (hh : U E cf n k Q (.exit id) a h) : G E cf n k (.exit id) a h Q := ⟨.exit id, a, h, rfl, hh⟩
theorem G_block {id : Nat} (hh : G E cf n (.block id :: k) c a h Q) : G E cf n k (.block id c) a h Q := by
  obtain ⟨e, a', h', h1, h2⟩ := hh
  cases e with
  | exit j =>
    by_cases hj : j = id
    · refine ⟨.normal, a', h', ?_, ?_⟩
      · simp only [acode, h1, beqd, hj, decide_true, cond_true]
      · simpa only [U, hj, if_true] using h2
    · refine ⟨.exit j, a', h', ?_, ?_⟩
      · simp only [acode, h1, beqd, hj, decide_false, cond_false]
      · simpa only [U, hj, if_false] using h2
  | _ => exact ⟨_, a', h', by simp only [acode, h1], h2⟩
theorem G_cond {o : Operand} {b : Bool} (hx : aev a o = .bool b) (ht : b = true → G E cf n k x a h Q) (hf : b = false → G E cf n k y a h Q) : G E cf n k (.cond o x y) a h Q := by
  cases b with
  | true =>
    obtain ⟨e, a', h', h1, h2⟩ := ht rfl
    exact ⟨e, a', h', by simp only [acode, hx, h1], h2⟩
  | false =>
    obtain ⟨e, a', h', h1, h2⟩ := hf rfl
    exact ⟨e, a', h', by simp only [acode, hx, h1], h2⟩
theorem G_condT {o : Operand} (hx : aev a o = .bool true) (ht : G E cf n k x a h Q) : G E cf n k (.cond o x y) a h Q := G_cond hx (fun _ => ht) (fun h => by cases h)
theorem G_condF {o : Operand} (hx : aev a o = .bool false) (hf : G E cf n k y a h Q) : G E cf n k (.cond o x y) a h Q := G_cond hx (fun h => by cases h) (fun _ => hf)
theorem G_reg {id : Nat} {ops : Array Oper} (hh : S E cf ops ops.toList a h (fun a' h' => N E cf n k a' h' Q)) : G E cf n k (.region id ops false) a h Q := by
  obtain ⟨a', h', h1, h2⟩ := hh
  exact ⟨.normal, a', h', by simp only [acode, cond_false, h1], h2⟩
def JQ (E : Env) (cf : CallF) (n : Nat) (k : List Fr) (Q : QT) (P : AAct → AHeap → Prop) : QT := fun e a h => match e with
  | .normal => P a h
  | e => U E cf n k Q e a h
/-- ways meet behind a piece of code -/
theorem G_join (P : AAct → AHeap → Prop) (h1 : G E cf n [] c a h (JQ E cf n (.seq y :: k) Q P)) (h2 : ∀ a h, P a h → G E cf n k y a h Q) : G E cf n (.seq y :: k) c a h Q := by
  obtain ⟨e, a', h', g1, g2⟩ := h1
  refine ⟨e, a', h', g1, ?_⟩
  cases e with
  | normal => exact h2 a' h' g2
  | _ => exact g2
theorem JQ_U {P : AAct → AHeap → Prop} (h2 : ∀ a h, P a h → G E cf n k y a h Q) : ∀ e a h, JQ E cf n (.seq y :: k) Q P e a h → U E cf n (.seq y :: k) Q e a h := by
  intro e a h he
  cases e with
  | normal => exact h2 a h he
  | _ => exact he
/-- ways meet behind two pieces of code -/
theorem G_join2 {y2 : Code} (P : AAct → AHeap → Prop) (h1 : G E cf n [.seq y2] c a h (JQ E cf n (.seq y :: k) Q P)) (h2 : ∀ a h, P a h → G E cf n k y a h Q) : G E cf n (.seq y2 :: .seq y :: k) c a h Q := by
  obtain ⟨e, a', h', g1, g2⟩ := h1
  refine ⟨e, a', h', g1, ?_⟩
  cases e with
  | normal => exact R.mono g2 (JQ_U h2)
  | _ => exact JQ_U h2 _ _ _ g2
theorem JQ_n {P : AAct → AHeap → Prop} (hh : P a h) : JQ E cf n k Q P .normal a h := hh
theorem G_gen (P : AAct → AHeap → Prop) (hp : P a h) (hh : ∀ a h, P a h → G E cf n k c a h Q) : G E cf n k c a h Q := hh a h hp
theorem N_nil (hh : Q .normal a h) : N E cf n [] a h Q := hh
theorem N_seq (hh : G E cf n k c a h Q) : N E cf n (.seq c :: k) a h Q := hh
theorem N_block {id : Nat} (hh : N E cf n k a h Q) : N E cf n (.block id :: k) a h Q := hh
theorem U_nil {e : Exit} (hh : Q e a h) : U E cf n [] Q e a h := hh
theorem U_seq_ret (hh : U E cf n k Q .ret a h) : U E cf n (.seq c :: k) Q .ret a h := hh
theorem U_block_ret {id : Nat} (hh : U E cf n k Q .ret a h) : U E cf n (.block id :: k) Q .ret a h := hh
theorem U_seq_exit {j : Nat} (hh : U E cf n k Q (.exit j) a h) : U E cf n (.seq c :: k) Q (.exit j) a h := hh
theorem U_block_hit {j : Nat} (hh : N E cf n k a h Q) : U E cf n (.block j :: k) Q (.exit j) a h := by
  show U E cf n k Q (if j = j then .normal else .exit j) a h
  rw [if_pos rfl]; exact hh
/-- a loop: what holds ahead of each round, and how many rounds there are at most -/
def LQ (E : Env) (cf : CallF) (n : Nat) (I : Nat → AAct → AHeap → Prop) (k : List Fr) (Q : QT) (j : Nat) : QT := fun e a h => match e with
  | .normal => ∃ j', j' < j ∧ I j' a h
  | e => U E cf n k Q e a h
theorem aloop_spec {f : AAct → AHeap → Option (Exit × AAct × AHeap)} {I : Nat → AAct → AHeap → Prop} {Q : QT} (step : ∀ j a h, I j a h → ∃ e a' h', f a h = some (e, a', h') ∧ match e with | .normal => ∃ j', j' < j ∧ I j' a' h' | e => Q e a' h') : ∀ (m j : Nat) (a : AAct) (h : AHeap), j < m → I j a h → ∃ e a' h', aloop f m a h = some (e, a', h') ∧ Q e a' h'
  | 0, j, a, h, hj, _ => absurd hj (Nat.not_lt_zero _)
  | m + 1, j, a, h, hj, hI => by
    obtain ⟨e, a', h', h1, h2⟩ := step j a h hI
    cases e with
    | normal =>
      obtain ⟨j', hj', hI'⟩ := h2
      obtain ⟨e2, a2, h2', h3, h4⟩ := aloop_spec step m j' a' h' (by omega) hI'
      exact ⟨e2, a2, h2', by simp only [aloop, h1]; exact h3, h4⟩
    | _ => exact ⟨_, a', h', by simp only [aloop, h1], h2⟩
theorem G_loop (I : Nat → AAct → AHeap → Prop) (j : Nat) (hj : j < n) (h0 : I j a h) (step : ∀ j a h, I j a h → G E cf n [] c a h (LQ E cf n I k Q j)) : G E cf n k (.loop c) a h Q := by
  obtain ⟨e, a', h', h1, h2⟩ := aloop_spec (f := acode E cf n c) (I := I) (Q := U E cf n k Q) (fun j a h hI => by
    obtain ⟨e, a', h', h1, h2⟩ := step j a h hI
    refine ⟨e, a', h', h1, ?_⟩
    cases e <;> exact h2) n j a h hj h0
  exact ⟨e, a', h', by simp only [acode]; exact h1, h2⟩
theorem LQ_n {I : Nat → AAct → AHeap → Prop} {j : Nat} (j' : Nat) (hj : j' < j) (hI : I j' a h) : LQ E cf n I k Q j .normal a h := ⟨j', hj, hI⟩
theorem LQ_exit {I : Nat → AAct → AHeap → Prop} {j i : Nat} (hh : U E cf n k Q (.exit i) a h) : LQ E cf n I k Q j (.exit i) a h := hh
theorem LQ_ret {I : Nat → AAct → AHeap → Prop} {j : Nat} (hh : U E cf n k Q .ret a h) : LQ E cf n I k Q j .ret a h := hh
end

/-! ### a range over an iterator -/
section
variable {E : Env} {cf : CallF} {n : Nat} {k : List Fr} {a : AAct} {h : AHeap} {Q : QT} {x y : Code}
/-- behind a round's body -/
def BQ (E : Env) (cf : CallF) (n : Nat) (k : List Fr) (Q : QT) (a : AAct) (J : AHeap → Prop) : QT := fun e _ h => match e with
  | .normal => J h
  | .ret => U E cf n k Q .ret a h
  | .exit id => U E cf n k Q (.exit id) a h
  | _ => False
/-- behind a round's assignments -/
def AQ (E : Env) (cf : CallF) (n : Nat) (y : Code) (B : QT) : QT := fun e a h => match e with
  | .normal => G E cf n [] y a h B
  | _ => False
end
/-! ### calls -/
def C (E : Env) (n f : Nat) (args : List Value) (h : AHeap) (Q : Value → AHeap → Prop) : Prop := ∃ v h', acall E n f args h = some (v, h') ∧ Q v h'
theorem C.mono {E : Env} {n f : Nat} {args : List Value} {h : AHeap} {Q Q' : Value → AHeap → Prop} (hc : C E n f args h Q) (hq : ∀ v h, Q v h → Q' v h) : C E n f args h Q' := by
  obtain ⟨v, h', h1, h2⟩ := hc
  exact ⟨v, h', h1, hq _ _ h2⟩
/-- what a function's end tells -/
def FQ (E : Env) (rs : List ResultVar) (Q : Value → AHeap → Prop) : QT := fun e a h => (e = .normal ∨ e = .ret) ∧ ∃ l, aresults E.T h a rs = some l ∧ Q (oneOf l) h
theorem C_in {E : Env} {n f : Nat} {args : List Value} {h : AHeap} {Q : Value → AHeap → Prop} {fn : Func} {c : Code} {nt : Nat} {rs : List ResultVar} (hX : E.X f = none) (hF : E.F.get f = some fn) (hc : fn.body = some c) (hn : fn.ntmps = nt) (hr : fn.results.toList = rs)
    (hh : ∀ a : AAct, a.n = args.length + (nt - args.length) → (∀ (i : Nat) v, args[i]? = some v → a.at i = v) → G E (acall E n) n [] c a h (FQ E rs Q)) : C E (n + 1) f args h Q := by
  subst hn hr
  have ha : ∀ (i : Nat) v, args[i]? = some v → (⟨args.length + (fn.ntmps - args.length), Tr.ofList args 0 .nil⟩ : AAct).at i = v := by
    intro i v hv
    have hl : i < args.length := (List.getElem?_eq_some_iff.1 hv).1
    rw [AAct.at_eq]
    simp only [bltd, Tr.get_ofList]
    rw [if_pos ⟨Nat.zero_le _, by omega⟩, decide_eq_true (by omega), cond_true]
    simp [hv]
  obtain ⟨e, a', h', h1, h2, l, h3, h4⟩ := hh _ rfl ha
  refine ⟨oneOf l, h', ?_, h4⟩
  simp only [acall, hX, hF, hc, h1]
  rcases h2 with rfl | rfl <;> simp only [h3]
theorem C_le {E : Env} {n m f : Nat} {args : List Value} {h : AHeap} {Q : Value → AHeap → Prop} (e : n = m) (hc : C E n f args h Q) : C E m f args h Q := e ▸ hc

theorem FQ_in {E : Env} {rs : List ResultVar} {Q : Value → AHeap → Prop} {e : Exit} {a : AAct} {h : AHeap} {l : List Value} (he : e = .normal ∨ e = .ret) (hl : aresults E.T h a rs = some l) (hq : Q (oneOf l) h) : FQ E rs Q e a h := ⟨he, l, hl, hq⟩
theorem ares1 {T : Tr TI} {h : AHeap} {a : AAct} {t : Nat} {v : Value} (hv : a.at t = v) : aresults T h a [.tmp t] = some [v] := by subst hv; rfl
theorem ares2 {T : Tr TI} {h : AHeap} {a : AAct} {t u : Nat} {v w : Value} (hv : a.at t = v) (hw : a.at u = w) : aresults T h a [.tmp t, .tmp u] = some [v, w] := by subst hv hw; rfl
theorem ldA {T : Tr TI} {h : AHeap} {t id o : Nat} {i : TI} {cs r : List Value} (hT : T.get t = some i) (hk : i.k.agg = true) (hr : rd h id = some cs) (hv : cut cs o i.size = some r) : aload T h t (.pointer (some ⟨id, o, none⟩)) = some (.agg ⟨r⟩) := by simp only [aload, hT, hr, hk, cond_true, hv]
theorem C_x {E : Env} {n f : Nat} {args : List Value} {h : AHeap} {Q : Value → AHeap → Prop} {x : Ext} {v : Value} {h' : AHeap} (hX : E.X f = some x) (hx : x args h = some (v, h')) (hq : Q v h') : C E (n + 1) f args h Q := ⟨v, h', by simp only [acall, hX, hx], hq⟩
theorem C_out {E : Env} {n f : Nat} {args : List Value} {h : AHeap} {Q : Value → AHeap → Prop} (hc : C E n f args h Q) : ∃ v h', acall E n f args h = some (v, h') ∧ Q v h' := hc
/-! ### operations one by one -/
section
variable {E : Env} {cf : CallF} {a : AAct} {h h' : AHeap} {ops : Array Oper} {os : List Oper} {Q : AAct → AHeap → Prop} {dst : Option Nat} {ty : Nat} {pos : String} {aft : Array Edge}
theorem S_nil (hq : Q a h) : S E cf ops [] a h Q := ⟨a, h, rfl, hq⟩
theorem S_step {op : Op} {g : Option (Nat × Bool)} {v : Value} (hw : awants ops a ⟨dst, op, ty, pos, aft, g⟩ = true) (hs : astep0 E cf a h h.next ⟨dst, op, ty, pos, aft, g⟩ = some (v, h')) (hh : S E cf ops os (a.put dst v) h' Q) : S E cf ops (⟨dst, op, ty, pos, aft, g⟩ :: os) a h Q := by
  obtain ⟨a', h2, h3, h4⟩ := hh
  refine ⟨a', h2, ?_, h4⟩
  simp only [aseq, hw, cond_true, astep, hs]
  exact h3
theorem S_tb {op : Op} {g : Option (Nat × Bool)} {v : Value} (hw : awants ops a ⟨dst, op, ty, pos, aft, g⟩ = true) (hs : astep0 E cf a h h.next ⟨dst, op, ty, pos, aft, g⟩ = none) (hk : (Nat.beq (kindOf op) 0 && noDefer op) = true) {l : List Value} (hl : op.operands.toList.map (aev a) = l) (ht : E.Tb op l = some v) (hh : S E cf ops os (a.put dst v) h Q) : S E cf ops (⟨dst, op, ty, pos, aft, g⟩ :: os) a h Q := by
  obtain ⟨a', h2, h3, h4⟩ := hh
  refine ⟨a', h2, ?_, h4⟩
  subst hl
  simp only [aseq, hw, cond_true, astep, hs, hk, ht]
  exact h3
theorem S_no {op : Op} {g : Option (Nat × Bool)} (hw : awants ops a ⟨dst, op, ty, pos, aft, g⟩ = false) (hh : S E cf ops os (a.put dst undef) h Q) : S E cf ops (⟨dst, op, ty, pos, aft, g⟩ :: os) a h Q := by
  obtain ⟨a', h2, h3, h4⟩ := hh
  refine ⟨a', h2, ?_, h4⟩
  simp only [aseq, hw, cond_false]
  exact h3
theorem wants0 {dst op ty pos aft} : awants ops a ⟨dst, op, ty, pos, aft, none⟩ = true := rfl
theorem wantsG {dst op ty pos aft j w p d b} (hp : ops[j]? = some p) (hd : p.dst = some d) (hn : d < a.n) (hb : a.at d = .bool b) : awants ops a ⟨dst, op, ty, pos, aft, some (j, w)⟩ = (b == w) := by
  simp only [awants, hp, hd, hb, bltd, hn, decide_true, cond_true]
end
/-! what an operation gives: for any way it is asked -/
section
variable {E : Env} {cf : CallF} {a : AAct} {h : AHeap} {nid : Nat} {dst : Option Nat} {ty : Nat} {pos : String} {aft : Array Edge} {g : Option (Nat × Bool)}
theorem o_move {x : Operand} {v : Value} (hx : aev a x = v) : astep0 E cf a h nid ⟨dst, .move x, ty, pos, aft, g⟩ = some (v, h) := by subst hx; rfl
theorem o_assign {x : Operand} {v : Value} (hx : aev a x = v) : astep0 E cf a h nid ⟨dst, .assign x, ty, pos, aft, g⟩ = some (v, h) := by subst hx; rfl
theorem o_nilP {x : Operand} {i : Addr} (hx : aev a x = .pointer (some i)) : astep0 E cf a h nid ⟨dst, .nilCheck x, ty, pos, aft, g⟩ = some (.pointer (some i), h) := by simp only [astep0, aop, hx]
theorem o_pickT {c x y : Operand} {v : Value} (hc : aev a c = .bool true) (hx : aev a x = v) : astep0 E cf a h nid ⟨dst, .pick c x y, ty, pos, aft, g⟩ = some (v, h) := by simp only [astep0, aop, hc, hx]
theorem o_pickF {c x y : Operand} {v : Value} (hc : aev a c = .bool false) (hy : aev a y = v) : astep0 E cf a h nid ⟨dst, .pick c x y, ty, pos, aft, g⟩ = some (v, h) := by simp only [astep0, aop, hc, hy]
theorem o_box {t : Nat} {x : Operand} {v : Value} (hx : aev a x = v) (ho : ones v.cells.toList = true) : astep0 E cf a h nid ⟨dst, .box t x, ty, pos, aft, g⟩ = some (.pointer (some ⟨nid, 0, none⟩), h.new nid (.cells v.cells.toList true)) := by simp only [astep0, aop, aneu, hx, ho, cond_true]
theorem o_alloc {t : Nat} {i : TI} (hT : E.T.get t = some i) (ho : ones i.zero.cells.toList = true) : astep0 E cf a h nid ⟨dst, .alloc t, ty, pos, aft, g⟩ = some (.pointer (some ⟨nid, 0, none⟩), h.new nid (.cells i.zero.cells.toList true)) := by simp only [astep0, aop, aneu, hT, ho, cond_true]
theorem o_fa {s f : Nat} {x : Operand} {id o : Nat} (hx : aev a x = .pointer (some ⟨id, o, none⟩)) {fs : List (Nat × Nat)} {q : Bool} {sz b : Nat} {z : Value} (hT : E.T.get s = some ⟨.struct fs q, sz, b, z⟩) {off t : Nat} (hf : fs[f]? = some (off, t)) {i : TI} (hi : E.T.get t = some i) (h0 : Nat.beq i.size 0 = false) {p : Nat} (hp : o + off = p) : astep0 E cf a h nid ⟨dst, .fieldAddr s x f, ty, pos, aft, g⟩ = some (.pointer (some ⟨id, p, none⟩), h) := by
  subst hp
  simp only [astep0, aop, afieldAddr, hx, hT, hf, hi, h0, cond_false]
theorem o_ld {t : Nat} {x : Operand} {id o : Nat} (hx : aev a x = .pointer (some ⟨id, o, none⟩)) {i : TI} (hT : E.T.get t = some i) (hk : i.k.agg = false) {cs : List Value} (hr : rd h id = some cs) {v : Value} (hv : cs[o]? = some v) : astep0 E cf a h nid ⟨dst, .load t x, ty, pos, aft, g⟩ = some (v, h) := by
  simp only [astep0, aop, aload, hx, hT, hr, hk, cond_false, hv]
theorem o_ldA {t : Nat} {x : Operand} {id o : Nat} (hx : aev a x = .pointer (some ⟨id, o, none⟩)) {i : TI} (hT : E.T.get t = some i) (hk : i.k.agg = true) {cs : List Value} (hr : rd h id = some cs) {r : List Value} (hv : cut cs o i.size = some r) : astep0 E cf a h nid ⟨dst, .load t x, ty, pos, aft, g⟩ = some (.agg ⟨r⟩, h) := by
  simp only [astep0, aop, aload, hx, hT, hr, hk, cond_true, hv]
theorem o_st {t : Nat} {x y : Operand} {id o : Nat} {v : Value} (hx : aev a x = .pointer (some ⟨id, o, none⟩)) (hy : aev a y = v) {i : TI} (hT : E.T.get t = some i) (hl : Nat.beq v.cells.toList.length i.size = true) {cs : List Value} {z : Bool} (hg : h.get id = some (.cells cs z)) (ho : ones v.cells.toList = true) {r : List Value} (hp : putAt cs o v.cells.toList = some r) : astep0 E cf a h nid ⟨dst, .store t x y, ty, pos, aft, g⟩ = some (undef, h.set id (.cells r z)) := by
  simp only [astep0, aop, astore, hx, hy, hT, hl, cond_true, aput, hg, ho, hp]
theorem o_un {op : UnOp} {t : Nat} {x : Operand} {u v : Value} (hx : aev a x = u) (hv : aun op u = some v) : astep0 E cf a h nid ⟨dst, .unOp op t x, ty, pos, aft, g⟩ = some (v, h) := by
  simp only [astep0, aop, hx, hv]
theorem o_bin {op : BinOp} {t r : Nat} {x y : Operand} {u w v : Value} (hx : aev a x = u) (hy : aev a y = w) (hv : abin E.T h op t u w = some v) : astep0 E cf a h nid ⟨dst, .binOp op t x y r, ty, pos, aft, g⟩ = some (v, h) := by
  simp only [astep0, aop, hx, hy, hv]
theorem o_ext {x : Operand} {i : Nat} {vs : Array Value} {v : Value} (hx : aev a x = .tuple vs) (hv : vs.toList[i]? = some v) : astep0 E cf a h nid ⟨dst, .extract x i, ty, pos, aft, g⟩ = some (v, h) := by
  simp only [astep0, aop, hx, hv]
theorem o_build {t : Nat} {ps : Array (Nat × Operand)} {l : List (Nat × Value)} {v : Value} (hl : (ps.toList.map fun p => (p.1, aev a p.2)) = l) (hv : abuild E.T t l = some v) : astep0 E cf a h nid ⟨dst, .build t ps, ty, pos, aft, g⟩ = some (v, h) := by
  simp only [astep0, aop, hl, hv]
theorem o_indexAddr {t : Nat} {x y : Operand} {u w v : Value} (hx : aev a x = u) (hy : aev a y = w) (hv : aindexAddr E.T t u w = some v) : astep0 E cf a h nid ⟨dst, .indexAddr t x y, ty, pos, aft, g⟩ = some (v, h) := by
  simp only [astep0, aop, hx, hy, hv]
theorem o_lookup {t : Nat} {x y : Operand} {ok : Bool} {u w v : Value} (hx : aev a x = u) (hy : aev a y = w) (hv : alookup E.T h t u w ok = some v) : astep0 E cf a h nid ⟨dst, .lookup t x y ok, ty, pos, aft, g⟩ = some (v, h) := by
  simp only [astep0, aop, hx, hy, hv]
theorem o_makeFunc {fn : Fn} {fi ca : Array Operand} {fs cs : Array Value} (h1 : fi.map (aev a) = fs) (h2 : ca.map (aev a) = cs) : astep0 E cf a h nid ⟨dst, .makeFunc fn fi ca, ty, pos, aft, g⟩ = some (.func fn fs cs, h) := by subst h1 h2; rfl
theorem o_slice {t : Nat} {x : Operand} {lo hi mx : Option Operand} {u v : Value} (hx : aev a x = u) {l1 l2 l3 : Option Value} (e1 : lo.map (aev a) = l1) (e2 : hi.map (aev a) = l2) (e3 : mx.map (aev a) = l3) (hv : aslice E.T h t u l1 l2 l3 = some v) : astep0 E cf a h nid ⟨dst, .slice t x lo hi mx, ty, pos, aft, g⟩ = some (v, h) := by
  subst e1 e2 e3
  simp only [astep0, aop, hx, hv]
theorem o_buildSlice {t l : Nat} {ps : Array (Nat × Operand)} {ws : List (Nat × Value)} {r : Value × AHeap} (hl : (ps.toList.map fun p => (p.1, aev a p.2)) = ws) (hv : abuildSlice E.T h nid t l ws = some r) : astep0 E cf a h nid ⟨dst, .buildSlice t l ps, ty, pos, aft, g⟩ = some r := by
  simp only [astep0, aop, hl, hv]
theorem o_builtin {b : Builtin} {args : Array Operand} {ts : Array Nat} {l : List Value} {r : Value × AHeap} (hl : args.toList.map (aev a) = l) (hv : abuiltin E.T h nid b ts.toList l = some r) : astep0 E cf a h nid ⟨dst, .call ⟨.builtin b, args, ts⟩, ty, pos, aft, g⟩ = some r := by
  simp only [astep0, hl, hv]
theorem o_call {x : Operand} {f : Nat} {fs cs : Array Value} {args : Array Operand} {ts : Array Nat} {l : List Value} {r : Value × AHeap} (hx : aev a x = .func (.func f) fs cs) (hY : E.Y f = none) (hl : args.toList.map (aev a) = l) (hc : cf f (fs.toList ++ l ++ cs.toList) h = some r) : astep0 E cf a h nid ⟨dst, .call ⟨.value x, args, ts⟩, ty, pos, aft, g⟩ = some r := by
  simp only [astep0, hx, hY, hl]
  exact hc
end
/-- a call amid a region -/
theorem S_call {E : Env} {n : Nat} {a : AAct} {h : AHeap} {ops : Array Oper} {os : List Oper} {Q : AAct → AHeap → Prop} {dst : Option Nat} {ty : Nat} {pos : String} {aft : Array Edge} {g : Option (Nat × Bool)} {x : Operand} {f : Nat} {fs cs : Array Value} {args : Array Operand} {ts : Array Nat} {l : List Value}
    (hw : awants ops a ⟨dst, .call ⟨.value x, args, ts⟩, ty, pos, aft, g⟩ = true) (hx : aev a x = .func (.func f) fs cs) (hY : E.Y f = none) (hl : args.toList.map (aev a) = l) (hc : C E n f (fs.toList ++ l ++ cs.toList) h fun v h' => S E (acall E n) ops os (a.put dst v) h' Q) :
    S E (acall E n) ops (⟨dst, .call ⟨.value x, args, ts⟩, ty, pos, aft, g⟩ :: os) a h Q := by
  obtain ⟨v, h', h1, h2⟩ := hc
  exact S_step hw (o_call hx hY hl h1) h2
attribute [irreducible] R U G S N C LQ FQ AQ BQ JQ
end Go.Proofs.Yteffhomollmpdaa.AM.SX
