/- Regions that draw, where all that reads comes ahead of all that writes. -/
import Derived.Test.YteffhomollmpdaaSX
namespace Go.Proofs.Yteffhomollmpdaa.AM.SX
open Go
set_option linter.unusedVariables false
set_option linter.unusedSectionVars false
set_option linter.unusedSimpArgs false
/-- a read: at most that, and not of operands alone -/
def isRd (o : Oper) : Bool := Nat.beq (kindOf o.op) 0 && !pureOp o.op
def isWr (o : Oper) : Bool := !(Nat.beq (kindOf o.op) 0) && !(Nat.beq (kindOf o.op) 1)
def isNew (o : Oper) : Bool := Nat.beq (kindOf o.op) 1
/-- qs: the places of calls that leave the heap as it is -/
def isWrQ (qs : List Nat) (p : Oper × Nat) : Bool := isWr p.1 && !(memN p.2 qs)
/-- lq: the places of reads that may come ahead of what writes, and behind it -/
def saneW (qs lq : List Nat) (b : Array Nat) (l : List (Oper × Nat)) : Bool := l.all fun p => !(isWrQ qs p) || l.all fun q => (!(isRd q.1) || memN q.2 lq || isIn b q.2 p.2) && (!(isNew q.1) || isIn b q.2 p.2)
def saneO (b : Array Nat) (l : List (Oper × Nat)) : Bool := l.all fun p => !(isWr p.1) || l.all fun q => !(isWr q.1) || Nat.beq q.2 p.2 || Nat.blt p.2 q.2 && isIn b p.2 q.2 || Nat.blt q.2 p.2
def saneN (b : Array Nat) (l : List (Oper × Nat)) : Bool := l.all fun p => !(isNew p.1) || l.all fun q => !(isRd q.1) || !(isIn b p.2 q.2)
def sane (qs lq : List Nat) (ops : Array Oper) : Bool :=
  let b := Region.before ops
  let l := ops.toList.zipIdx
  tmpsOk ops b l && l.all (fun q => q.1.after.all fun e => !(Region.binds .any e) || Nat.blt e.on q.2) && !(ops.toList.any fun o => isInsert o.op) && saneW qs lq b l && saneN b l && saneO b l
noncomputable def flush (base : Nat) (p : Pend) (g : AHeap) : AHeap := p.foldr (fun q h => ⟨h.t.put (base + q.1) (some q.2), h.next⟩) g
abbrev LsT := List (AAct × Oper × Value)
def Stab (E : Env) (cf : CallF) (g : AHeap) (ls : LsT) : Prop := ∀ x ∈ ls, ∀ nid, astep E cf x.1 g nid x.2.1 = some (x.2.2, g)
section
variable (E : Env) (cf : CallF) (qs lq : List Nat) (ops : Array Oper) (base : Nat) (Q : AAct → AHeap → Prop)
/-- behind the first that writes; hs: the heaps so far -/
def D2 : List AHeap → List (Oper × Nat) → AAct → AHeap → LsT → Prop
  | _, [], a, g, _ => Q a g
  | hs, (o, i) :: r, a, g, ls => (awants ops a o = false ∧ D2 hs r (a.put o.dst undef) g ls) ∨ (awants ops a o = true ∧ (
      (pureOp o.op = true ∧ kindOf o.op = 0 ∧ ∃ v, (∀ h nid, astep E cf a h nid o = some (v, h)) ∧ D2 hs r (a.put o.dst v) g ls)
    ∨ (isRd o = true ∧ memN i lq = true ∧ ∃ v, (∀ h ∈ g :: hs, ∀ nid, astep E cf a h nid o = some (v, h)) ∧ veq v v = true ∧ D2 hs r (a.put o.dst v) g ((a, o, v) :: ls))
    ∨ (isWrQ qs (o, i) = true ∧ ∃ v g', astep E cf a g (base + i) o = some (v, g') ∧ Stab E cf g' ls ∧ D2 (g :: hs) r (a.put o.dst v) g' ls)))
/-- ahead of it: the heap as it was, what has been laid beside it -/
def D1 (g : AHeap) : List (Oper × Nat) → AAct → Pend → LsT → Prop
  | [], a, p, _ => Q a (flush base p g)
  | (o, i) :: r, a, p, ls => (awants ops a o = false ∧ D1 g r (a.put o.dst undef) p ls) ∨ (awants ops a o = true ∧ (
      (pureOp o.op = true ∧ kindOf o.op = 0 ∧ ∃ v, (∀ h nid, astep E cf a h nid o = some (v, h)) ∧ D1 g r (a.put o.dst v) p ls)
    ∨ (isRd o = true ∧ memN i lq = false ∧ ∃ v, (∀ nid, astep E cf a g nid o = some (v, g)) ∧ veq v v = true ∧ D1 g r (a.put o.dst v) p ls)
    ∨ (isRd o = true ∧ memN i lq = true ∧ ∃ v, (∀ nid, astep E cf a g nid o = some (v, g)) ∧ veq v v = true ∧ D1 g r (a.put o.dst v) p ((a, o, v) :: ls))
    ∨ (isNew o = true ∧ ∃ v h x, astep E cf a ⟨.nil, base + i⟩ (base + i) o = some (v, h) ∧ h.get (base + i) = some x ∧ D1 g r (a.put o.dst v) ((i, x) :: p) ls)
    ∨ (isWr o = true ∧ memN i qs = true ∧ p = [] ∧ ∃ v, astep E cf a g (base + i) o = some (v, g) ∧ D1 g r (a.put o.dst v) [] ls)
    ∨ (isWrQ qs (o, i) = true ∧ ∃ v g', astep E cf a (flush base p g) (base + i) o = some (v, g') ∧ Stab E cf g' ls ∧ D2 E cf qs lq ops base Q [g] r (a.put o.dst v) g' ls)))
end
section
variable {E : Env} {cf : CallF} {ops : Array Oper} {base : Nat} {Q : AAct → AHeap → Prop} {b : Array Nat}
theorem vis_none {i : Nat} {g : AHeap} : ∀ {p : Pend}, (∀ q ∈ p, isIn b q.1 i = false) → vis b base i g p = g
  | [], _ => rfl
  | q :: p, h => by
    have h1 := h q (.head _)
    have h2 := vis_none (p := p) (i := i) (g := g) (fun q hq => h q (.tail _ hq))
    unfold vis at h2 ⊢
    simp only [List.foldr_cons, h1, cond_false, h2]
theorem vis_all {i : Nat} {g : AHeap} : ∀ {p : Pend}, (∀ q ∈ p, isIn b q.1 i = true) → vis b base i g p = flush base p g
  | [], _ => rfl
  | q :: p, h => by
    have h1 := h q (.head _)
    have h2 := vis_all (p := p) (i := i) (g := g) (fun q hq => h q (.tail _ hq))
    unfold vis at h2 ⊢
    unfold flush at h2 ⊢
    simp only [List.foldr_cons, h1, cond_true, h2]
theorem filt_none {i : Nat} : ∀ {p : Pend}, (∀ q ∈ p, isIn b q.1 i = true) → p.filter (fun q => !(isIn b q.1 i)) = []
  | [], _ => rfl
  | q :: p, h => by
    rw [List.filter_cons, h q (.head _)]
    exact filt_none (fun q hq => h q (.tail _ hq))
theorem here_vis {g gx : AHeap} {px : Pend} {l : List (Oper × Nat)} {d : DRec} (hN : saneN b l = true) (hd : (d.o, d.i) ∈ l) (hr : isRd d.o = true) (hpx : ∀ q ∈ px, ∃ o, (o, q.1) ∈ l ∧ isNew o = true) : vis b base d.i g px = g := by
  refine vis_none fun q hq => ?_
  obtain ⟨o, ho, hno⟩ := hpx q hq
  have := List.all_eq_true.1 hN _ ho
  simp only [hno, Bool.not_true, Bool.false_or] at this
  have := List.all_eq_true.1 this _ hd
  simpa [hr] using this
theorem reads_q {g : AHeap} {l : List (Oper × Nat)} {d : DRec} (hN : saneN b l = true) (hd : (d.o, d.i) ∈ l) (hr : isRd d.o = true) (ha : ∀ nid, astep E cf d.a g nid d.o = some (d.v, g)) (hv : veq d.v d.v = true) :
    ∀ (ws : List (Nat × AHeap × Pend)) (px : Pend), (∀ w ∈ ws, w.2.1 = g ∧ ∀ q ∈ w.2.2, ∃ o, (o, q.1) ∈ l ∧ isNew o = true) → (∀ q ∈ px, ∃ o, (o, q.1) ∈ l ∧ isNew o = true) → reads E cf b base d g px ws = true
  | [], px, _, hpx => by
    simp only [reads, here_vis (gx := g) hN hd hr hpx, ha, hv]
  | (j, g', p') :: r, px, hws, hpx => by
    obtain ⟨e, hp'⟩ := hws _ (.head _)
    simp only at e hp'
    subst e
    have h2 := reads_q hN hd hr ha hv r p' (fun w hw => hws w (.tail _ hw)) hp'
    simp only [reads, here_vis (gx := g') hN hd hr hpx, ha, hv, Bool.or_true, h2, Bool.and_self]
theorem reads_all {l : List (Oper × Nat)} {d : DRec} (hN : saneN b l = true) (hd : (d.o, d.i) ∈ l) (hr : isRd d.o = true) (hv : veq d.v d.v = true) :
    ∀ (ws : List (Nat × AHeap × Pend)) (gx : AHeap) (px : Pend), (∀ w ∈ ws, (∀ nid, astep E cf d.a w.2.1 nid d.o = some (d.v, w.2.1)) ∧ ∀ q ∈ w.2.2, ∃ o, (o, q.1) ∈ l ∧ isNew o = true) → (∀ nid, astep E cf d.a gx nid d.o = some (d.v, gx)) → (∀ q ∈ px, ∃ o, (o, q.1) ∈ l ∧ isNew o = true) → reads E cf b base d gx px ws = true
  | [], gx, px, _, hg, hpx => by
    simp only [reads, here_vis (gx := gx) (g := gx) hN hd hr hpx, hg, hv]
  | (j, g', p') :: r, gx, px, hws, hg, hpx => by
    obtain ⟨e, hp'⟩ := hws _ (.head _)
    have h2 := reads_all hN hd hr hv r g' p' (fun w hw => hws w (.tail _ hw)) e hp'
    simp only [reads, here_vis (gx := gx) (g := gx) hN hd hr hpx, hg, hv, Bool.or_true, h2, Bool.and_self]
theorem reads_ws {qs lq : List Nat} {g : AHeap} {l : List (Oper × Nat)} {d : DRec} (hW : saneW qs lq b l = true) (hN : saneN b l = true) (hd : (d.o, d.i) ∈ l) (hr : isRd d.o = true) (hlq : memN d.i lq = false) (ha : ∀ nid, astep E cf d.a g nid d.o = some (d.v, g)) (hv : veq d.v d.v = true)
    (wq : List (Nat × AHeap × Pend)) (hwq : ∀ w ∈ wq, w.2.1 = g ∧ ∀ q ∈ w.2.2, ∃ o, (o, q.1) ∈ l ∧ isNew o = true) :
    ∀ (ws : List (Nat × AHeap × Pend)) (gx : AHeap) (px : Pend), (∀ w ∈ ws, (∃ o, (o, w.1) ∈ l ∧ isWrQ qs (o, w.1) = true) ∧ ∀ q ∈ w.2.2, ∃ o, (o, q.1) ∈ l ∧ isNew o = true) → (ws = [] → gx = g ∧ ∀ q ∈ px, ∃ o, (o, q.1) ∈ l ∧ isNew o = true) → (∀ hne : ws ≠ [], (ws.getLast hne).2.1 = g) → reads E cf b base d gx px (ws ++ wq) = true
  | [], gx, px, _, h0, _ => by
    obtain ⟨rfl, hpx⟩ := h0 rfl
    exact reads_q hN hd hr ha hv wq px hwq hpx
  | (j, g', p') :: r, gx, px, hws, h0, hl => by
    obtain ⟨⟨o, ho, hwo⟩, hp'⟩ := hws _ (.head _)
    have h1 : isIn b d.i j = true := by
      have := List.all_eq_true.1 hW _ ho
      simp only [hwo, Bool.not_true, Bool.false_or] at this
      have := List.all_eq_true.1 this _ hd
      simp only [hr, hlq, Bool.not_true, Bool.false_or, Bool.and_eq_true] at this
      exact this.1
    have h2 := reads_ws hW hN hd hr hlq ha hv wq hwq r g' p' (fun w hw => hws w (.tail _ hw)) (fun e => by
      subst e
      exact ⟨hl (by simp), hp'⟩) (fun hne => by
      have := hl (by simp)
      rwa [List.getLast_cons hne] at this)
    simp only [List.cons_append, reads, h1, Bool.true_or, h2, Bool.or_true, Bool.and_self]
theorem kind0_of {o : Oper} (h : isRd o = true) : kindOf o.op = 0 := by
  simp only [isRd, Bool.and_eq_true, beqd, decide_eq_true_eq] at h; exact h.1
theorem kind1_of {o : Oper} (h : isNew o = true) : kindOf o.op = 1 := by
  simp only [isNew, beqd, decide_eq_true_eq] at h; exact h
theorem wr_of {qs : List Nat} {o : Oper} {i : Nat} (h : isWrQ qs (o, i) = true) : isWr o = true := by
  simp only [isWrQ, Bool.and_eq_true] at h; exact h.1
theorem ord_of {l : List (Oper × Nat)} {o o' : Oper} {i j : Nat} (hO : saneO b l = true) (h1 : (o', j) ∈ l) (h2 : isWr o' = true) (h3 : (o, i) ∈ l) (h4 : isWr o = true) (hji : j < i) : isIn b j i = true := by
  have := List.all_eq_true.1 hO _ h1
  simp only [h2, Bool.not_true, Bool.false_or] at this
  have := List.all_eq_true.1 this _ h3
  simp only [h4, Bool.not_true, Bool.false_or, Bool.and_eq_true, Bool.or_eq_true, beqd, bltd, decide_eq_true_eq] at this
  rcases this with (h1 | h1) | h1
  · omega
  · exact h1.2
  · omega
theorem kind2_of {o : Oper} (h : isWr o = true) : kindOf o.op ≠ 0 ∧ kindOf o.op ≠ 1 := by
  simp only [isWr, Bool.and_eq_true, beqd, Bool.not_eq_true', decide_eq_false_iff_not] at h; exact h
/-- a record: what it looked at, where it is asked again -/
structure Rec (E : Env) (cf : CallF) (lq : List Nat) (l : List (Oper × Nat)) (g : AHeap) (hs : List AHeap) (ls : LsT) (d : DRec) : Prop where
  mem : (d.o, d.i) ∈ l
  rd : isRd d.o = true
  veq : veq d.v d.v = true
  st : memN d.i lq = false → ∀ nid, astep E cf d.a g nid d.o = some (d.v, g)
  lo : memN d.i lq = true → (d.a, d.o, d.v) ∈ ls ∧ ∀ h ∈ hs, ∀ nid, astep E cf d.a h nid d.o = some (d.v, h)
def NewP (l : List (Oper × Nat)) (p : Pend) : Prop := ∀ q ∈ p, ∃ o, (o, q.1) ∈ l ∧ isNew o = true
structure Inv2 (E : Env) (cf : CallF) (qs lq : List Nat) (l : List (Oper × Nat)) (g : AHeap) (hs : List AHeap) (ls : LsT) (s : DSt) : Prop where
  rs : ∀ d ∈ s.rs, Rec E cf lq l g (s.g :: hs) ls d
  p : s.p = []
  wh : ∀ w ∈ s.ws, w.2.1 ∈ hs
  ws : ∃ wr wq, s.ws = wr ++ wq ∧ (∀ w ∈ wq, w.2.1 = g ∧ NewP l w.2.2) ∧ (∀ w ∈ wr, (∃ o, (o, w.1) ∈ l ∧ isWrQ qs (o, w.1) = true) ∧ NewP l w.2.2) ∧ ∃ hne : wr ≠ [], (wr.getLast hne).2.1 = g
def End2 (E : Env) (cf : CallF) (qs lq : List Nat) (l : List (Oper × Nat)) (g : AHeap) (s : DSt) : Prop := ∃ hs ls, Inv2 E cf qs lq l g hs ls s
theorem D2_go {qs lq : List Nat} {l : List (Oper × Nat)} {g0 : AHeap} (hO : saneO b l = true) : ∀ (r : List (Oper × Nat)) (hs : List AHeap) (ls : LsT) (s : DSt), (∀ q ∈ r, q ∈ l) → (∀ w ∈ s.ws, (∀ q ∈ r, w.1 < q.2) ∧ ∃ o, (o, w.1) ∈ l ∧ isWr o = true) → r.Pairwise (fun x y => x.2 < y.2) → Inv2 E cf qs lq l g0 hs ls s → D2 E cf qs lq ops base Q hs r s.a s.g ls →
    ∃ s', dgo E cf ops b base r s = some s' ∧ Q s'.a s'.g ∧ End2 E cf qs lq l g0 s'
  | [], hs, ls, s, _, _, _, hi, h => ⟨s, rfl, h, hs, ls, hi⟩
  | (o, i) :: r, hs, ls, s, hm, hlt, hpw, hi, h => by
    have hm' : ∀ q ∈ r, q ∈ l := fun q hq => hm q (.tail _ hq)
    have hpw' := (List.pairwise_cons.1 hpw).2
    have hpi := (List.pairwise_cons.1 hpw).1
    have hlt' : ∀ w ∈ s.ws, (∀ q ∈ r, w.1 < q.2) ∧ ∃ o, (o, w.1) ∈ l ∧ isWr o = true := fun w hw' => ⟨fun q hq => (hlt w hw').1 q (.tail _ hq), (hlt w hw').2⟩
    have hvis : vis b base i s.g s.p = s.g := by rw [hi.p]; rfl
    rcases h with ⟨hw, h⟩ | ⟨hw, ⟨hpu, hk, v, hv, h⟩ | ⟨hrd, hlq, v, hv, hvv, h⟩ | ⟨hwq, v, g', hv, hst, h⟩⟩
    · obtain ⟨s', h1, h2, h3⟩ := D2_go hO r hs ls { s with a := s.a.put o.dst undef } hm' hlt' hpw' ⟨hi.rs, hi.p, hi.wh, hi.ws⟩ h
      refine ⟨s', ?_, h2, h3⟩
      simp only [dgo, dstep, hw, Bool.not_false, cond_true, h1]
    · obtain ⟨s', h1, h2, h3⟩ := D2_go hO r hs ls { s with a := s.a.put o.dst v } hm' hlt' hpw' ⟨hi.rs, hi.p, hi.wh, hi.ws⟩ h
      refine ⟨s', ?_, h2, h3⟩
      simp only [dgo, dstep, hw, Bool.not_true, cond_false, hk, hv, hpu, cond_true, h1]
    · have hpu : pureOp o.op = false := by
        simp only [isRd, Bool.and_eq_true, Bool.not_eq_true'] at hrd; exact hrd.2
      obtain ⟨s', h1, h2, h3⟩ := D2_go hO r hs ((s.a, o, v) :: ls) { s with a := s.a.put o.dst v, rs := ⟨i, o, s.a, v⟩ :: s.rs } hm' hlt' hpw' ⟨fun d hd => by
          rcases List.mem_cons.1 hd with rfl | hd
          · exact ⟨hm _ (.head _), hrd, hvv, fun e => by (rw [hlq] at e; cases e), fun _ => ⟨.head _, hv⟩⟩
          · have hr := hi.rs d hd
            exact ⟨hr.mem, hr.rd, hr.veq, hr.st, fun e => ⟨.tail _ (hr.lo e).1, (hr.lo e).2⟩⟩, hi.p, hi.wh, hi.ws⟩ h
      refine ⟨s', ?_, h2, h3⟩
      simp only [dgo, dstep, hw, Bool.not_true, cond_false, kind0_of hrd, hvis, hv s.g (.head _), hpu, h1]
    · have hwr := wr_of hwq
      obtain ⟨hk0, hk1⟩ := kind2_of hwr
      have hord : (match s.ws with | [] => true | (j, _) :: _ => isIn b j i) = true := by
        match hws : s.ws with
        | [] => rfl
        | (j, x) :: t =>
          obtain ⟨hji, o', ho', hwo'⟩ := hlt (j, x) (by rw [hws]; exact .head _)
          exact ord_of hO ho' hwo' (hm (o, i) (.head _)) hwr (hji (o, i) (.head _))
      obtain ⟨wr, wq, e1, e2, e3, hne, e4⟩ := hi.ws
      obtain ⟨s', h1, h2, h3⟩ := D2_go hO r (s.g :: hs) ls { s with a := s.a.put o.dst v, g := g', p := s.p.filter (fun q => !(isIn b q.1 i)), ws := (i, s.g, s.p) :: s.ws } hm' (fun w hw' => by
          rcases List.mem_cons.1 hw' with rfl | hw'
          · exact ⟨hpi, o, hm _ (.head _), hwr⟩
          · exact hlt' w hw') hpw' ⟨fun d hd => by
          have hr := hi.rs d hd
          exact ⟨hr.mem, hr.rd, hr.veq, hr.st, fun e => ⟨(hr.lo e).1, fun h hh nid => by
            rcases List.mem_cons.1 hh with rfl | hh
            · exact hst _ (hr.lo e).1 nid
            · exact (hr.lo e).2 h hh nid⟩⟩, by simp only [hi.p, List.filter_nil], fun w hw' => by
          rcases List.mem_cons.1 hw' with rfl | hw'
          · exact .head _
          · exact .tail _ (hi.wh w hw'), (i, s.g, s.p) :: wr, wq, by simp only [e1, List.cons_append], e2, fun w hw' => by
          rcases List.mem_cons.1 hw' with rfl | hw'
          · exact ⟨⟨o, hm _ (.head _), hwq⟩, fun q hq => by (simp only [hi.p] at hq; cases hq)⟩
          · exact e3 w hw', by simp, by rw [List.getLast_cons hne]; exact e4⟩ h
      refine ⟨s', ?_, h2, h3⟩
      have hstep : dstep E cf ops b base o i s = some { s with a := s.a.put o.dst v, g := g', p := s.p.filter (fun q => !(isIn b q.1 i)), ws := (i, s.g, s.p) :: s.ws } := by
        obtain ⟨kk, hk⟩ : ∃ kk, kindOf o.op = kk + 2 := ⟨kindOf o.op - 2, by omega⟩
        unfold dstep
        rw [hw, hvis, hv, hk]
        exact (congrArg (fun z : Bool => bif z then some ({ s with a := s.a.put o.dst v, g := g', p := s.p.filter (fun q => !(isIn b q.1 i)), ws := (i, s.g, s.p) :: s.ws } : DSt) else none) hord).trans rfl
      simp only [dgo, hstep, h1]
structure Inv1 (E : Env) (cf : CallF) (lq : List Nat) (l : List (Oper × Nat)) (g : AHeap) (ls : LsT) (s : DSt) : Prop where
  rs : ∀ d ∈ s.rs, Rec E cf lq l g [g] ls d
  p : NewP l s.p
  ws : ∀ w ∈ s.ws, w.2.1 = g ∧ NewP l w.2.2
  g : s.g = g
theorem D1_go {qs lq : List Nat} {l : List (Oper × Nat)} {g : AHeap} (hO : saneO b l = true) (hW : saneW qs lq b l = true) (hN : saneN b l = true) : ∀ (r : List (Oper × Nat)) (ls : LsT) (s : DSt), (∀ q ∈ r, q ∈ l) → (∀ w ∈ s.ws, (∀ q ∈ r, w.1 < q.2) ∧ ∃ o, (o, w.1) ∈ l ∧ isWr o = true) → r.Pairwise (fun x y => x.2 < y.2) → Inv1 E cf lq l g ls s → D1 E cf qs lq ops base Q g r s.a s.p ls →
    ∃ s', dgo E cf ops b base r s = some s' ∧ Q s'.a (flush base s'.p s'.g) ∧ ((∃ ls, Inv1 E cf lq l g ls s') ∨ End2 E cf qs lq l g s')
  | [], ls, s, _, _, _, hi, h => ⟨s, rfl, by rw [hi.g]; exact h, .inl ⟨ls, hi⟩⟩
  | (o, i) :: r, ls, s, hm, hlt, hpw, hi, h => by
    have hm' : ∀ q ∈ r, q ∈ l := fun q hq => hm q (.tail _ hq)
    have hpw' := (List.pairwise_cons.1 hpw).2
    have hpi := (List.pairwise_cons.1 hpw).1
    have hlt' : ∀ w ∈ s.ws, (∀ q ∈ r, w.1 < q.2) ∧ ∃ o, (o, w.1) ∈ l ∧ isWr o = true := fun w hw' => ⟨fun q hq => (hlt w hw').1 q (.tail _ hq), (hlt w hw').2⟩
    have hord : isWr o = true → (match s.ws with | [] => true | (j, _) :: _ => isIn b j i) = true := by
      intro hwr
      match hws : s.ws with
      | [] => rfl
      | (j, x) :: t =>
        obtain ⟨hji, o', ho', hwo'⟩ := hlt (j, x) (by rw [hws]; exact .head _)
        exact ord_of hO ho' hwo' (hm (o, i) (.head _)) hwr (hji (o, i) (.head _))
    have hvisr : isRd o = true → vis b base i s.g s.p = g := by
      intro hrd
      rw [hi.g]
      refine vis_none fun q hq => ?_
      obtain ⟨o', ho', hno'⟩ := hi.p q hq
      have := List.all_eq_true.1 hN _ ho'
      simp only [hno', Bool.not_true, Bool.false_or] at this
      have := List.all_eq_true.1 this _ (hm _ (.head _))
      simpa [hrd] using this
    rcases h with ⟨hw, h⟩ | ⟨hw, ⟨hpu, hk, v, hv, h⟩ | ⟨hrd, hlq, v, hv, hvv, h⟩ | ⟨hrd, hlq, v, hv, hvv, h⟩ | ⟨hnw, v, h0, x, hv, hx, h⟩ | ⟨hwr, hq, hp0, v, hv, h⟩ | ⟨hwq, v, g', hv, hst, h⟩⟩
    · obtain ⟨s', h1, h2, h3⟩ := D1_go hO hW hN r ls { s with a := s.a.put o.dst undef } hm' hlt' hpw' ⟨hi.rs, hi.p, hi.ws, hi.g⟩ h
      refine ⟨s', ?_, h2, h3⟩
      simp only [dgo, dstep, hw, Bool.not_false, cond_true, h1]
    · obtain ⟨s', h1, h2, h3⟩ := D1_go hO hW hN r ls { s with a := s.a.put o.dst v } hm' hlt' hpw' ⟨hi.rs, hi.p, hi.ws, hi.g⟩ h
      refine ⟨s', ?_, h2, h3⟩
      simp only [dgo, dstep, hw, Bool.not_true, cond_false, hk, hv, hpu, cond_true, h1]
    · have hpu : pureOp o.op = false := by
        simp only [isRd, Bool.and_eq_true, Bool.not_eq_true'] at hrd; exact hrd.2
      obtain ⟨s', h1, h2, h3⟩ := D1_go hO hW hN r ls { s with a := s.a.put o.dst v, rs := ⟨i, o, s.a, v⟩ :: s.rs } hm' hlt' hpw' ⟨fun d hd => by
          rcases List.mem_cons.1 hd with rfl | hd
          · exact ⟨hm _ (.head _), hrd, hvv, fun _ => hv, fun e => by (rw [hlq] at e; cases e)⟩
          · exact hi.rs d hd, hi.p, hi.ws, hi.g⟩ h
      refine ⟨s', ?_, h2, h3⟩
      simp only [dgo, dstep, hw, Bool.not_true, cond_false, kind0_of hrd, hvisr hrd, hv, hpu, h1]
    · have hpu : pureOp o.op = false := by
        simp only [isRd, Bool.and_eq_true, Bool.not_eq_true'] at hrd; exact hrd.2
      obtain ⟨s', h1, h2, h3⟩ := D1_go hO hW hN r ((s.a, o, v) :: ls) { s with a := s.a.put o.dst v, rs := ⟨i, o, s.a, v⟩ :: s.rs } hm' hlt' hpw' ⟨fun d hd => by
          rcases List.mem_cons.1 hd with rfl | hd
          · exact ⟨hm _ (.head _), hrd, hvv, fun e => by (rw [hlq] at e; cases e), fun _ => ⟨.head _, fun h hh nid => by (rw [List.mem_singleton.1 hh]; exact hv nid)⟩⟩
          · have hr := hi.rs d hd
            exact ⟨hr.mem, hr.rd, hr.veq, hr.st, fun e => ⟨.tail _ (hr.lo e).1, (hr.lo e).2⟩⟩, hi.p, hi.ws, hi.g⟩ h
      refine ⟨s', ?_, h2, h3⟩
      simp only [dgo, dstep, hw, Bool.not_true, cond_false, kind0_of hrd, hvisr hrd, hv, hpu, h1]
    · obtain ⟨s', h1, h2, h3⟩ := D1_go hO hW hN r ls { s with a := s.a.put o.dst v, p := (i, x) :: s.p } hm' hlt' hpw' ⟨hi.rs, fun q hq => by
          rcases List.mem_cons.1 hq with rfl | hq
          · exact ⟨o, hm _ (.head _), hnw⟩
          · exact hi.p q hq, hi.ws, hi.g⟩ h
      refine ⟨s', ?_, h2, h3⟩
      simp only [dgo, dstep, hw, Bool.not_true, cond_false, kind1_of hnw, hv, hx, h1]
    · obtain ⟨hk0, hk1⟩ := kind2_of hwr
      have hvis : vis b base i s.g s.p = g := by rw [hp0, hi.g]; rfl
      obtain ⟨s', h1, h2, h3⟩ := D1_go hO hW hN r ls { s with a := s.a.put o.dst v, g := g, p := s.p.filter (fun q => !(isIn b q.1 i)), ws := (i, s.g, s.p) :: s.ws } hm' (fun w hw' => by
          rcases List.mem_cons.1 hw' with rfl | hw'
          · exact ⟨hpi, o, hm _ (.head _), hwr⟩
          · exact hlt' w hw') hpw' ⟨hi.rs, fun q hq => by (simp only [hp0, List.filter_nil] at hq; cases hq), fun w hw' => by
          rcases List.mem_cons.1 hw' with rfl | hw'
          · exact ⟨hi.g, fun q hq => by (simp only [hp0] at hq; cases hq)⟩
          · exact hi.ws w hw', rfl⟩ (by simp only [hp0, List.filter_nil]; exact h)
      refine ⟨s', ?_, h2, h3⟩
      have hstep : dstep E cf ops b base o i s = some { s with a := s.a.put o.dst v, g := g, p := s.p.filter (fun q => !(isIn b q.1 i)), ws := (i, s.g, s.p) :: s.ws } := by
        obtain ⟨kk, hk⟩ : ∃ kk, kindOf o.op = kk + 2 := ⟨kindOf o.op - 2, by omega⟩
        unfold dstep
        rw [hw, hvis, hv, hk]
        exact (congrArg (fun z : Bool => bif z then some ({ s with a := s.a.put o.dst v, g := g, p := s.p.filter (fun q => !(isIn b q.1 i)), ws := (i, s.g, s.p) :: s.ws } : DSt) else none) (hord hwr)).trans rfl
      simp only [dgo, hstep, h1]
    · have hwr := wr_of hwq
      obtain ⟨hk0, hk1⟩ := kind2_of hwr
      have hall : ∀ q ∈ s.p, isIn b q.1 i = true := fun q hq => by
        obtain ⟨o', ho', hno'⟩ := hi.p q hq
        have := List.all_eq_true.1 hW _ (hm _ (.head _))
        simp only [hwq, Bool.not_true, Bool.false_or] at this
        have := List.all_eq_true.1 this _ ho'
        simp only [hno', Bool.not_true, Bool.false_or, Bool.and_eq_true] at this
        exact this.2
      obtain ⟨s', h1, h2, h3⟩ := D2_go (g0 := g) (qs := qs) (lq := lq) hO r [g] ls { s with a := s.a.put o.dst v, g := g', p := s.p.filter (fun q => !(isIn b q.1 i)), ws := (i, s.g, s.p) :: s.ws } hm' (fun w hw' => by
          rcases List.mem_cons.1 hw' with rfl | hw'
          · exact ⟨hpi, o, hm _ (.head _), hwr⟩
          · exact hlt' w hw') hpw' ⟨fun d hd => by
          have hr := hi.rs d hd
          exact ⟨hr.mem, hr.rd, hr.veq, hr.st, fun e => ⟨(hr.lo e).1, fun h hh nid => by
            rcases List.mem_cons.1 hh with rfl | hh
            · exact hst _ (hr.lo e).1 nid
            · exact (hr.lo e).2 h hh nid⟩⟩, filt_none hall, fun w hw' => by
          rcases List.mem_cons.1 hw' with rfl | hw'
          · exact List.mem_singleton.2 hi.g
          · exact List.mem_singleton.2 (hi.ws w hw').1, [(i, s.g, s.p)], s.ws, rfl, hi.ws, fun w hw' => by
          rcases List.mem_cons.1 hw' with rfl | hw'
          · exact ⟨⟨o, hm _ (.head _), hwq⟩, hi.p⟩
          · exact absurd hw' List.not_mem_nil, by simp, by simpa using hi.g⟩ h
      refine ⟨s', ?_, by (obtain ⟨hs', ls', h4⟩ := h3; rw [h4.p]; exact h2), .inr h3⟩
      have hstep : dstep E cf ops b base o i s = some { s with a := s.a.put o.dst v, g := g', p := s.p.filter (fun q => !(isIn b q.1 i)), ws := (i, s.g, s.p) :: s.ws } := by
        obtain ⟨kk, hk⟩ : ∃ kk, kindOf o.op = kk + 2 := ⟨kindOf o.op - 2, by omega⟩
        unfold dstep
        rw [hw, vis_all hall, hi.g, hv, hk]
        exact (congrArg (fun z : Bool => bif z then some ({ s with a := s.a.put o.dst v, g := g', p := s.p.filter (fun q => !(isIn b q.1 i)), ws := (i, g, s.p) :: s.ws } : DSt) else none) (hord hwr)).trans rfl
      simp only [dgo, hstep, h1]
noncomputable def bump (h : AHeap) (n : Nat) : AHeap := ⟨h.t, h.next + n⟩
theorem get_bump (h : AHeap) (n i : Nat) : (bump h n).get i = h.get i := rfl
theorem next_bump (h : AHeap) (n : Nat) : (bump h n).next = h.next + n := rfl
theorem pw_zip : ∀ (l : List Oper) (k : Nat), (l.zipIdx k).Pairwise (fun x y => x.2 < y.2)
  | [], _ => .nil
  | o :: l, k => by
    rw [List.zipIdx_cons]
    refine .cons (fun q hq => ?_) (pw_zip l (k + 1))
    have := List.mem_zipIdx hq
    omega
/-- a region that draws -/
theorem G_draw {n : Nat} {k : List Fr} {a : AAct} {h : AHeap} {Q : QT} {id : Nat} {ops : Array Oper} (qs lq : List Nat) (hs : sane qs lq ops = true) (hh : D1 E cf qs lq ops h.next (fun a' h' => N E cf n k a' h' Q) (bump h ops.size) ops.toList.zipIdx a [] []) : G E cf n k (.region id ops true) a h Q := by
  unfold sane at hs
  simp only [Bool.and_eq_true, Bool.not_eq_true'] at hs
  obtain ⟨⟨⟨⟨⟨h1, h2⟩, h3⟩, h4⟩, h5⟩, h6⟩ := hs
  obtain ⟨s', g1, g2, g3⟩ := D1_go (b := Region.before ops) h6 h4 h5 ops.toList.zipIdx [] ⟨a, bump h ops.size, [], [], []⟩ (fun _ h => h) (fun w hw => (nomatch hw)) (pw_zip _ _) ⟨fun d hd => (nomatch hd), fun q hq => (nomatch hq), fun w hw => (nomatch hw), rfl⟩ hh
  have hr : s'.rs.all (fun d => reads E cf (Region.before ops) h.next d s'.g s'.p s'.ws) = true := by
    rw [List.all_eq_true]
    intro d hd
    rcases g3 with ⟨ls, g3⟩ | ⟨hs, ls, g3⟩
    · have q := g3.rs d hd
      have ha : ∀ nid, astep E cf d.a (bump h ops.size) nid d.o = some (d.v, bump h ops.size) := by
        cases hl : memN d.i lq with
        | false => exact q.st hl
        | true => exact (q.lo hl).2 _ (.head _)
      have := reads_q (base := h.next) h5 q.mem q.rd ha q.veq s'.ws s'.p g3.ws g3.p
      have hg : s'.g = bump h ops.size := g3.g
      rw [hg]; exact this
    · have q := g3.rs d hd
      cases hl : memN d.i lq with
      | false =>
        obtain ⟨wr, wq, e1, e2, e3, hne, e4⟩ := g3.ws
        rw [e1]
        exact reads_ws h4 h5 q.mem q.rd hl (q.st hl) q.veq wq e2 wr s'.g s'.p e3 (fun e => absurd e hne) (fun _ => e4)
      | true =>
        have hp : NewP ops.toList.zipIdx s'.p := by rw [g3.p]; intro q hq; cases hq
        refine reads_all h5 q.mem q.rd q.veq s'.ws s'.g s'.p (fun w hw => ⟨(q.lo hl).2 _ (.tail _ (g3.wh w hw)), ?_⟩) ((q.lo hl).2 _ (.head _)) hp
        obtain ⟨wr, wq, e1, e2, e3, hne, e4⟩ := g3.ws
        rw [e1] at hw
        rcases List.mem_append.1 hw with hw | hw
        · exact (e3 w hw).2
        · exact (e2 w hw).2
  unfold G R
  unfold N at g2
  refine ⟨.normal, s'.a, flush h.next s'.p s'.g, ?_, g2⟩
  have h1' : tmpsOk ops (Region.before ops) ops.toList.zipIdx = true := h1
  have h2' := h2
  have g1' : dgo E cf ops (Region.before ops) h.next ops.toList.zipIdx ⟨a, ⟨h.t, h.next + ops.size⟩, [], [], []⟩ = some s' := g1
  simp only [acode, cond_true, adraw, h3, cond_false, adraw0, h1', h2', Bool.and_self, g1', hr, flush]
end
/-! ### one by one -/
section
variable {E : Env} {cf : CallF} {qs lq : List Nat} {ops : Array Oper} {base : Nat} {Q : AAct → AHeap → Prop} {g : AHeap} {r : List (Oper × Nat)} {a : AAct} {p : Pend} {dst : Option Nat} {ty : Nat} {pos : String} {aft : Array Edge} {gd : Option (Nat × Bool)} {op : Op} {i : Nat} {ls : LsT} {hs : List AHeap}
theorem as_of {a : AAct} {h h' : AHeap} {nid : Nat} {o : Oper} {v : Value} (hs : astep0 E cf a h nid o = some (v, h')) : astep E cf a h nid o = some (v, h') := by unfold astep; rw [hs]
theorem Stab.nil {g : AHeap} : Stab E cf g [] := fun x hx => by cases hx
theorem Stab.cons {g : AHeap} {a : AAct} {o : Oper} {v : Value} (h1 : ∀ nid, astep0 E cf a g nid o = some (v, g)) (h2 : Stab E cf g ls) : Stab E cf g ((a, o, v) :: ls) := fun x hx => by
  rcases List.mem_cons.1 hx with rfl | hx
  · exact fun nid => as_of (h1 nid)
  · exact h2 x hx
theorem D1_nil0 (hh : Q a g) : D1 E cf qs lq ops base Q g [] a [] ls := hh
theorem D1_no (hw : awants ops a ⟨dst, op, ty, pos, aft, gd⟩ = false) (hh : D1 E cf qs lq ops base Q g r (a.put dst undef) p ls) : D1 E cf qs lq ops base Q g ((⟨dst, op, ty, pos, aft, gd⟩, i) :: r) a p ls := .inl ⟨hw, hh⟩
theorem D1_pure {v : Value} (hw : awants ops a ⟨dst, op, ty, pos, aft, gd⟩ = true) (hp : pureOp op = true) (hk : kindOf op = 0) (hv : ∀ h nid, astep0 E cf a h nid ⟨dst, op, ty, pos, aft, gd⟩ = some (v, h)) (hh : D1 E cf qs lq ops base Q g r (a.put dst v) p ls) : D1 E cf qs lq ops base Q g ((⟨dst, op, ty, pos, aft, gd⟩, i) :: r) a p ls := .inr ⟨hw, .inl ⟨hp, hk, v, fun h nid => as_of (hv h nid), hh⟩⟩
theorem D1_rd {v : Value} (hw : awants ops a ⟨dst, op, ty, pos, aft, gd⟩ = true) (hk : isRd ⟨dst, op, ty, pos, aft, gd⟩ = true) (hl : memN i lq = false) (hv : ∀ nid, astep0 E cf a g nid ⟨dst, op, ty, pos, aft, gd⟩ = some (v, g)) (hq : veq v v = true) (hh : D1 E cf qs lq ops base Q g r (a.put dst v) p ls) : D1 E cf qs lq ops base Q g ((⟨dst, op, ty, pos, aft, gd⟩, i) :: r) a p ls := .inr ⟨hw, .inr (.inl ⟨hk, hl, v, fun nid => as_of (hv nid), hq, hh⟩)⟩
theorem D1_lo {v : Value} (hw : awants ops a ⟨dst, op, ty, pos, aft, gd⟩ = true) (hk : isRd ⟨dst, op, ty, pos, aft, gd⟩ = true) (hl : memN i lq = true) (hv : ∀ nid, astep0 E cf a g nid ⟨dst, op, ty, pos, aft, gd⟩ = some (v, g)) (hq : veq v v = true) (hh : D1 E cf qs lq ops base Q g r (a.put dst v) p ((a, ⟨dst, op, ty, pos, aft, gd⟩, v) :: ls)) : D1 E cf qs lq ops base Q g ((⟨dst, op, ty, pos, aft, gd⟩, i) :: r) a p ls := .inr ⟨hw, .inr (.inr (.inl ⟨hk, hl, v, fun nid => as_of (hv nid), hq, hh⟩))⟩
theorem D1_q {v : Value} (hw : awants ops a ⟨dst, op, ty, pos, aft, gd⟩ = true) (hk : isWr ⟨dst, op, ty, pos, aft, gd⟩ = true) (hq : memN i qs = true) (hv : astep0 E cf a g (base + i) ⟨dst, op, ty, pos, aft, gd⟩ = some (v, g)) (hh : D1 E cf qs lq ops base Q g r (a.put dst v) [] ls) : D1 E cf qs lq ops base Q g ((⟨dst, op, ty, pos, aft, gd⟩, i) :: r) a [] ls := .inr ⟨hw, .inr (.inr (.inr (.inr (.inl ⟨hk, hq, rfl, v, as_of hv, hh⟩))))⟩
theorem D1_wr {v : Value} {g' : AHeap} (hw : awants ops a ⟨dst, op, ty, pos, aft, gd⟩ = true) (hk : isWrQ qs (⟨dst, op, ty, pos, aft, gd⟩, i) = true) (hv : astep0 E cf a (flush base p g) (base + i) ⟨dst, op, ty, pos, aft, gd⟩ = some (v, g')) (hs : Stab E cf g' ls) (hh : D2 E cf qs lq ops base Q [g] r (a.put dst v) g' ls) : D1 E cf qs lq ops base Q g ((⟨dst, op, ty, pos, aft, gd⟩, i) :: r) a p ls := .inr ⟨hw, .inr (.inr (.inr (.inr (.inr ⟨hk, v, g', as_of hv, hs, hh⟩))))⟩
theorem D1_wr0 {v : Value} {g' : AHeap} (hw : awants ops a ⟨dst, op, ty, pos, aft, gd⟩ = true) (hk : isWrQ qs (⟨dst, op, ty, pos, aft, gd⟩, i) = true) (hv : astep0 E cf a g (base + i) ⟨dst, op, ty, pos, aft, gd⟩ = some (v, g')) (hs : Stab E cf g' ls) (hh : D2 E cf qs lq ops base Q [g] r (a.put dst v) g' ls) : D1 E cf qs lq ops base Q g ((⟨dst, op, ty, pos, aft, gd⟩, i) :: r) a [] ls := D1_wr hw hk hv hs hh
theorem D1_call {n : Nat} {x : Operand} {f : Nat} {fs cs : Array Value} {args : Array Operand} {ts : Array Nat} {l : List Value} (hw : awants ops a ⟨dst, .call ⟨.value x, args, ts⟩, ty, pos, aft, gd⟩ = true) (hq : memN i qs = false) (hx : aev a x = .func (.func f) fs cs) (hY : E.Y f = none) (hl : args.toList.map (aev a) = l) (hc : C E n f (fs.toList ++ l ++ cs.toList) g fun v h' => Stab E (acall E n) h' ls ∧ D2 E (acall E n) qs lq ops base Q [g] r (a.put dst v) h' ls) : D1 E (acall E n) qs lq ops base Q g ((⟨dst, .call ⟨.value x, args, ts⟩, ty, pos, aft, gd⟩, i) :: r) a [] ls := by
  obtain ⟨v, h', h1, h2, h3⟩ := C_out hc
  exact D1_wr0 hw (by simp only [isWrQ, hq]; rfl) (o_call hx hY hl h1) h2 h3
theorem D1_qcall {n : Nat} {x : Operand} {f : Nat} {fs cs : Array Value} {args : Array Operand} {ts : Array Nat} {l : List Value} (hw : awants ops a ⟨dst, .call ⟨.value x, args, ts⟩, ty, pos, aft, gd⟩ = true) (hq : memN i qs = true) (hx : aev a x = .func (.func f) fs cs) (hY : E.Y f = none) (hl : args.toList.map (aev a) = l) (hc : C E n f (fs.toList ++ l ++ cs.toList) g fun v h' => h' = g ∧ D1 E (acall E n) qs lq ops base Q g r (a.put dst v) [] ls) : D1 E (acall E n) qs lq ops base Q g ((⟨dst, .call ⟨.value x, args, ts⟩, ty, pos, aft, gd⟩, i) :: r) a [] ls := by
  obtain ⟨v, h', h1, rfl, h2⟩ := C_out hc
  exact D1_q hw rfl hq (o_call hx hY hl h1) h2
theorem D2_nil (hh : Q a g) : D2 E cf qs lq ops base Q hs [] a g ls := hh
theorem D2_pure {v : Value} (hw : awants ops a ⟨dst, op, ty, pos, aft, gd⟩ = true) (hp : pureOp op = true) (hk : kindOf op = 0) (hv : ∀ h nid, astep0 E cf a h nid ⟨dst, op, ty, pos, aft, gd⟩ = some (v, h)) (hh : D2 E cf qs lq ops base Q hs r (a.put dst v) g ls) : D2 E cf qs lq ops base Q hs ((⟨dst, op, ty, pos, aft, gd⟩, i) :: r) a g ls := .inr ⟨hw, .inl ⟨hp, hk, v, fun h nid => as_of (hv h nid), hh⟩⟩
theorem D2_rd {v : Value} (hw : awants ops a ⟨dst, op, ty, pos, aft, gd⟩ = true) (hk : isRd ⟨dst, op, ty, pos, aft, gd⟩ = true) (hl : memN i lq = true) (hv : ∀ h ∈ g :: hs, ∀ nid, astep0 E cf a h nid ⟨dst, op, ty, pos, aft, gd⟩ = some (v, h)) (hq : veq v v = true) (hh : D2 E cf qs lq ops base Q hs r (a.put dst v) g ((a, ⟨dst, op, ty, pos, aft, gd⟩, v) :: ls)) : D2 E cf qs lq ops base Q hs ((⟨dst, op, ty, pos, aft, gd⟩, i) :: r) a g ls := .inr ⟨hw, .inr (.inl ⟨hk, hl, v, fun h hh nid => as_of (hv h hh nid), hq, hh⟩)⟩
theorem D2_wr {v : Value} {g' : AHeap} (hw : awants ops a ⟨dst, op, ty, pos, aft, gd⟩ = true) (hk : isWrQ qs (⟨dst, op, ty, pos, aft, gd⟩, i) = true) (hv : astep0 E cf a g (base + i) ⟨dst, op, ty, pos, aft, gd⟩ = some (v, g')) (hst : Stab E cf g' ls) (hh : D2 E cf qs lq ops base Q (g :: hs) r (a.put dst v) g' ls) : D2 E cf qs lq ops base Q hs ((⟨dst, op, ty, pos, aft, gd⟩, i) :: r) a g ls := .inr ⟨hw, .inr (.inr ⟨hk, v, g', as_of hv, hst, hh⟩)⟩
end
attribute [irreducible] D1 D2
end Go.Proofs.Yteffhomollmpdaa.AM.SX
