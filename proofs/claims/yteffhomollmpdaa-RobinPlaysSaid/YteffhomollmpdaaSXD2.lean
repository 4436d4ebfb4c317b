/- Regions that draw, step by step as the machine takes them: what is laid may come ahead of a call or behind it. -/
import Derived.Test.YteffhomollmpdaaSXD
namespace Go.Proofs.Yteffhomollmpdaa.AM.SX
open Go
set_option linter.unusedVariables false
set_option linter.unusedSimpArgs false
section
variable {E : Env} {cf : CallF} {n : Nat} {ops : Array Oper} {b : Array Nat} {base : Nat} {QD : DSt → Prop}
def DG (E : Env) (cf : CallF) (ops : Array Oper) (b : Array Nat) (base : Nat) (r : List (Oper × Nat)) (s : DSt) (Q : DSt → Prop) : Prop := ∃ s', dgo E cf ops b base r s = some s' ∧ Q s'
theorem DG_nil {s : DSt} (hq : QD s) : DG E cf ops b base [] s QD := ⟨s, rfl, hq⟩
variable {r : List (Oper × Nat)} {a : AAct} {g g' : AHeap} {p : Pend} {rs : List DRec} {ws : List (Nat × AHeap × Pend)} {i : Nat} {dst : Option Nat} {op : Op} {ty : Nat} {pos : String} {aft : Array Edge} {gd : Option (Nat × Bool)}
theorem DG_p {v : Value} (hw : awants ops a ⟨dst, op, ty, pos, aft, gd⟩ = true) (hk : kindOf op = 0) (hp : pureOp op = true) (hv : astep0 E cf a (vis b base i g p) (base + i) ⟨dst, op, ty, pos, aft, gd⟩ = some (v, g')) (hh : DG E cf ops b base r ⟨a.put dst v, g, p, rs, ws⟩ QD) : DG E cf ops b base ((⟨dst, op, ty, pos, aft, gd⟩, i) :: r) ⟨a, g, p, rs, ws⟩ QD := by
  obtain ⟨s', h1, h2⟩ := hh
  refine ⟨s', ?_, h2⟩
  have h3 := as_of hv
  simp only [dgo, dstep, hw, Bool.not_true, cond_false, hk, h3, hp, cond_true]
  exact h1
theorem DG_r {v : Value} (hw : awants ops a ⟨dst, op, ty, pos, aft, gd⟩ = true) (hk : kindOf op = 0) (hp : pureOp op = false) (hv : astep0 E cf a (vis b base i g p) (base + i) ⟨dst, op, ty, pos, aft, gd⟩ = some (v, g')) (hh : DG E cf ops b base r ⟨a.put dst v, g, p, ⟨i, ⟨dst, op, ty, pos, aft, gd⟩, a, v⟩ :: rs, ws⟩ QD) : DG E cf ops b base ((⟨dst, op, ty, pos, aft, gd⟩, i) :: r) ⟨a, g, p, rs, ws⟩ QD := by
  obtain ⟨s', h1, h2⟩ := hh
  refine ⟨s', ?_, h2⟩
  have h3 := as_of hv
  simp only [dgo, dstep, hw, Bool.not_true, cond_false, hk, h3, hp]
  exact h1
theorem DG_new {v : Value} {x : AObj} (hw : awants ops a ⟨dst, op, ty, pos, aft, gd⟩ = true) (hk : kindOf op = 1) (hv : astep0 E cf a ⟨.nil, base + i⟩ (base + i) ⟨dst, op, ty, pos, aft, gd⟩ = some (v, g')) (hx : g'.get (base + i) = some x) (hh : DG E cf ops b base r ⟨a.put dst v, g, (i, x) :: p, rs, ws⟩ QD) : DG E cf ops b base ((⟨dst, op, ty, pos, aft, gd⟩, i) :: r) ⟨a, g, p, rs, ws⟩ QD := by
  obtain ⟨s', h1, h2⟩ := hh
  refine ⟨s', ?_, h2⟩
  have h3 := as_of hv
  simp only [dgo, dstep, hw, Bool.not_true, cond_false, hk, h3, hx]
  exact h1
theorem DG_w {v : Value} (hw : awants ops a ⟨dst, op, ty, pos, aft, gd⟩ = true) (hk : isWr ⟨dst, op, ty, pos, aft, gd⟩ = true) (hl : (match ws with | [] => true | (j, _) :: _ => isIn b j i) = true) (hv : astep0 E cf a (vis b base i g p) (base + i) ⟨dst, op, ty, pos, aft, gd⟩ = some (v, g')) (hh : DG E cf ops b base r ⟨a.put dst v, g', p.filter (fun q => !(isIn b q.1 i)), rs, (i, g, p) :: ws⟩ QD) : DG E cf ops b base ((⟨dst, op, ty, pos, aft, gd⟩, i) :: r) ⟨a, g, p, rs, ws⟩ QD := by
  obtain ⟨s', h1, h2⟩ := hh
  refine ⟨s', ?_, h2⟩
  have h3 := as_of hv
  have hk2 : Nat.beq (kindOf op) 0 = false ∧ Nat.beq (kindOf op) 1 = false := by
    unfold isWr at hk
    simpa using hk
  obtain ⟨kk, hkk⟩ : ∃ kk, kindOf op = kk + 2 := by
    simp only [beqd, decide_eq_false_iff_not] at hk2
    exact ⟨kindOf op - 2, by omega⟩
  have hst : dstep E cf ops b base ⟨dst, op, ty, pos, aft, gd⟩ i ⟨a, g, p, rs, ws⟩ = some ⟨a.put dst v, g', p.filter (fun q => !(isIn b q.1 i)), rs, (i, g, p) :: ws⟩ := by
    unfold dstep
    rw [hw, h3]
    simp only [hkk]
    exact (congrArg (fun z : Bool => bif z then some ({ a := a.put dst v, g := g', p := p.filter (fun q => !(isIn b q.1 i)), rs := rs, ws := (i, g, p) :: ws } : DSt) else none) hl).trans rfl
  simp only [dgo, hst]
  exact h1
theorem DG_call {x : Operand} {f : Nat} {fs cs : Array Value} {args : Array Operand} {ts : Array Nat} {l : List Value} (hw : awants ops a ⟨dst, .call ⟨.value x, args, ts⟩, ty, pos, aft, gd⟩ = true) (hl : (match ws with | [] => true | (j, _) :: _ => isIn b j i) = true) (hx : aev a x = .func (.func f) fs cs) (hY : E.Y f = none) (hargs : args.toList.map (aev a) = l) (hc : C E n f (fs.toList ++ l ++ cs.toList) (vis b base i g p) fun v g' => DG E (acall E n) ops b base r ⟨a.put dst v, g', p.filter (fun q => !(isIn b q.1 i)), rs, (i, g, p) :: ws⟩ QD) : DG E (acall E n) ops b base ((⟨dst, .call ⟨.value x, args, ts⟩, ty, pos, aft, gd⟩, i) :: r) ⟨a, g, p, rs, ws⟩ QD := by
  obtain ⟨v, h', h1, h2⟩ := C_out hc
  exact DG_w hw rfl hl (o_call hx hY hargs h1) h2
theorem vis_one {j : Nat} {x : AObj} (h : isIn b j i = true) : vis b base i g [(j, x)] = g.set (base + j) x := by
  unfold vis
  simp only [List.foldr_cons, List.foldr_nil, h, cond_true]
  rfl
theorem DG_w1 {v : Value} {j : Nat} {x : AObj} (hw : awants ops a ⟨dst, op, ty, pos, aft, gd⟩ = true) (hk : isWr ⟨dst, op, ty, pos, aft, gd⟩ = true) (hj : isIn b j i = true) (hl : (match ws with | [] => true | (j, _) :: _ => isIn b j i) = true) (hv : astep0 E cf a (g.set (base + j) x) (base + i) ⟨dst, op, ty, pos, aft, gd⟩ = some (v, g')) (hh : DG E cf ops b base r ⟨a.put dst v, g', [], rs, (i, g, [(j, x)]) :: ws⟩ QD) : DG E cf ops b base ((⟨dst, op, ty, pos, aft, gd⟩, i) :: r) ⟨a, g, [(j, x)], rs, ws⟩ QD := by
  refine DG_w hw hk hl (by rw [vis_one hj]; exact hv) ?_
  have : [(j, x)].filter (fun q => !(isIn b q.1 i)) = [] := by simp [hj]
  rw [this]; exact hh
theorem reads_in {d : DRec} {j : Nat} {p' : Pend} (h1 : isIn b d.i j = true) (h2 : reads E cf b base d g' p' ws = true) : reads E cf b base d g p ((j, g', p') :: ws) = true := by
  unfold reads; simp only [h1, h2, Bool.true_or, Bool.or_true, Bool.and_self]
theorem reads_here {d : DRec} {j : Nat} {p' : Pend} {v : Value} {g2 : AHeap} (h1 : astep0 E cf d.a (vis b base d.i g p) (base + d.i) d.o = some (v, g2)) (hq : veq v d.v = true) (h2 : reads E cf b base d g' p' ws = true) : reads E cf b base d g p ((j, g', p') :: ws) = true := by
  have h3 := as_of h1
  unfold reads; simp only [h3, hq, h2, Bool.or_true, Bool.and_self]
theorem reads_last {d : DRec} {v : Value} {g2 : AHeap} (h1 : astep0 E cf d.a (vis b base d.i g p) (base + d.i) d.o = some (v, g2)) (hq : veq v d.v = true) : reads E cf b base d g p [] = true := by
  have h3 := as_of h1
  unfold reads; simp only [h3, hq]
end
theorem G_drawX {E : Env} {cf : CallF} {n : Nat} {k : List Fr} {a : AAct} {h : AHeap} {Q : QT} {id : Nat} {ops : Array Oper} (b : Array Nat) (hb : Region.before ops = b) (hs : (tmpsOk ops b ops.toList.zipIdx && ops.toList.zipIdx.all (fun q => q.1.after.all fun e => !(Region.binds .any e) || Nat.blt e.on q.2) && !(ops.toList.any fun o => isInsert o.op)) = true) (hh : DG E cf ops b h.next ops.toList.zipIdx ⟨a, bump h ops.size, [], [], []⟩ fun s => s.rs.all (fun d => reads E cf b h.next d s.g s.p s.ws) = true ∧ N E cf n k s.a (flush h.next s.p s.g) Q) : G E cf n k (.region id ops true) a h Q := by
  obtain ⟨s, h1, h2, h3⟩ := hh
  simp only [Bool.and_eq_true, Bool.not_eq_true'] at hs
  obtain ⟨⟨s1, s2⟩, s3⟩ := hs
  subst hb
  have h1' : dgo E cf ops (Region.before ops) h.next ops.toList.zipIdx ⟨a, ⟨h.t, h.next + ops.size⟩, [], [], []⟩ = some s := h1
  have had : adraw E cf ops a h = some (s.a, flush h.next s.p s.g) := by
    unfold adraw
    rw [s3, cond_false]
    unfold adraw0
    simp only [s1, s2, Bool.and_self, cond_true, h1', h2]
    rfl
  unfold G R
  unfold N at h3
  exact ⟨.normal, s.a, flush h.next s.p s.g, by simp only [acode, cond_true, had], h3⟩
end Go.Proofs.Yteffhomollmpdaa.AM.SX
