import Derived.Test.YteffhomollmpdaaAMZ1
import Derived.FollowTie
import Derived.Orders
import Derived.Below
import Derived.KernelRfl
import Derived.Lib.Bytealg
import Derived.Lib.IndexEntry
import Derived.Laws.LoneSync
import Derived.Shelf.Strings.OnBuilder
/- Regions, code, calls: what the machine computes the program computes. -/
namespace Go.Proofs.Yteffhomollmpdaa.AM
open Go
variable [Tok]
set_option linter.unusedVariables false
set_option linter.unusedSectionVars false
set_option linter.unusedSimpArgs false
def GR (G : Nat) (π : Pi) : Prop := ∀ g, g < G → ∃ n, π g = some ⟨g, 0, n⟩
theorem GR.mono {G : Nat} {π π' : Pi} (h : GR G π) (hl : π.le π') : GR G π' := fun g hg => let ⟨n, h1⟩ := h g hg; ⟨n, hl _ _ h1⟩
structure AR (ds : List Deferred) (π : Pi) (a : AAct) (c : Act) : Prop where
  size : c.tmps.size = a.n
  at_ : ∀ t, VR π (a.at t) (c.tmps.getD t undef)
  df : c.defers = ds
/-- the marks of loops over functions, laid at or beyond B -/
structure DF (B : Nat) (ds : List Deferred) (w : World) : Prop where
  ex : ∃ Ds : List Nat, ds = Ds.map (fun D => { target := .collected D, args := #[] }) ∧ Ds.Nodup ∧ ∀ D ∈ Ds, B ≤ D ∧ w.heap[D]? = some (.deferred (some []))
theorem DF.nil {B : Nat} {w : World} : DF B [] w := ⟨[], rfl, List.nodup_nil, fun _ h => by cases h⟩
/-- no object of the machine lies on a loop's record or a mark's block -/
theorem OR.plain {π : Pi} {N : Nat} {o : AObj} {L : Loc} {w : World} (h : OR π N o L w) : (∀ q, w.heap[L.b]? ≠ some (.loop q)) ∧ ∀ d, w.heap[L.b]? ≠ some (.deferred d) := by
  cases o with
  | cells cs z => obtain ⟨_, ds, t, fr, h1, _⟩ := h; exact ⟨fun q e => (by rw [h1] at e; cases e), fun q e => (by rw [h1] at e; cases e)⟩
  | ro cs => obtain ⟨_, ds, t, fr, h1, _⟩ := h; exact ⟨fun q e => (by rw [h1] at e; cases e), fun q e => (by rw [h1] at e; cases e)⟩
  | map l => obtain ⟨_, es, c, h1, _⟩ := h; exact ⟨fun q e => (by rw [h1] at e; cases e), fun q e => (by rw [h1] at e; cases e)⟩
  | siter s pos => obtain ⟨_, _, h1⟩ := h; exact ⟨fun q e => (by rw [h1] at e; cases e), fun q e => (by rw [h1] at e; cases e)⟩
  | fmap l => obtain ⟨_, l', es, c, _, h1, _⟩ := h; exact ⟨fun q e => (by rw [h1] at e; cases e), fun q e => (by rw [h1] at e; cases e)⟩
theorem own_plain {π : Pi} {N : Nat} {g : AG} {nx : Nat} {w : World} (h : HR π N g nx w) {b : Nat} (ho : Own π g b) : (∀ q, w.heap[b]? ≠ some (.loop q)) ∧ ∀ d, w.heap[b]? ≠ some (.deferred d) := by
  obtain ⟨id, o, L, h1, h2, h3, rfl⟩ := ho
  obtain ⟨L', e1, e2⟩ := h.obj id o h1
  rw [h3] at e1; injection e1 with e1; subst e1
  exact e2.plain
theorem DF.stp {B : Nat} {ds : List Deferred} {π : Pi} {N : Nat} {g : AG} {nx : Nat} {w : World} {π' : Pi} {g' : AG} {nx' : Nat} {w' : World} {nid : Nat} (h : DF B ds w) (hr : HR π N g nx w) (hst : Stp π N g nx w π' g' nx' w' nid) : DF B ds w' := by
  obtain ⟨Ds, h1, h2, h3⟩ := h
  refine ⟨Ds, h1, h2, fun D hD => ⟨(h3 D hD).1, ?_⟩⟩
  have h4 := (h3 D hD).2
  exact (hst.blk D (Array.getElem?_eq_some_iff.1 h4).1 (fun ho => (own_plain hr ho).2 _ h4)).trans h4
theorem AR.mono {ds : List Deferred} {π π' : Pi} {a : AAct} {c : Act} (h : AR ds π a c) (hl : π.le π') : AR ds π' a c := ⟨h.size, fun t => (h.at_ t).mono hl, h.df⟩
theorem AR.put {ds : List Deferred} {π : Pi} {a : AAct} {c : Act} (h : AR ds π a c) (d : Option Nat) {v v' : Value} (hv : VR π v v') : AR ds π (a.put d v) (c.put d v') := by
  cases d with
  | none => rw [AAct.put_none]; exact h
  | some d =>
    rw [AAct.put_some]
    refine ⟨by simp only [Act.put, Array.size_setIfInBounds]; exact h.size, fun t => ?_, h.df⟩
    have hold := h.at_ t
    rw [AAct.at_eq, bltd] at hold ⊢
    simp only [Tr.get_put, Act.put]
    by_cases ht : t < a.n
    · rw [decide_eq_true ht, cond_true] at hold ⊢
      by_cases e : t = d
      · subst e
        rw [if_pos rfl, Array.getD_eq_getD_getElem?, Array.getElem?_setIfInBounds_self_of_lt (by rw [h.size]; exact ht)]
        exact hv
      · rw [if_neg e, Array.getD_eq_getD_getElem?, Array.getElem?_setIfInBounds_ne (Ne.symm e), ← Array.getD_eq_getD_getElem?]
        exact hold
    · rw [decide_eq_false ht, cond_false]
      have h1 : (c.tmps.setIfInBounds d v')[t]? = none := by
        rw [Array.getElem?_eq_none_iff, Array.size_setIfInBounds, h.size]; omega
      rw [Array.getD_eq_getD_getElem?, h1]
      exact VR.undef
/-- operands that lead nowhere but to what there is -/
def okO (G : Nat) : Operand → Bool
  | .const v => pv v
  | .global g => Nat.blt g G
  | _ => true
theorem aev_sound {ds : List Deferred} {G : Nat} {π : Pi} {a : AAct} {c : Act} (hg : GR G π) (h : AR ds π a c) {x : Operand} (hx : okO G x = true) : VR π (aev a x) (c.eval x) := by
  cases x with
  | tmp t => exact h.at_ t
  | const v => exact .of_pv hx
  | global g =>
    simp only [okO, bltd, decide_eq_true_eq] at hx
    obtain ⟨n, hn⟩ := hg g hx
    have := VR.ptr (o := 0) hn
    simpa [aev, Act.eval] using this
  | func f => exact .func .nil .nil
def okOp (G : Nat) (o : Oper) : Bool := o.op.operands.toList.all (okO G)
def noRF : Code → Bool
  | .seq x y => noRF x && noRF y
  | .cond _ x y => noRF x && noRF y
  | .block _ c => noRF c
  | .loop c => noRF c
  | .rangeFunc _ _ _ _ => false
  | _ => true
def okCode (G : Nat) : Code → Bool
  | .region _ ops _ => ops.toList.all (okOp G)
  | .seq x y => okCode G x && okCode G y
  | .cond c x y => okO G c && okCode G x && okCode G y
  | .block _ c => okCode G c
  | .loop c => okCode G c
  | .rangeFunc f _ x y => okO G f && (okCode G x && noRF x) && (okCode G y && noRF y)
  | _ => true
/-- what slices.Backward's iterator reads -/
def BackHold (bx : Addr) (vs : List Int) (W : World) : Prop := ∃ A cap, W.cell? bx = some (.slice A vs.length cap) ∧ (vs ≠ [] → ∃ b o, A = some ⟨b, o, none⟩ ∧ ∀ (j : Nat) x, vs[j]? = some x → W.cell? ⟨b, o + j, none⟩ = some (.int .i64 x))
def BackOk (P : Program) (g : Nat) : Prop := (∀ args w, (callFunc g args).run P w = .ok (.enter g args) w) ∧
  ∀ (n : Nat) (bx : Addr) (vs : List Int), vs.length ≤ 16777216 → SeqK Fence.wide n P g #[.pointer (some bx)] (fun k => #[.int .i64 ((vs.length - 1 - k : Nat) : Int), .int .i64 (vs.getD (vs.length - 1 - k) 0)]) (BackHold bx vs) vs.length
/-- where the machine's code may be walked: everywhere, and in a round of a loop over a function -/
structure FOk (F : Fence) : Prop where
  fn : ∀ f, F.fn f
  dep : ¬ F.depth.isSome = true
  calls : ∀ {n : Nat} {P : Program} {f : Nat} {args : Array Value} {w : World} {R : Ending → World → Prop}, Calls P f args w R → CallsIn F n P f args w R
theorem FOk.wide : FOk Fence.wide := ⟨fun _ => trivial, by simp [Fence.wide], fun h => callsIn_wide.2 h⟩
theorem FOk.round (l : Nat) : FOk (Fence.wide.inRound l) := ⟨fun _ => trivial, by simp [Fence.wide, Fence.inRound], fun h => CallsIn.inRound l (callsIn_wide.2 h)⟩
/-- a function that is entered -/
def Body (P : Program) (f : Nat) : Prop := ∃ fn, P.funcs[f]? = some fn ∧ fn.body.isSome = true ∧ (fn.name == "runtime.NumGoroutine") = false
/-- what a call of the machine says of the program's -/
def CallOk (P : Program) (G N : Nat) (f : Nat) (args : List Value) (h : AHeap) (v : Value) (h' : AHeap) : Prop :=
  Body P f ∧ ∀ (π : Pi) (w : World) (cargs : Array Value), GR G π → HR π N h.get h.next w → VRs π args cargs.toList →
    Calls P f cargs w fun e w' => ∃ π' v', e = .returned v' ∧ VR π' v v' ∧ Stp π N h.get h.next w π' h'.get h'.next w' h.next
def CallsOk (P : Program) (G N : Nat) (callf : CallF) : Prop := ∀ f args h v h', callf f args h = some (v, h') → CallOk P G N f args h v h'
def ExtOk (P : Program) (G N : Nat) (f : Nat) (y : Ext) : Prop := ∀ args h v h', y args h = some (v, h') →
  ∀ (π : Pi) (w : World) (cargs : Array Value), GR G π → HR π N h.get h.next w → VRs π args cargs.toList →
    ∃ π' v' w', (callFunc f cargs).run P w = .ok (.value v') w' ∧ VR π' v v' ∧ Stp π N h.get h.next w π' h'.get h'.next w' h.next
structure EOk (P : Program) (G N : Nat) (E : Env) : Prop where
  t : TOk P E.T
  f : ∀ k fn, E.F.get k = some fn → P.funcs[k]? = some fn ∧ (fn.name == "runtime.NumGoroutine") = false ∧ ∀ c, fn.body = some c → okCode G c = true
  x : ∀ k x, E.X k = some x → ∀ args h v h', x args h = some (v, h') → CallOk P G N k args h v h'
  y : ∀ k y, E.Y k = some y → ExtOk P G N k y
  m : ∀ t n f, (t, n, f, none) ∈ E.M → ∀ (w : World) (v : Value), (method (P.types.size + Made.depth) t v n).run P w = .ok (f, v) w
  md : ∀ t n f e, (t, n, f, some e) ∈ E.M → ∀ (w : World) (a : Addr), (method (P.types.size + Made.depth) t (.pointer (some a)) n).run P w = ((loadVar e a).run P w).andThen fun v w' => .ok (f, v) w'
  r : ∀ g, E.R g = true → BackOk P g
  tb : ∀ op vs v, E.Tb op vs = some v → ∀ (o : Oper) (π : Pi) (g : AG) (nx : Nat) (w : World) (ρ : Operand → Value), o.op = op → GR G π → HR π N g nx w → VRs π vs (op.operands.toList.map ρ) → ∃ v', (execOp ρ o).run P w = .ok (.value v') w ∧ VR π v v'
section
variable {P : Program} {G N : Nat} {E : Env} {callf : CallF} {w : World} {π : Pi} {F : Fence} {fu B : Nat} {ds : List Deferred}
theorem callFunc_enter {f : Nat} (hb : Body P f) (args : Array Value) : (callFunc f args).run P w = .ok (.enter f args) w := by
  obtain ⟨fn, h1, h2, h3⟩ := hb
  have h4 : fn.name ≠ "runtime.NumGoroutine" := by simpa using h3
  have h5 : fn.body ≠ none := by intro e; rw [e] at h2; cases h2
  simp [callFunc, h1, h4, h5, Sem.run_pure]
theorem Stp.wider {g : AG} {nx : Nat} {w' : World} {π' : Pi} {g' : AG} {nx' nid : Nat} (h : Stp π N g nx w π' g' nx' w' nx) : Stp π N g nx w π' g' nx' w' nid :=
  ⟨h.le, fun id h0 _ h2 => h.fresh id h0 (by omega) h2, h.hr, h.nxl, h.os, h.tape, h.output, h.size, h.blk, h.own, fun id o ho => by
    rcases h.dom id o ho with h1 | h1 | h1
    · exact .inl h1
    · exact .inr (.inr (by omega))
    · exact .inr (.inr h1)⟩
theorem ops_sound {a : AAct} {c : Act} (hg : GR G π) (ha : AR ds π a c) {o : Oper} (hok : okOp G o = true) : ∀ x ∈ o.op.operands, VR π (aev a x) (c.eval x) := fun x hx => aev_sound hg ha (by
  unfold okOp at hok
  exact List.all_eq_true.1 hok x (by simpa using hx))
theorem methodOf_mem : ∀ {l : List (Nat × String × Nat × Option Nat)} {t : Nat} {n : String} {f : Nat × Option Nat}, methodOf l t n = some f → (t, n, f) ∈ l
  | [], _, _, _, h => by cases h
  | (u, m, g) :: r, t, n, f, h => by
    simp only [methodOf, beqd, Bool.cond_eq_ite] at h
    split at h
    · rename_i hc
      simp only [Bool.and_eq_true, decide_eq_true_eq] at hc
      obtain ⟨rfl, rfl⟩ := hc
      injection h with h; subst h
      exact .head _
    · exact .tail _ (methodOf_mem h)
/-- one operation -/
theorem astep0_sound (hF : FOk F) (he : EOk P G N E) (hc : CallsOk P G N callf) {h h' : AHeap} (hr : HR π N h.get h.next w) {nid : Nat} (hnid : π nid = none) {a : AAct} {c : Act} (hg : GR G π) {o : Oper} (hρ : ∀ x ∈ o.op.operands, VR π (aev a x) (c.eval x)) {v : Value}
    (hs : astep0 E callf a h nid o = some (v, h')) {K : Act → World → Prop} {Q : Exit → Act → World → Prop}
    (hK : ∀ π' v' w', VR π' v v' → Stp π N h.get h.next w π' h'.get h'.next w' nid → K (c.put o.dst v') w') : o.wpIn F fu P c w K Q := by
  have hnd : ∀ cl, o.op ≠ .defer cl := by
    intro cl e
    unfold astep0 at hs
    rw [e] at hs
    simp [aop] at hs
  have hsem := Oper.semAt_eq F.round c.eval o hnd
  have plain : OpOk P π N h w nid (execOp c.eval o) v h' → o.wpIn F fu P c w K Q := by
    rintro ⟨π', v', w', hrun, hv, hst⟩
    refine ⟨fun f _ => hF.fn f, ?_⟩
    rw [hsem]
    rcases hrun with hrun | ⟨hrun, rfl⟩
    · rw [hrun, Oper.uponIn_value]; exact hK π' v' w' hv hst
    · rw [hrun, Oper.uponIn_skip]; exact hK π' _ w' hv hst
  unfold astep0 at hs
  split at hs
  · rename_i cl hop
    have hargs : VRs π (cl.args.toList.map (aev a)) (cl.args.map c.eval).toList := by
      rw [Array.toList_map]
      refine VRs.mapρ fun x hx => hρ x ?_
      rw [hop]
      simp only [Op.operands, Call.operands, Array.mem_append]
      exact .inr (by simpa using hx)
    split at hs
    · rename_i f hcal
      have hf := hρ f (by rw [hop]; simp [Op.operands, Call.operands, hcal])
      split at hs
      · rename_i g first cap hfv
        rw [hfv] at hf
        generalize hcf : c.eval f = cf at hf
        cases hf with
        | func h1 h2 =>
          rename_i gs ds
          have hall : VRs π (first.toList ++ cl.args.toList.map (aev a) ++ cap.toList) (gs ++ cl.args.map c.eval ++ ds).toList := by
            simp only [Array.toList_append]
            exact (h1.append hargs).append h2
          have hexec : (execOp c.eval o).run P w = (callFunc g (gs ++ cl.args.map c.eval ++ ds)).run P w := by
            unfold execOp
            rw [hop]
            simp only [resolve, hcal, hcf, Deferred.ofValue, Sem.run_bind, Sem.run_pure, Result.andThen, invoke]
          split at hs
          · rename_i y hy
            obtain ⟨π', v', w', e1, e2, e3⟩ := he.y g y hy _ _ _ _ hs π w _ hg hr hall
            refine ⟨fun f _ => hF.fn f, ?_⟩
            rw [hsem, hexec, e1, Oper.uponIn_value]
            exact hK π' v' w' e2 e3.wider
          · obtain ⟨hb, hcall⟩ := hc _ _ _ _ _ hs
            refine ⟨fun f _ => hF.fn f, ?_⟩
            rw [hsem, hexec, callFunc_enter hb, Oper.uponIn_enter]
            refine ⟨fun h => absurd h hF.dep, (hF.calls (hcall π w _ hg hr hall)).mono ?_⟩
            rintro e w' ⟨π', v', rfl, hv, hst⟩
            exact hK π' v' w' hv hst.wider
      · cases hs
    · rename_i b hcal
      refine plain ?_
      have hb := abuiltin_sound (P := P) (ty := o.type) (cs := cl.args.map fun | .const _ => true | _ => false) he.t hr hnid hs hargs
      obtain ⟨π', v', w', hrun, hv, hst⟩ := hb
      refine ⟨π', v', w', ?_, hv, hst⟩
      have hexec : (execOp c.eval o).run P w = (builtin b cl.argTypes o.type (cl.args.map fun | .const _ => true | _ => false) (cl.args.map c.eval)).run P w := by
        unfold execOp
        rw [hop]
        simp only [resolve, hcal, Sem.run_bind, Sem.run_pure, Result.andThen, invoke]
        rfl
      rw [hexec]
      exact hrun
    · rename_i r m hcal
      have hf := hρ r (by rw [hop]; simp [Op.operands, Call.operands, hcal])
      split at hs
      · rename_i t x hfv
        rw [hfv] at hf
        generalize hcf : c.eval r = cf at hf
        cases hf with
        | iface hx =>
          rename_i x'
          have key : ∀ (g : Nat) (y y' : Value), VR π y y' → ((method (P.types.size + Made.depth) t x' m).run P w = .ok (g, y') w) → callf g (y :: cl.args.toList.map (aev a)) h = some (v, h') → o.wpIn F fu P c w K Q := by
            intro g y y' hy hm hs
            have hall : VRs π (y :: cl.args.toList.map (aev a)) (#[y'] ++ cl.args.map c.eval).toList := by
              simp only [Array.toList_append]
              exact .cons hy hargs
            have hexec : (execOp c.eval o).run P w = (callMethod (.iface t x') m (cl.args.map c.eval)).run P w := by
              unfold execOp
              rw [hop]
              have he1 : ((#[Value.iface t x'] ++ cl.args.map c.eval).extract 1 (#[Value.iface t x'] ++ cl.args.map c.eval).size) = cl.args.map c.eval := by
                apply Array.ext'
                simp only [Array.toList_extract, Array.toList_append, Array.size_append]
                simp
                exact List.take_of_length_le (by simp)
              have he0 : (#[Value.iface t x'] ++ cl.args.map c.eval)[0]? = some (Value.iface t x') := by rw [Array.getElem?_append_left (by simp)]; rfl
              simp only [resolve, hcal, hcf, Sem.run_bind, Sem.run_pure, Result.andThen, invoke, he0, he1]
            have hrun : (callMethod (.iface t x') m (cl.args.map c.eval)).run P w = (callFunc g (#[y'] ++ cl.args.map c.eval)).run P w := by
              rcases callMethod_tie P w t x' m (cl.args.map c.eval) with ⟨f2, r2, w2, q1, q2⟩ | ⟨h2, w2, q1, _⟩
              · rw [hm] at q1
                injection q1 with q1 q3
                injection q1 with q1 q4
                subst q1; subst q3; subst q4
                exact q2
              · rw [hm] at q1; cases q1
            obtain ⟨hb, hcall⟩ := hc _ _ _ _ _ hs
            refine ⟨fun f _ => hF.fn f, ?_⟩
            rw [hsem, hexec, hrun, callFunc_enter hb, Oper.uponIn_enter]
            refine ⟨fun h => absurd h hF.dep, (hF.calls (hcall π w _ hg hr hall)).mono ?_⟩
            rintro e w' ⟨π', v', rfl, hv, hst⟩
            exact hK π' v' w' hv hst.wider
          split at hs
          · rename_i g hg'
            exact key g _ _ hx (he.m _ _ _ (methodOf_mem hg') w x') hs
          · rename_i g e hg'
            split at hs
            · rename_i y hy
              obtain ⟨y', g1, g2⟩ := aload_sound (P := P) he.t hr hy hx
              have hsa : ∃ ad, x' = .pointer (some ad) := by
                unfold aload at hy
                split at hy
                · cases hx; exact ⟨_, rfl⟩
                · cases hy
              obtain ⟨ad, rfl⟩ := hsa
              simp only [Instr.loadAt, Instr.sureAddr, Sem.run_bind, Sem.run_pure, Result.andThen] at g1
              refine key g _ _ g2 ?_ hs
              rw [he.md _ _ _ _ (methodOf_mem hg') w ad, g1]
              rfl
            · cases hs
          · cases hs
      · cases hs
  · exact plain (aop_sound he.t hr hnid hs hρ)
theorem astep_sound (hF : FOk F) (he : EOk P G N E) (hc : CallsOk P G N callf) {h h' : AHeap} (hr : HR π N h.get h.next w) {nid : Nat} (hnid : π nid = none) {a : AAct} {c : Act} (hg : GR G π) {o : Oper} (hρ : ∀ x ∈ o.op.operands, VR π (aev a x) (c.eval x)) {v : Value}
    (hs : astep E callf a h nid o = some (v, h')) {K : Act → World → Prop} {Q : Exit → Act → World → Prop}
    (hK : ∀ π' v' w', VR π' v v' → Stp π N h.get h.next w π' h'.get h'.next w' nid → K (c.put o.dst v') w') : o.wpIn F fu P c w K Q := by
  unfold astep at hs
  split at hs
  · rename_i r h0
    simp only [Option.some.injEq] at hs
    subst hs
    exact astep0_sound hF he hc hr hnid hg hρ h0 hK
  · rw [Bool.cond_eq_ite] at hs
    split at hs
    · rename_i hk
      split at hs
      · rename_i u htb
        simp only [Option.some.injEq, Prod.mk.injEq] at hs
        obtain ⟨rfl, rfl⟩ := hs
        obtain ⟨v', hrun, hv⟩ := he.tb _ _ _ htb o π _ _ w c.eval rfl hg hr (VRs.mapρ fun x hx => hρ x (by simpa using hx))
        have hnd : ∀ cl, o.op ≠ .defer cl := fun cl e => by rw [e] at hk; simp [noDefer] at hk
        refine ⟨fun f _ => hF.fn f, ?_⟩
        rw [Oper.semAt_eq F.round c.eval o hnd, hrun, Oper.uponIn_value]
        exact hK π v' w hv (Stp.refl hr _)
      · cases hs
    · cases hs
theorem awants_eq (ops : Array Oper) {a : AAct} {c : Act} (ha : AR ds π a c) (o : Oper) : awants ops a o = Region.wanted o (yielded ops c.tmps) := by
  unfold awants Region.wanted
  cases o.guard with
  | none => rfl
  | some jw =>
    obtain ⟨j, want⟩ := jw
    simp only [yielded]
    cases hj : ops[j]? with
    | none => simp
    | some p =>
      cases hd : p.dst with
      | none => simp [hd]
      | some d =>
        simp only [Option.bind_some, hd, bltd]
        by_cases hlt : d < a.n
        · rw [decide_eq_true hlt, cond_true]
          have hlt' : d < c.tmps.size := by rw [ha.size]; exact hlt
          have hv := ha.at_ d
          rw [Array.getD_eq_getD_getElem?, Array.getElem?_eq_getElem hlt'] at hv
          simp only [Option.getD_some] at hv
          rw [Array.getElem?_eq_getElem hlt']
          generalize a.at d = x at hv
          generalize c.tmps[d] = y at hv
          cases hv
          case bool b => cases b <;> cases want <;> rfl
          case tok i =>
            have := Tok.nb i
            generalize Tok.val i = u at *
            cases u <;> first | rfl | (cases want <;> rfl) | exact absurd rfl (this _)
          case junk hu hb => cases y <;> first | rfl | (cases want <;> rfl) | exact absurd rfl (hb _)
          all_goals first | rfl | (cases want <;> rfl)
        · rw [decide_eq_false hlt, cond_false]
          have : c.tmps[d]? = none := Array.getElem?_eq_none (by rw [ha.size]; exact Nat.le_of_not_lt hlt)
          rw [this]; rfl
theorem aseq_sound (hF : FOk F) (he : EOk P G N E) (hc : CallsOk P G N callf) (ops : Array Oper) {Q : Exit → Act → World → Prop} : ∀ {os : List Oper} {a a' : AAct} {h h' : AHeap} {π : Pi} {w : World} {c : Act}, aseq E callf ops os a h = some (a', h') → os.all (okOp G) = true → GR G π → HR π N h.get h.next w → AR ds π a c →
    (∀ π' c' w', AR ds π' a' c' → Stp π N h.get h.next w π' h'.get h'.next w' h.next → Q .normal c' w') → wpListIn F fu P ops Q os c w
  | [], a, a', h, h', π, w, c, hs, _, hg, hr, ha, hQ => by
    simp only [aseq, Option.some.injEq, Prod.mk.injEq] at hs
    obtain ⟨rfl, rfl⟩ := hs
    exact hQ π c w ha (Stp.refl hr _)
  | o :: os, a, a', h, h', π, w, c, hs, hok, hg, hr, ha, hQ => by
    simp only [List.all_cons, Bool.and_eq_true] at hok
    simp only [aseq] at hs
    unfold wpListIn
    rw [← awants_eq ops ha o]
    cases hw : awants ops a o with
    | false =>
      rw [hw, cond_false] at hs
      simp only [Bool.false_eq_true, if_false]
      exact ⟨fun f _ => hF.fn f, aseq_sound hF he hc ops hs hok.2 hg hr (ha.put _ VR.undef) hQ⟩
    | true =>
      rw [hw, cond_true] at hs
      simp only [if_true]
      split at hs
      · rename_i v h1 hst
        refine (astep_sound hF he hc hr (hr.lim _ (Nat.le_refl _)) hg (ops_sound hg ha hok.1) hst fun π' v' w' hv hstp => ?_)
        exact aseq_sound hF he hc ops hs hok.2 (hg.mono hstp.le) hstp.hr ((ha.mono hstp.le).put _ hv) fun π'' c' w'' h2 h3 => hQ π'' c' w'' h2 (hstp.trans h3 (.inr hstp.nxl))
      · cases hs
/-- what a region comes to -/
def RegPost (N : Nat) (ds : List Deferred) (π : Pi) (h : AHeap) (w : World) (a' : AAct) (h' : AHeap) : Exit → Act → World → Prop := fun e2 c w' => e2 = .normal ∧ ∃ π', AR ds π' a' c ∧ Stp π N h.get h.next w π' h'.get h'.next w' h.next
/-- what a piece of code comes to -/
def CodePost (N B : Nat) (π : Pi) (h : AHeap) (w : World) (e : Exit) (a' : AAct) (h' : AHeap) : Exit → Act → World → Prop := fun e2 c w' => e2 = e ∧ ∃ ds' π', DF B ds' w' ∧ AR ds' π' a' c ∧ Stp π N h.get h.next w π' h'.get h'.next w' h.next
def DrawsOk (P : Program) (G N : Nat) (E : Env) (callf : CallF) : Prop := ∀ (F : Fence) (fu : Nat) (ds : List Deferred) (id : Nat) (ops : Array Oper) (a a' : AAct) (h h' : AHeap) (π : Pi) (w : World) (c : Act), FOk F → adraw E callf ops a h = some (a', h') → ops.toList.all (okOp G) = true → GR G π → HR π N h.get h.next w → AR ds π a c →
  (Code.region id ops true).wpIn F fu P (RegPost N ds π h w a' h') c w
theorem aloop_rounds {body : Code} {f : AAct → AHeap → Option (Exit × AAct × AHeap)} (hf : ∀ (ds : List Deferred) (a : AAct) (h : AHeap) e a' h' (π : Pi) (w : World) (c : Act), f a h = some (e, a', h') → GR G π → HR π N h.get h.next w → AR ds π a c → DF B ds w → B ≤ w.heap.size → body.wpIn F fu P (CodePost N B π h w e a' h') c w) :
    ∀ (n : Nat) (ds : List Deferred) (a : AAct) (h : AHeap) e a' h' (π : Pi) (w : World) (c : Act), aloop f n a h = some (e, a', h') → GR G π → HR π N h.get h.next w → AR ds π a c → DF B ds w → B ≤ w.heap.size →
    ∀ (π0 : Pi) (h0 : AHeap) (w0 : World), Stp π0 N h0.get h0.next w0 π h.get h.next w h0.next → Code.roundsIn F fu P body (CodePost N B π0 h0 w0 e a' h') n c w
  | 0, ds, a, h, e, a', h', π, w, c, hs, _, _, _, _, _, _, _, _, _ => by simp [aloop] at hs
  | n + 1, ds, a, h, e, a', h', π, w, c, hs, hg, hr, ha, hd, hB, π0, h0, w0, hst => by
    rw [roundsIn_succ]
    simp only [aloop] at hs
    split at hs
    · rename_i a1 h1 hf1
      refine wpIn_mono (hf _ _ _ _ _ _ π w c hf1 hg hr ha hd hB) ?_
      rintro e2 c2 w2 ⟨rfl, ds', π', hd', h2, h3⟩
      exact aloop_rounds hf n _ _ _ _ _ _ π' w2 c2 hs (hg.mono h3.le) h3.hr h2 hd' (Nat.le_trans hB h3.size) π0 h0 w0 (hst.trans h3 (.inr hst.nxl))
    · rename_i r hne
      refine wpIn_mono (hf _ _ _ _ _ _ π w c hs hg hr ha hd hB) ?_
      rintro e2 c2 w2 ⟨rfl, ds', π', hd', h2, h3⟩
      have hpost : CodePost N B π0 h0 w0 e2 a' h' e2 c2 w2 := ⟨rfl, ds', π', hd', h2, hst.trans h3 (.inr hst.nxl)⟩
      cases e2 with
      | normal => exact absurd hs (hne a' h')
      | exit id => exact hpost
      | goto l => exact hpost
      | ret => exact hpost
      | panic ch => exact hpost
      | outgrown => exact hpost
theorem CodePost.trans {h0 h1 h2 : AHeap} {π0 π1 : Pi} {w0 w1 : World} {e : Exit} {a : AAct} (hst : Stp π0 N h0.get h0.next w0 π1 h1.get h1.next w1 h0.next) {e2 : Exit} {c : Act} {w' : World} (h : CodePost N B π1 h1 w1 e a h2 e2 c w') : CodePost N B π0 h0 w0 e a h2 e2 c w' := by
  obtain ⟨h1', ds', π', hd', h2', h3'⟩ := h
  exact ⟨h1', ds', π', hd', h2', hst.trans h3' (.inr hst.nxl)⟩
/-! ### a range over slices.Backward -/
theorem Stp.turnLD {g : AG} {nx : Nat} {π' : Pi} {g' : AG} {nx' : Nat} {w' : World} {nid : Nat} {W : World} {row : Option Nat} (h : Stp π N g nx w π' g' nx' w' nid) (hN : N ≤ w.heap.size) (hg : w'.grownBy W row)
    (hrow : ∀ r, row = some r → w.heap.size ≤ r ∧ ((∃ q, w'.heap[r]? = some (.loop q)) ∨ ∃ d, w'.heap[r]? = some (.deferred d))) : Stp π N g nx w π' g' nx' W nid := by
  have hsame : ∀ (o : AObj) (L : Loc), OR π' N o L w' → W.heap[L.b]? = w'.heap[L.b]? := by
    intro o L ho
    refine hg.block _ ho.lt (fun e => ?_)
    rcases (hrow _ e.symm).2 with ⟨q, hq⟩ | ⟨d, hd⟩
    · exact ho.plain.1 q hq
    · exact ho.plain.2 d hd
  refine ⟨h.le, h.fresh, ⟨fun id o ho => ?_, h.hr.sep, h.hr.lim, h.hr.base.step hg.size (fun b hb => hg.block _ (Nat.lt_of_lt_of_le hb h.hr.base.le) (fun e => by have := (hrow _ e.symm).1; have h2 := hN; omega))⟩, h.nxl, hg.os.trans h.os, hg.tape.trans h.tape, hg.output.trans h.output, Nat.le_trans h.size hg.size, fun b hb ho => ?_, h.own, h.dom⟩
  · obtain ⟨L, h1, h2⟩ := h.hr.obj id o ho
    exact ⟨L, h1, h2.mono (Pi.le.refl _) (hsame o L h2)⟩
  · refine (hg.block _ (Nat.lt_of_lt_of_le hb h.size) (fun e => ?_)).trans (h.blk b hb ho)
    have := (hrow _ e.symm).1
    omega
theorem stp_keeps {g : AG} {nx : Nat} {π' : Pi} {g' : AG} {nx' : Nat} {w' : World} {nid : Nat} (hr : HR π N g nx w) (h : Stp π N g nx w π' g' nx' w' nid) (C : Nat) : KeepsLD C w w' :=
  ⟨h.size, fun k q _ hk => (h.blk k (Array.getElem?_eq_some_iff.1 hk).1 (fun ho => (own_plain hr ho).1 _ hk)).trans hk, fun k d _ hk => (h.blk k (Array.getElem?_eq_some_iff.1 hk).1 (fun ho => (own_plain hr ho).2 _ hk)).trans hk⟩
theorem DF.turn {W W' : World} {row : Option Nat} (h : DF B ds W) (hg : W.grownBy W' row) (hrow : ∀ r, row = some r → ∃ q, W.heap[r]? = some (.loop q)) : DF B ds W' := by
  obtain ⟨Ds, h1, h2, h3⟩ := h
  refine ⟨Ds, h1, h2, fun D hD => ⟨(h3 D hD).1, (hg.block D (Array.getElem?_eq_some_iff.1 (h3 D hD).2).1 (fun e => ?_)).trans (h3 D hD).2⟩⟩
  obtain ⟨q, hq⟩ := hrow D e.symm
  rw [(h3 D hD).2] at hq; cases hq
theorem DF.push {W : World} {D : Nat} (h : DF B ds w) (hk : KeepsLD B w W) (hB : B ≤ w.heap.size) (hD : w.heap.size ≤ D) (hm : W.heap[D]? = some (.deferred (some []))) : DF B ({ target := .collected D, args := #[] } :: ds) W := by
  obtain ⟨Ds, h1, h2, h3⟩ := h
  refine ⟨D :: Ds, by simp [h1], List.nodup_cons.2 ⟨fun hmem => ?_, h2⟩, fun D' hD' => ?_⟩
  · have := (Array.getElem?_eq_some_iff.1 (h3 D hmem).2).1
    omega
  · rcases List.mem_cons.1 hD' with rfl | hD'
    · exact ⟨Nat.le_trans hB hD, hm⟩
    · exact ⟨(h3 D' hD').1, hk.mark D' _ (h3 D' hD').1 (h3 D' hD').2⟩
theorem eqInts_eq : ∀ {x y : List Int}, eqInts x y = true → x = y
  | [], [], _ => rfl
  | [], _ :: _, h => by cases h
  | _ :: _, [], h => by cases h
  | a :: x, b :: y, h => by
    simp only [eqInts, Bool.and_eq_true, beq_iff_eq] at h
    rw [h.1, eqInts_eq h.2]
theorem intsOf_spec : ∀ {r : List Value} {l : List Int}, intsOf r = some l → r = l.map (fun n => Value.int .i64 n)
  | [], l, h => by simp only [intsOf, Option.some.injEq] at h; subst h; rfl
  | v :: r, l, h => by
    unfold intsOf at h
    split at h
    · rename_i e; cases e
    · rename_i n r' e
      injection e with e1 e2
      subst e1 e2
      split at h
      · rename_i l' h'
        simp only [Option.some.injEq] at h
        subst h
        simp [intsOf_spec h']
      · cases h
    · cases h
theorem backHold {g : AHeap} {π' : Pi} {nx : Nat} {W : World} (hr : HR π' N g.get nx W) {bx o : Nat} {vs : List Int} (hb : backList g bx o = some vs) {L : Loc} (hL : π' bx = some L) : BackHold ⟨L.b, L.d + o, none⟩ vs W ∧ vs.length ≤ 16777216 := by
  unfold backList at hb
  split at hb
  · rename_i cs hcs
    obtain ⟨L', ds, ty, fr, h1, h2, h3⟩ := rd_spec hr hcs
    rw [hL] at h1; injection h1 with h1; subst h1
    split at hb
    · rename_i A len cap ho
      obtain ⟨u, u1, u2⟩ := h3 o _ ho
      rw [Bool.cond_eq_ite] at hb
      split at hb
      · rename_i hlen
        rw [bled, decide_eq_true_eq] at hlen
        have hcell : ∀ x, u = x → W.cell? ⟨L.b, L.d + o, none⟩ = some x := fun x e => by rw [cell_row h2, u1, e]
        rw [Bool.cond_eq_ite] at hb
        split at hb
        · rename_i hz
          rw [beqd, decide_eq_true_eq] at hz
          subst hz
          injection hb with hb
          subst hb
          refine ⟨?_, by simp⟩
          cases u2 with
          | slice0 => exact ⟨_, _, hcell _ rfl, fun h => absurd rfl h⟩
          | slice _ _ => exact ⟨_, _, hcell _ rfl, fun h => absurd rfl h⟩
          | sliceE _ => exact ⟨_, _, hcell _ rfl, fun h => absurd rfl h⟩
        · rename_i hz
          rw [beqd, decide_eq_true_eq] at hz
          split at hb
          · rename_i id p
            split at hb
            · rename_i dd hdd
              split at hb
              · rename_i r hcut
                have hv := intsOf_spec hb
                obtain ⟨rfl, hlen2, _⟩ := cut_spec hcut
                have hvl : vs.length = len := by
                  have := congrArg List.length hv
                  simp at this
                  omega
                obtain ⟨M, es, ty2, fr2, g1, g2, g3⟩ := rd_spec hr hdd
                cases u2 with
                | sliceE _ => exact absurd rfl hz
                | slice hM hc =>
                  rename_i cap' M'
                  rw [g1] at hM; injection hM with hM; subst hM
                  refine ⟨⟨_, _, by rw [hvl]; exact hcell _ rfl, fun _ => ⟨M.b, M.d + p, rfl, fun j x hj => ?_⟩⟩, by omega⟩
                  have hjn : j < len := by rw [← hvl]; exact (List.getElem?_eq_some_iff.1 hj).1
                  have h1 : ((dd.drop p).take len)[j]? = some (.int .i64 x) := by rw [hv, List.getElem?_map, hj]; rfl
                  rw [List.getElem?_take_of_lt hjn, List.getElem?_drop] at h1
                  obtain ⟨q, q1, q2⟩ := g3 (p + j) _ h1
                  cases q2
                  rw [cell_row g2, ← q1]
                  congr 1; omega
              · cases hb
            · cases hb
          · cases hb
      · cases hb
    · cases hb
  · cases hb
theorem arange_hold {full assign : AAct → AHeap → Option (Exit × AAct × AHeap)} {a : AAct} {ps : List Nat} {bx o : Nat} {vs : List Int} {m : Nat} {h : AHeap} {r : Exit × AHeap} (hs : arange full assign a ps bx o vs (m + 1) h = some r) : backList h bx o = some vs := by
  unfold arange at hs
  rw [Bool.cond_eq_ite] at hs
  split at hs
  · rename_i hc
    unfold sameList at hc
    split at hc
    · rename_i l hl
      rw [hl, eqInts_eq hc]
    · cases hc
  · cases hs
theorem putL_two {π' : Pi} {a : AAct} {c : Act} (ha : AR ds π' a c) {ps : Array Nat} (hps : ps.size = 2) {x y x' y' : Value} (hx : VR π' x x') (hy : VR π' y y') :
    AR [] π' (putL a ps.toList [x, y]) { tmps := (ps.zip #[x', y']).foldl (fun t (p, v) => t.setIfInBounds p v) c.tmps, defers := [] } := by
  obtain ⟨p, q, rfl⟩ : ∃ p q, ps = #[p, q] := by
    obtain ⟨l⟩ := ps
    match l, hps with
    | [p, q], _ => exact ⟨p, q, rfl⟩
  have h0 : AR [] π' a { tmps := c.tmps, defers := [] } := ⟨ha.size, ha.at_, rfl⟩
  have h1 := (h0.put (some p) hx).put (some q) hy
  have e : (#[p, q].zip #[x', y']).foldl (fun t (p, v) => t.setIfInBounds p v) c.tmps = (c.tmps.setIfInBounds p x').setIfInBounds q y' := by simp
  rw [e]
  exact h1
theorem range_sound {fr assign body : Code} {full asg : AAct → AHeap → Option (Exit × AAct × AHeap)} {f : Operand} {ps : Array Tmp} (he : EOk P G N E)
    (hasg : ∀ (l m : Nat) (ds : List Deferred) (a : AAct) (h : AHeap) e a' h' (π : Pi) (w : World) (c : Act), asg a h = some (e, a', h') → GR G π → HR π N h.get h.next w → AR ds π a c → DF 0 ds w → assign.wpIn (Fence.wide.inRound l) m P (CodePost N 0 π h w e a' h') c w)
    (hfull : ∀ (l m : Nat) (ds : List Deferred) (a : AAct) (h : AHeap) e a' h' (π : Pi) (w : World) (c : Act), full a h = some (e, a', h') → GR G π → HR π N h.get h.next w → AR ds π a c → DF 0 ds w → body.wpIn (Fence.wide.inRound l) m P (CodePost N 0 π h w e a' h') c w)
    {g bx o : Nat} (hR : E.R g = true) (hps : ps.size = 2) {a : AAct} {h h1 : AHeap} {c : Act} {vs : List Int} {e1 : Exit} {L : Loc} (hL : π bx = some L) (hev : c.eval f = .func (.func g) #[] #[.pointer (some ⟨L.b, L.d + o, none⟩)])
    (hb : backList h bx o = some vs) (hs : arange full asg a ps.toList bx o vs vs.length h = some (e1, h1)) (hg : GR G π) (hr : HR π N h.get h.next w) (ha : AR ds π a c) (hd : DF B ds w) (hB : B ≤ w.heap.size) :
    (Code.rangeFunc f ps assign body).wpIn Fence.wide fu P (CodePost N B π h w e1 a h1) c w := by
  obtain ⟨hent, hback⟩ := he.r g hR
  have hvs := (backHold hr hb hL).2
  refine wpIn_rangeFunc_k (F := Fence.wide) rfl (by simp [Fence.wide]) hev trivial hent (hback (fu - 1) ⟨L.b, L.d + o, none⟩ vs hvs) (fun k => by rw [hps]; rfl)
    (fun k W => ∃ (hk : AHeap) (π' : Pi), arange full asg a ps.toList bx o vs (vs.length - k) hk = some (e1, h1) ∧ (vs.length = 0 → backList hk bx o = some vs) ∧ Stp π N h.get h.next w π' hk.get hk.next W h.next)
    (fun c2 k W => ((c2 = .ret ∧ e1 = .ret) ∨ ∃ id, c2 = .exit id ∧ e1 = .exit id) ∧ ∃ π', Stp π N h.get h.next w π' h1.get h1.next W h.next)
    (fun k a' W => ∃ (hk : AHeap) (a1 : AAct) (π' : Pi) (e2 : Exit) (a2 : AAct) (h2 : AHeap) (ds1 : List Deferred), full a1 hk = some (e2, a2, h2) ∧ ((e2 = .normal ∧ arange full asg a ps.toList bx o vs (vs.length - (k + 1)) h2 = some (e1, h1)) ∨ ((e2 = .ret ∨ ∃ id, e2 = .exit id) ∧ e1 = e2 ∧ h1 = h2)) ∧ AR ds1 π' a1 a' ∧ DF 0 ds1 W ∧ Stp π N h.get h.next w π' hk.get hk.next W h.next)
    ?_ ?_ ?_ ?_ ?_ ?_ ?_ ?_ ?_
  · rintro k W W' row ⟨hk, π', q1, q2, q3⟩ hgr hrow
    exact ⟨hk, π', q1, q2, q3.turnLD hr.base.le hgr (fun r e => ⟨(hrow r e).1, .inl (hrow r e).2⟩)⟩
  · rintro c2 k W W' row ⟨q1, π', q3⟩ hgr hrow
    exact ⟨q1, π', q3.turnLD hr.base.le hgr (fun r e => ⟨(hrow r e).1, .inl (hrow r e).2⟩)⟩
  · rintro k a' _ W W' row ⟨hk, a1, π', e2, a2, h2, ds1, q1, q2, q3, qd, q4⟩ hgr hrow
    exact ⟨hk, a1, π', e2, a2, h2, ds1, q1, q2, q3, qd.turn hgr (fun r e => (hrow r e).2), q4.turnLD hr.base.le hgr (fun r e => ⟨(hrow r e).1, .inl (hrow r e).2⟩)⟩
  · rintro k W hkN ⟨hk, π', q1, q2, q3⟩
    have hbl : backList hk bx o = some vs := by
      by_cases h0 : vs.length = 0
      · exact q2 h0
      · have : k < vs.length := by omega
        obtain ⟨m, hm⟩ : ∃ m, vs.length - k = m + 1 := ⟨vs.length - k - 1, by omega⟩
        rw [hm] at q1
        exact arange_hold q1
    exact (backHold q3.hr hbl (q3.le _ _ hL)).1
  · exact ⟨h, π, hs, fun _ => hb, Stp.refl hr _⟩
  · rintro l k W hk0 ⟨hk, π', q1, q2, q3⟩
    obtain ⟨m, hm⟩ : ∃ m, vs.length - k = m + 1 := ⟨vs.length - k - 1, by omega⟩
    have hm2 : vs.length - 1 - k = m := by omega
    rw [hm] at q1
    unfold arange at q1
    rw [Bool.cond_eq_ite] at q1
    split at q1
    · split at q1
      · rename_i a1 h3 hA
        rw [hm2]
        refine wpIn_mono (hasg l _ _ _ _ _ _ _ π' W _ hA (hg.mono q3.le) q3.hr (putL_two (ha.mono q3.le) hps (.int _ _) (.int _ _)) DF.nil) ?_
        rintro e2 c2 w2 ⟨rfl, ds', π2, hd2, h4, h5⟩
        refine ⟨stp_keeps q3.hr h5 _, ?_⟩
        have hst := q3.trans h5 (.inr q3.nxl)
        have hk1 : vs.length - (k + 1) = m := by omega
        split at q1
        · rename_i a2 h2 hB2
          exact ⟨h3, a1, π2, _, _, _, ds', hB2, .inl ⟨rfl, by rw [hk1]; exact q1⟩, h4, hd2, hst⟩
        · rename_i a2 h2 hB2
          simp only [Option.some.injEq, Prod.mk.injEq] at q1
          exact ⟨h3, a1, π2, _, _, _, ds', hB2, .inr ⟨.inl rfl, q1.1.symm, q1.2.symm⟩, h4, hd2, hst⟩
        · rename_i id a2 h2 hB2
          simp only [Option.some.injEq, Prod.mk.injEq] at q1
          exact ⟨h3, a1, π2, _, _, _, ds', hB2, .inr ⟨.inr ⟨id, rfl⟩, q1.1.symm, q1.2.symm⟩, h4, hd2, hst⟩
        · cases q1
      · cases q1
    · cases q1
  · rintro l k a' W hk0 ⟨hk, a1, π', e2, a2, h2, ds1, q1, q2, q3, qd, q4⟩
    refine wpIn_mono (hfull l _ _ _ _ _ _ _ π' W _ q1 (hg.mono q4.le) q4.hr q3 qd) ?_
    rintro e3 c3 w3 ⟨rfl, ds', π2, hd2, h4, h5⟩
    have hkeep := stp_keeps q4.hr h5 w.heap.size
    have hst := q4.trans h5 (.inr q4.nxl)
    rcases q2 with ⟨rfl, q2⟩ | ⟨rfl | ⟨id, rfl⟩, rfl, rfl⟩
    · refine ⟨hkeep, h2, π2, q2, fun h0 => by omega, hst⟩
    · exact ⟨hkeep, .inl ⟨rfl, rfl⟩, π2, hst⟩
    · exact ⟨hkeep, .inr ⟨id, rfl, rfl⟩, π2, hst⟩
  · rintro D W hD ⟨hk, π', q1, q2, q3⟩ hmark
    rw [Nat.sub_self] at q1
    simp only [arange, Option.some.injEq, Prod.mk.injEq] at q1
    obtain ⟨rfl, rfl⟩ := q1
    exact ⟨rfl, _, π', hd.push (stp_keeps hr q3 B) hB hD hmark, ⟨ha.size, fun t => (ha.at_ t).mono q3.le, by simp [ha.df]⟩, q3⟩
  · rintro D c2 k W hD hk0 ⟨q1, π', q3⟩ hmark
    have hpost : ∀ e2, e1 = e2 → CodePost N B π h w e1 a h1 e2 { c with defers := { target := .collected D, args := #[] } :: c.defers } W := fun e2 ee =>
      ⟨ee.symm, _, π', hd.push (stp_keeps hr q3 B) hB hD hmark, ⟨ha.size, fun t => (ha.at_ t).mono q3.le, by simp [ha.df]⟩, q3⟩
    rcases q1 with ⟨rfl, rfl⟩ | ⟨id, rfl, rfl⟩
    · exact wpIn_ret (hpost _ rfl)
    · exact wpIn_exit (hpost _ rfl)
theorem acode_sound (he : EOk P G N E) (hc : CallsOk P G N callf) (hd : DrawsOk P G N E callf) {n : Nat} : ∀ {x : Code} {F : Fence} {fu B : Nat} {ds : List Deferred} {a : AAct} {h : AHeap} {e : Exit} {a' : AAct} {h' : AHeap} {π : Pi} {w : World} {c : Act}, FOk F → (F = Fence.wide ∨ noRF x = true) → acode E callf n x a h = some (e, a', h') → okCode G x = true → GR G π → HR π N h.get h.next w → AR ds π a c → DF B ds w → B ≤ w.heap.size →
    x.wpIn F fu P (CodePost N B π h w e a' h') c w := by
  intro x
  induction x with
  | skip =>
    intro F fu B ds a h e a' h' π w c hF hN hs hok hg hr ha hdf hB
    simp only [acode, Option.some.injEq, Prod.mk.injEq] at hs
    obtain ⟨rfl, rfl, rfl⟩ := hs
    exact wpIn_skip ⟨rfl, ds, π, hdf, ha, Stp.refl hr _⟩
  | region id ops draw =>
    intro F fu B ds a h e a' h' π w c hF hN hs hok hg hr ha hdf hB
    simp only [acode] at hs
    split at hs
    · rename_i a1 h1 hreg
      simp only [Option.some.injEq, Prod.mk.injEq] at hs
      obtain ⟨rfl, rfl, rfl⟩ := hs
      cases draw with
      | true =>
        rw [cond_true] at hreg
        refine wpIn_mono (hd F fu ds id ops a _ h _ π w c hF hreg hok hg hr ha) ?_
        rintro e2 c2 w2 ⟨rfl, π', h2, h3⟩
        exact ⟨rfl, ds, π', hdf.stp hr h3, h2, h3⟩
      | false =>
        rw [cond_false] at hreg
        exact wpIn_region_list (aseq_sound hF he hc ops hreg hok hg hr ha fun π' c' w' h2 h3 => ⟨rfl, ds, π', hdf.stp hr h3, h2, h3⟩)
    · cases hs
  | seq x y ihx ihy =>
    intro F fu B ds a h e a' h' π w c hF hN hs hok hg hr ha hdf hB
    simp only [okCode, Bool.and_eq_true] at hok
    have hNx : F = Fence.wide ∨ noRF x = true := hN.imp id (fun h => by simp only [noRF, Bool.and_eq_true] at h; exact h.1)
    have hNy : F = Fence.wide ∨ noRF y = true := hN.imp id (fun h => by simp only [noRF, Bool.and_eq_true] at h; exact h.2)
    simp only [acode] at hs
    refine wpIn_seq ?_
    split at hs
    · rename_i a1 h1 hx
      refine wpIn_mono (ihx hF hNx hx hok.1 hg hr ha hdf hB) ?_
      rintro e2 c2 w2 ⟨rfl, ds', π', hdf', h2, h3⟩
      exact wpIn_mono (ihy hF hNy hs hok.2 (hg.mono h3.le) h3.hr h2 hdf' (Nat.le_trans hB h3.size)) fun e3 c3 w3 hp => CodePost.trans h3 hp
    · rename_i r hne
      refine wpIn_mono (ihx hF hNx hs hok.1 hg hr ha hdf hB) ?_
      rintro e2 c2 w2 ⟨rfl, ds', π', hdf', h2, h3⟩
      have hpost : CodePost N B π h w e2 a' h' e2 c2 w2 := ⟨rfl, ds', π', hdf', h2, h3⟩
      cases e2 with
      | normal => exact absurd hs (hne a' h')
      | exit id => exact hpost
      | goto l => exact hpost
      | ret => exact hpost
      | panic ch => exact hpost
      | outgrown => exact hpost
  | cond o x y ihx ihy =>
    intro F fu B ds a h e a' h' π w c hF hN hs hok hg hr ha hdf hB
    simp only [okCode, Bool.and_eq_true] at hok
    simp only [acode] at hs
    have ho := aev_sound hg ha hok.1.1
    split at hs
    · rename_i hb
      rw [hb] at ho
      exact wpIn_cond_true ho.bool_inv (ihx hF (hN.imp id (fun h => by simp only [noRF, Bool.and_eq_true] at h; exact h.1)) hs hok.1.2 hg hr ha hdf hB)
    · rename_i hb
      rw [hb] at ho
      exact wpIn_cond_false ho.bool_inv (ihy hF (hN.imp id (fun h => by simp only [noRF, Bool.and_eq_true] at h; exact h.2)) hs hok.2 hg hr ha hdf hB)
    · cases hs
  | block id x ih =>
    intro F fu B ds a h e a' h' π w c hF hN hs hok hg hr ha hdf hB
    simp only [acode] at hs
    refine wpIn_block ?_
    split at hs
    · rename_i j a1 h1 hx
      simp only [Option.some.injEq, Prod.mk.injEq] at hs
      obtain ⟨rfl, rfl, rfl⟩ := hs
      refine wpIn_mono (ih hF hN hx hok hg hr ha hdf hB) ?_
      rintro e2 c2 w2 ⟨rfl, ds', π', hdf', h2, h3⟩
      simp only [Exit.inBlock, beqd]
      by_cases hj : j = id
      · rw [if_pos hj, decide_eq_true hj, cond_true]; exact ⟨rfl, ds', π', hdf', h2, h3⟩
      · rw [if_neg hj, decide_eq_false hj, cond_false]; exact ⟨rfl, ds', π', hdf', h2, h3⟩
    · rename_i r hne
      refine wpIn_mono (ih hF hN hs hok hg hr ha hdf hB) ?_
      rintro e2 c2 w2 ⟨rfl, ds', π', hdf', h2, h3⟩
      have hpost : CodePost N B π h w e2 a' h' e2 c2 w2 := ⟨rfl, ds', π', hdf', h2, h3⟩
      cases e2 with
      | exit id => exact absurd hs (hne id a' h')
      | normal => exact hpost
      | goto l => exact hpost
      | ret => exact hpost
      | panic ch => exact hpost
      | outgrown => exact hpost
  | loop x ih =>
    intro F fu B ds a h e a' h' π w c hF hN hs hok hg hr ha hdf hB
    simp only [acode] at hs
    exact wpIn_loop_rounds n (aloop_rounds (fun ds a h e a' h' π w c hs hg hr ha hdf hB => ih hF hN hs hok hg hr ha hdf hB) n ds a h e a' h' π w c hs hg hr ha hdf hB π h w (Stp.refl hr _))
  | exit id =>
    intro F fu B ds a h e a' h' π w c hF hN hs hok hg hr ha hdf hB
    simp only [acode, Option.some.injEq, Prod.mk.injEq] at hs
    obtain ⟨rfl, rfl, rfl⟩ := hs
    exact wpIn_exit ⟨rfl, ds, π, hdf, ha, Stp.refl hr _⟩
  | ret =>
    intro F fu B ds a h e a' h' π w c hF hN hs hok hg hr ha hdf hB
    simp only [acode, Option.some.injEq, Prod.mk.injEq] at hs
    obtain ⟨rfl, rfl, rfl⟩ := hs
    exact wpIn_ret ⟨rfl, ds, π, hdf, ha, Stp.refl hr _⟩
  | label l =>
    intro F fu B ds a h e a' h' π w c hF hN hs hok hg hr ha hdf hB
    simp only [acode, Option.some.injEq, Prod.mk.injEq] at hs
    obtain ⟨rfl, rfl, rfl⟩ := hs
    exact wpIn_label ⟨rfl, ds, π, hdf, ha, Stp.refl hr _⟩
  | rangeFunc f ps x y ihx ihy =>
    intro F fu B ds a h e a' h' π w c hF hN hs hok hg hr ha hdf hB
    obtain rfl : F = Fence.wide := by
      rcases hN with h | h
      · exact h
      · cases h
    simp only [okCode, Bool.and_eq_true] at hok
    simp only [acode] at hs
    have hv := aev_sound hg ha hok.1.1
    split at hs
    · rename_i g first cap hfv
      rw [hfv] at hv
      split at hs
      · rename_i bx o hfi hca
        rw [Bool.cond_eq_ite] at hs
        split at hs
        · rename_i hcond
          simp only [Bool.and_eq_true, beqd, decide_eq_true_eq] at hcond
          split at hs
          · rename_i vs hbl
            split at hs
            · rename_i e1 h1 har
              simp only [Option.some.injEq, Prod.mk.injEq] at hs
              obtain ⟨rfl, rfl, rfl⟩ := hs
              generalize hcf : c.eval f = cf at hv
              cases hv with
              | func g1 g2 =>
                rename_i gs dd
                rw [hfi] at g1
                rw [hca] at g2
                have e1 : gs = #[] := by cases gs; rename_i l; cases l with | nil => rfl | cons x r => cases g1
                obtain ⟨L, hL, e2⟩ : ∃ L, π bx = some L ∧ dd = #[.pointer (some ⟨L.b, L.d + o, none⟩)] := by
                  cases dd; rename_i l
                  cases g2 with
                  | cons hx ht =>
                    cases ht
                    cases hx with
                    | ptr hL => exact ⟨_, hL, rfl⟩
                subst e1; subst e2
                exact range_sound (fr := .skip) he (fun l m ds a h e a' h' π w c hs hg hr ha hdf => ihx (FOk.round l) (.inr hok.1.2.2) hs hok.1.2.1 hg hr ha hdf (Nat.zero_le _)) (fun l m ds a h e a' h' π w c hs hg hr ha hdf => ihy (FOk.round l) (.inr hok.2.2) hs hok.2.1 hg hr ha hdf (Nat.zero_le _)) hcond.1 hcond.2 hL hcf hbl har hg hr ha hdf hB
            · cases hs
          · cases hs
        · cases hs
      · cases hs
    · cases hs
  | scope x => intro F fu B ds a h e a' h' π w c hF hN hs; simp [acode] at hs
  | goto l => intro F fu B ds a h e a' h' π w c hF hN hs; simp [acode] at hs
  | refuse s => intro F fu B ds a h e a' h' π w c hF hN hs; simp [acode] at hs
def resOf (tmps : Array Value) : ResultVar → Sem Value
  | .tmp t => pure (tmps.getD t undef)
  | .cell a t => do loadVar t (← asAddr (tmps.getD a undef))
theorem results_eq (fn : Func) (tmps : Array Value) : results fn tmps = (do let vs ← fn.results.mapM (resOf tmps); pure (if h : vs.size = 1 then vs[0] else .tuple vs)) := by
  unfold results
  congr 1
theorem aresults_sound (ht : TOk P E.T) {h : AHeap} {nx : Nat} (hr : HR π N h.get nx w) {a : AAct} {c : Act} (ha : AR ds π a c) : ∀ {rs : List ResultVar} {l : List Value}, aresults E.T h a rs = some l →
    ∃ m : List Value, (rs.mapM (resOf c.tmps)).run P w = .ok m w ∧ VRs π l m
  | [], l, hs => by
    simp only [aresults, Option.some.injEq] at hs
    subst hs
    exact ⟨[], by simp [Sem.run_pure], .nil⟩
  | .tmp t :: r, l, hs => by
    simp only [aresults] at hs
    split at hs
    · rename_i l' hl
      simp only [Option.some.injEq] at hs
      subst hs
      obtain ⟨m, e1, e2⟩ := aresults_sound ht hr ha hl
      exact ⟨c.tmps.getD t undef :: m, by simp only [List.mapM_cons, resOf, Sem.run_bind, Sem.run_pure, Result.andThen, e1], .cons (ha.at_ t) e2⟩
    · cases hs
  | .cell p t :: r, l, hs => by
    simp only [aresults] at hs
    split at hs
    · rename_i v l' hv hl
      simp only [Option.some.injEq] at hs
      subst hs
      obtain ⟨m, e1, e2⟩ := aresults_sound ht hr ha hl
      obtain ⟨v', g1, g2⟩ := aload_sound (P := P) ht hr hv (ha.at_ p)
      have hsa : ∃ ad, c.tmps.getD p undef = .pointer (some ad) := by
        have hp := ha.at_ p
        unfold aload at hv
        split at hv
        · rename_i id o hx
          rw [hx] at hp
          generalize c.tmps.getD p undef = y at *
          cases hp; exact ⟨_, rfl⟩
        · cases hv
      obtain ⟨ad, had⟩ := hsa
      rw [had] at g1
      simp only [Instr.loadAt, Instr.sureAddr, Sem.run_bind, Sem.run_pure, Result.andThen] at g1
      have hh : (resOf c.tmps (.cell p t)).run P w = .ok v' w := by simp only [resOf, had, asAddr, Sem.run_bind, Sem.run_pure, Result.andThen, g1]
      exact ⟨v' :: m, by simp only [List.mapM_cons, hh, Sem.run_bind, Sem.run_pure, Result.andThen, e1], .cons g2 e2⟩
    · cases hs
/-- a function that leaves with its marks -/
theorem leaves_marks {fn : Func} {tmps : Array Value} {R : Ending → World → Prop} {w0 : World} {π0 : Pi} {g0 : AG} {nx0 : Nat} {π' : Pi} {g' : AG} {nx' nid : Nat} (hN : N ≤ w0.heap.size)
    (hR : ∀ W, Stp π0 N g0 nx0 w0 π' g' nx' W nid → ∃ v, (results fn tmps).run P W = .ok v W ∧ R (.returned v) W) : ∀ (Ds : List Nat) (W : World), Ds.Nodup → (∀ D ∈ Ds, w0.heap.size ≤ D ∧ W.heap[D]? = some (.deferred (some []))) → Stp π0 N g0 nx0 w0 π' g' nx' W nid →
    LeavesInM Fence.wide fu P fn tmps R (Ds.map fun D => { target := .collected D, args := #[] }) .returning W
  | [], W, _, _, hst => hR W hst
  | D :: Ds, W, hn, hD, hst => by
    have h1 := hD D (.head _)
    obtain ⟨hn1, hn2⟩ := List.nodup_cons.1 hn
    refine ⟨by simp, .inl ⟨D, _, rfl, run_takeDeferred h1.2, ?_⟩⟩
    refine leaves_marks hN hR Ds _ hn2 (fun D' hD' => ⟨(hD D' (.tail _ hD')).1, (World.putObj_heap_other (fun e => hn1 (by rw [← e]; exact hD'))).trans (hD D' (.tail _ hD')).2⟩) ?_
    exact hst.turnLD hN (grownBy_putObj' W D _) (fun r e => by cases e; exact ⟨h1.1, .inr ⟨_, h1.2⟩⟩)
theorem acall_sound (he : EOk P G N E) (hd : ∀ callf, CallsOk P G N callf → DrawsOk P G N E callf) : ∀ n, CallsOk P G N (acall E n)
  | 0 => by intro f args h v h' hs; simp [acall] at hs
  | n + 1 => by
    have ih := acall_sound he hd n
    intro f args h v h' hs
    simp only [acall] at hs
    split at hs
    · rename_i x hx
      exact he.x f x hx args h v h' hs
    · split at hs
      · rename_i fn hfn
        obtain ⟨f1, f2, f3⟩ := he.f f fn hfn
        split at hs
        · rename_i c hbody
          refine ⟨⟨fn, f1, by rw [hbody]; rfl, f2⟩, ?_⟩
          intro π w cargs hg hr hargs
          have hlen := hargs.length
          have har : AR [] π ⟨args.length + (fn.ntmps - args.length), Tr.ofList args 0 .nil⟩ { tmps := cargs ++ Array.replicate (fn.ntmps - cargs.size) undef, defers := [] } := by
            have hsz : cargs.size = args.length := by simpa using hlen.symm
            refine ⟨by simp [hsz], fun t => ?_, rfl⟩
            have hout : ∀ s : Nat, ¬ s < args.length + (fn.ntmps - args.length) → VR π undef ((cargs ++ Array.replicate (fn.ntmps - cargs.size) undef).getD s undef) := fun s hs => by
              have h1 : (cargs ++ Array.replicate (fn.ntmps - cargs.size) undef)[s]? = none := by
                rw [Array.getElem?_eq_none_iff, Array.size_append, Array.size_replicate, hsz]; omega
              rw [Array.getD_eq_getD_getElem?, h1]
              exact VR.undef
            rw [AAct.at_eq, bltd]
            by_cases hin : t < args.length + (fn.ntmps - args.length)
            case neg => rw [decide_eq_false hin, cond_false]; exact hout t hin
            rw [decide_eq_true hin, cond_true]
            simp only [Tr.get_ofList, Nat.zero_le, true_and, Nat.zero_add, Nat.sub_zero]
            by_cases ht : t < args.length
            · rw [if_pos ht, List.getElem?_eq_getElem ht]
              simp only [Option.getD_some]
              obtain ⟨u, e1, e2⟩ := hargs.get t _ (List.getElem?_eq_getElem ht)
              rw [Array.getD_eq_getD_getElem?, Array.getElem?_append_left (by omega)]
              rw [Array.getElem?_toList] at e1
              rw [e1]
              exact e2
            · rw [if_neg ht, Tr.get_nil]
              simp only [Option.getD_none]
              rw [Array.getD_eq_getD_getElem?, Array.getElem?_append_right (by omega), Array.getElem?_replicate]
              split
              · exact VR.undef
              · exact VR.undef
          refine callsIn_wide.1 (callsIn_of_wp_marks (F := Fence.wide) (n := 0) f1 hbody trivial ?_ rfl)
          have fin : ∀ {e : Exit} {a1 : AAct} {h1 : AHeap} {l : List Value}, (e = .normal ∨ e = .ret) → acode E (acall E n) n c ⟨args.length + (fn.ntmps - args.length), Tr.ofList args 0 .nil⟩ h = some (e, a1, h1) → aresults E.T h1 a1 fn.results.toList = some l → (v, h') = (oneOf l, h1) →
              c.wpIn Fence.wide 0 P (bodyPostM Fence.wide 0 P fn fun e w' => ∃ π' v', e = .returned v' ∧ VR π' v v' ∧ Stp π N h.get h.next w π' h'.get h'.next w' h.next) { tmps := cargs ++ Array.replicate (fn.ntmps - cargs.size) undef, defers := [] } w := by
            intro e a1 h1 l hee hcode hres hvh
            obtain ⟨rfl, rfl⟩ := Prod.mk.inj hvh
            refine wpIn_mono (acode_sound (B := w.heap.size) he ih (hd _ ih) FOk.wide (.inl rfl) hcode (f3 c hbody) hg hr har DF.nil (Nat.le_refl _)) ?_
            rintro e2 c2 w2 ⟨rfl, ds', π', hdf, h2, h3⟩
            obtain ⟨Ds, d1, d2, d3⟩ := hdf
            have key : ∀ W, Stp π N h.get h.next w π' h'.get h'.next W h.next → ∃ v2, (results fn c2.tmps).run P W = .ok v2 W ∧ ∃ π' v', Ending.returned v2 = .returned v' ∧ VR π' (oneOf l) v' ∧ Stp π N h.get h.next w π' h'.get h'.next W h.next := by
              intro W hW
              obtain ⟨m, e1, e3⟩ := aresults_sound (P := P) he.t hW.hr h2 hres
              have hrun : (results fn c2.tmps).run P W = .ok (oneOf m) W := by
                rw [results_eq]
                have hm : (fn.results.mapM (resOf c2.tmps)).run P W = .ok ⟨m⟩ W := by
                  rw [Array.mapM_eq_mapM_toList]
                  simp [e1]
                simp only [Sem.run_bind, hm, Result.andThen, Sem.run_pure]
                congr 1
                match m with
                | [] => rfl
                | [x] => rfl
                | x :: y :: r => rfl
              have hv : VR π' (oneOf l) (oneOf m) := by
                cases e3 with
                | nil => exact .tuple .nil
                | cons hv ht => cases ht with
                  | nil => exact hv
                  | cons hv2 ht2 => exact .tuple (.cons hv (.cons hv2 ht2))
              exact ⟨_, hrun, π', _, rfl, hv, hW⟩
            have hpost : LeavesInM Fence.wide 0 P fn c2.tmps (fun e w' => ∃ π' v', e = .returned v' ∧ VR π' (oneOf l) v' ∧ Stp π N h.get h.next w π' h'.get h'.next w' h.next) c2.defers .returning w2 := by
              rw [h2.df, d1]
              exact leaves_marks hr.base.le key Ds w2 d2 d3 h3
            rcases hee with rfl | rfl
            · exact hpost
            · exact hpost
          split at hs
          · rename_i a1 h1 hcode
            split at hs
            · rename_i l hl
              simp only [Option.some.injEq] at hs
              exact fin (.inl rfl) hcode hl hs.symm
            · cases hs
          · rename_i a1 h1 hcode
            split at hs
            · rename_i l hl
              simp only [Option.some.injEq] at hs
              exact fin (.inr rfl) hcode hl hs.symm
            · cases hs
          · cases hs
        · cases hs
      · cases hs
end
end Go.Proofs.Yteffhomollmpdaa.AM

/- A region in whatever order: what lies apart stays. -/
namespace Go.Proofs.Yteffhomollmpdaa.AM
open Go
variable [Tok]
set_option linter.unusedVariables false
set_option linter.unusedSectionVars false
set_option linter.unusedSimpArgs false
def un (a f : AG) : AG := fun id => match f id with | some o => some o | none => a id
section
variable {P : Program} {G N : Nat} {E : Env} {callf : CallF} {w w' : World} {π π' : Pi} {nx nx' nid : Nat}
theorem HR.sub {g g' : AG} (h : HR π N g nx w) (hs : ∀ id o, g' id = some o → g id = some o) : HR π N g' nx w :=
  ⟨fun id o ho => h.obj id o (hs id o ho), fun i j o p L M hi hj => h.sep i j o p L M (hs _ _ hi) (hs _ _ hj), h.lim, h.base⟩
theorem un_left {a f : AG} {id : Nat} {o : AObj} (hd : ∀ id, f id ≠ none → a id = none) (h : a id = some o) : un a f id = some o := by
  unfold un
  cases hf : f id with
  | none => exact h
  | some p => have := hd id (by rw [hf]; simp); rw [this] at h; cases h
theorem un_right {a f : AG} {id : Nat} {o : AObj} (h : f id = some o) : un a f id = some o := by unfold un; rw [h]
theorem un_cases {a f : AG} {id : Nat} {o : AObj} (h : un a f id = some o) : f id = some o ∨ (f id = none ∧ a id = some o) := by
  unfold un at h
  cases hf : f id with
  | none => rw [hf] at h; exact .inr ⟨rfl, h⟩
  | some p => rw [hf] at h; exact .inl h
/-- what an operation doesn't touch stays beside it -/
theorem Stp.beside {a a' f : AG} (hr : HR π N (un a f) nx w) (hd : ∀ id, f id ≠ none → a id = none) (hlow : ∀ id, f id ≠ none → id < nx ∧ id ≠ nid) (h : Stp π N a nx w π' a' nx' w' nid) :
    Stp π N (un a f) nx w π' (un a' f) nx' w' nid ∧ ∀ id, f id ≠ none → a' id = none := by
  have hd' : ∀ id, f id ≠ none → a' id = none := by
    intro id hid
    cases e : a' id with
    | none => rfl
    | some o =>
      exfalso
      rcases h.dom id o e with ⟨p, hp⟩ | h1 | h1
      · rw [hd id hid] at hp; cases hp
      · exact (hlow id hid).2 h1
      · have := (hlow id hid).1; omega
  have hra : HR π N a nx w := hr.sub fun id o ho => un_left hd ho
  have hblkF : ∀ id o L, f id = some o → π id = some L → L.b < w.heap.size ∧ w'.heap[L.b]? = w.heap[L.b]? := by
    intro id o L hf hL
    obtain ⟨L', h1, h2⟩ := hr.obj id o (un_right hf)
    rw [hL] at h1; injection h1 with h1; subst h1
    refine ⟨h2.lt, h.blk _ h2.lt ?_⟩
    rintro ⟨j, p, M, g1, g2, g3, g4⟩
    by_cases ho : o.rw = true
    · have := hr.sep id j o p L M (un_right hf) (un_left hd g1) ho g2 hL g3 g4.symm
      subst this
      rw [hd id (by rw [hf]; simp)] at g1; cases g1
    · have h3 := h2.high (by simpa using ho)
      obtain ⟨M', g5, g6⟩ := hra.obj j p g1
      rw [g3] at g5; injection g5 with g5; subst g5
      have := g6.low g2
      omega
  refine ⟨⟨h.le, h.fresh, ⟨?_, ?_, h.hr.lim, h.hr.base⟩, h.nxl, h.os, h.tape, h.output, h.size, ?_, ?_, ?_⟩, hd'⟩
  · intro id o ho
    rcases un_cases ho with hf | ⟨_, ha⟩
    · obtain ⟨L, h1, h2⟩ := hr.obj id o (un_right hf)
      exact ⟨L, h.le _ _ h1, h2.mono h.le (hblkF id o L hf h1).2⟩
    · exact h.hr.obj id o ha
  · have mix : ∀ i j o p L M, f i = some o → a' j = some p → o.rw = true → p.rw = true → π' i = some L → π' j = some M → L.b = M.b → False := by
      intro i j o p L M hi hj ho hp hL hM hb
      obtain ⟨L', h1, h2⟩ := hr.obj i o (un_right hi)
      have := h.le _ _ h1
      rw [hL] at this; injection this with this; subst this
      have hlt := (hblkF i o L hi h1).1
      rcases h.own M.b ⟨j, p, M, hj, hp, hM, rfl⟩ with ⟨k, q, K, g1, g2, g3, g4⟩ | hge
      · have := hr.sep i k o q L K (un_right hi) (un_left hd g1) ho g2 h1 g3 (by rw [hb, g4])
        subst this
        rw [hd i (by rw [hi]; simp)] at g1; cases g1
      · omega
    intro i j o p L M hi hj ho hp hL hM hb
    rcases un_cases hi with hfi | ⟨_, hai⟩
    · rcases un_cases hj with hfj | ⟨_, haj⟩
      · obtain ⟨L', h1, _⟩ := hr.obj i o (un_right hfi)
        obtain ⟨M', g1, _⟩ := hr.obj j p (un_right hfj)
        have e1 := h.le _ _ h1
        have e2 := h.le _ _ g1
        rw [hL] at e1; injection e1 with e1; subst e1
        rw [hM] at e2; injection e2 with e2; subst e2
        exact hr.sep i j o p L M (un_right hfi) (un_right hfj) ho hp h1 g1 hb
      · exact (mix i j o p L M hfi haj ho hp hL hM hb).elim
    · rcases un_cases hj with hfj | ⟨_, haj⟩
      · exact (mix j i p o M L hfj hai hp ho hM hL hb.symm).elim
      · exact h.hr.sep i j o p L M hai haj ho hp hL hM hb
  · intro b hb hn
    refine h.blk b hb fun ⟨j, p, M, g1, g2, g3, g4⟩ => hn ⟨j, p, M, un_left hd g1, g2, g3, g4⟩
  · rintro b ⟨j, p, M, g1, g2, g3, g4⟩
    rcases un_cases g1 with hf | ⟨_, ha⟩
    · left
      obtain ⟨L, h1, _⟩ := hr.obj j p (un_right hf)
      have := h.le _ _ h1
      rw [g3] at this; injection this with this; subst this
      exact ⟨j, p, M, un_right hf, g2, h1, g4⟩
    · rcases h.own b ⟨j, p, M, ha, g2, g3, g4⟩ with ⟨k, q, K, q1, q2, q3, q4⟩ | hge
      · exact .inl ⟨k, q, K, un_left hd q1, q2, q3, q4⟩
      · exact .inr hge
  · intro id o ho
    rcases un_cases ho with hf | ⟨_, ha⟩
    · exact .inl ⟨o, un_right hf⟩
    · rcases h.dom id o ha with ⟨p, hp⟩ | h1 | h1
      · exact .inl ⟨p, un_left hd hp⟩
      · exact .inr (.inl h1)
      · exact .inr (.inr h1)
/-! ### edges -/
def maskOf (acc : Array Nat) (o : Oper) : Nat := o.after.foldl (fun s e => if Region.binds .any e then s ||| 2 ^ e.on ||| acc.getD e.on 0 else s) 0
theorem before_eq (ops : Array Oper) : Region.before ops = ops.foldl (init := #[]) fun acc o => acc.push (maskOf acc o) := rfl
end
end Go.Proofs.Yteffhomollmpdaa.AM

/- A region in whatever order: its trace, its edges, its places. -/
namespace Go.Proofs.Yteffhomollmpdaa.AM
open Go
variable [Tok]
set_option linter.unusedVariables false
set_option linter.unusedSectionVars false
set_option linter.unusedSimpArgs false
/-! ### edges -/
def foldM (acc : Array Nat) (l : List Oper) : Array Nat := l.foldl (fun acc o => acc.push (maskOf acc o)) acc
theorem before_fold (ops : Array Oper) : Region.before ops = foldM #[] ops.toList := by
  rw [before_eq, foldM, Array.foldl_toList]
theorem foldM_old : ∀ (l : List Oper) (acc : Array Nat) (i : Nat), i < acc.size → (foldM acc l).getD i 0 = acc.getD i 0
  | [], _, _, _ => rfl
  | o :: l, acc, i, h => by
    show (foldM (acc.push (maskOf acc o)) l).getD i 0 = _
    rw [foldM_old l _ i (by simp; omega)]
    simp only [Array.getD_eq_getD_getElem?, Array.getElem?_push]
    rw [if_neg (by omega)]
theorem foldM_at : ∀ (l : List Oper) (acc : Array Nat) (i : Nat) (o : Oper), l[i]? = some o → ∃ acc' : Array Nat, acc'.size = acc.size + i ∧ (∀ k, k < acc'.size → acc'.getD k 0 = (foldM acc l).getD k 0) ∧ (foldM acc l).getD (acc.size + i) 0 = maskOf acc' o
  | [], _, _, _, h => by simp at h
  | p :: l, acc, 0, o, h => by
    simp only [List.getElem?_cons_zero, Option.some.injEq] at h
    subst h
    refine ⟨acc, rfl, fun k hk => (foldM_old (p :: l) acc k hk).symm, ?_⟩
    show (foldM (acc.push (maskOf acc p)) l).getD (acc.size + 0) 0 = _
    rw [foldM_old l _ _ (by simp)]
    simp [Array.getD_eq_getD_getElem?]
  | p :: l, acc, i + 1, o, h => by
    obtain ⟨acc', h1, h2, h3⟩ := foldM_at l (acc.push (maskOf acc p)) i o (by simpa using h)
    refine ⟨acc', by rw [h1]; simp; omega, h2, ?_⟩
    show (foldM (acc.push (maskOf acc p)) l).getD (acc.size + (i + 1)) 0 = _
    rw [← h3]; congr 1; simp; omega
theorem fold_bits (acc : Array Nat) (j : Nat) : ∀ (l : List Edge) (s : Nat), (l.foldl (fun s e => if Region.binds .any e then s ||| 2 ^ e.on ||| acc.getD e.on 0 else s) s).testBit j = true → s.testBit j = true ∨ ∃ e ∈ l, Region.binds .any e = true ∧ (j = e.on ∨ (acc.getD e.on 0).testBit j = true)
  | [], s, h => .inl h
  | e :: l, s, h => by
    rw [List.foldl_cons] at h
    rcases fold_bits acc j l _ h with h1 | ⟨e', he, h2⟩
    · split at h1
      · rename_i hb
        rw [Nat.testBit_or, Nat.testBit_or, Bool.or_eq_true, Bool.or_eq_true, Nat.testBit_two_pow] at h1
        rcases h1 with (h1 | h1) | h1
        · exact .inl h1
        · exact .inr ⟨e, .head _, hb, .inl (by simpa using h1 : e.on = j).symm⟩
        · exact .inr ⟨e, .head _, hb, .inr h1⟩
      · exact .inl h1
    · exact .inr ⟨e', .tail _ he, h2⟩
theorem isIn_edge {ops : Array Oper} {i j : Nat} {o : Oper} (ho : ops[i]? = some o) (h : isIn (Region.before ops) j i = true) : ∃ e ∈ o.after.toList, Region.binds .any e = true ∧ (j = e.on ∨ (e.on < i ∧ isIn (Region.before ops) j e.on = true)) := by
  obtain ⟨acc', h1, h2, h3⟩ := foldM_at ops.toList #[] i o (by simpa using ho)
  simp only [List.size_toArray, List.length_nil, Nat.zero_add] at h1 h3
  unfold isIn at h
  rw [before_fold, h3] at h
  unfold maskOf at h
  rw [← Array.foldl_toList] at h
  rcases fold_bits acc' j o.after.toList 0 h with h4 | ⟨e, he, hb, h4⟩
  · simp at h4
  · refine ⟨e, he, hb, h4.imp id fun h5 => ?_⟩
    have hlt : e.on < i := by
      rcases Nat.lt_or_ge e.on acc'.size with h6 | h6
      · omega
      · rw [Array.getD_eq_getD_getElem?, Array.getElem?_eq_none h6] at h5
        simp at h5
    refine ⟨hlt, ?_⟩
    unfold isIn
    rw [before_fold, ← h2 e.on (by omega)]
    exact h5
/-- sets that bear what their members wait for -/
def Down (ops : Array Oper) (S : Nat → Bool) : Prop := ∀ (i : Nat) (o : Oper), ops[i]? = some o → S i = true → ∀ e ∈ o.after.toList, Region.binds .any e = true → S e.on = true
theorem Down.before {ops : Array Oper} {S : Nat → Bool} (h : Down ops S) : ∀ (i j : Nat) (o : Oper), ops[i]? = some o → S i = true → isIn (Region.before ops) j i = true → S j = true := by
  intro i
  induction i using Nat.strongRecOn with
  | _ i ih =>
    intro j o ho hi hj
    obtain ⟨e, he, hb, h1⟩ := isIn_edge ho hj
    have hon := h i o ho hi e he hb
    rcases h1 with rfl | ⟨hlt, h1⟩
    · exact hon
    · have hsz : i < ops.size := (Array.getElem?_eq_some_iff.1 ho).1
      exact ih e.on hlt j _ (Array.getElem?_eq_getElem (by omega)) hon h1
def EdgesDown (ops : Array Oper) : Prop := ∀ (i : Nat) (o : Oper), ops[i]? = some o → ∀ e ∈ o.after.toList, Region.binds .any e = true → e.on < i
theorem isIn_lt {ops : Array Oper} (hd : EdgesDown ops) : ∀ (i j : Nat) (o : Oper), ops[i]? = some o → isIn (Region.before ops) j i = true → j < i := by
  intro i
  induction i using Nat.strongRecOn with
  | _ i ih =>
    intro j o ho hj
    obtain ⟨e, he, hb, h1⟩ := isIn_edge ho hj
    have hon := hd i o ho e he hb
    rcases h1 with rfl | ⟨hlt, h1⟩
    · exact hon
    · have hsz : i < ops.size := (Array.getElem?_eq_some_iff.1 ho).1
      have := ih e.on hlt j _ (Array.getElem?_eq_getElem (by omega)) h1
      omega
/-- what waits for one that is free is there -/
theorem free_before {ops : Array Oper} {S : Nat → Bool} (h : Down ops S) {i j : Nat} {o : Oper} (ho : ops[i]? = some o) (hf : ∀ e ∈ o.after.toList, Region.binds .any e = true → S e.on = true) (hj : isIn (Region.before ops) j i = true) : S j = true := by
  obtain ⟨e, he, hb, h1⟩ := isIn_edge ho hj
  have hon := hf e he hb
  rcases h1 with rfl | ⟨hlt, h1⟩
  · exact hon
  · have hsz : i < ops.size := (Array.getElem?_eq_some_iff.1 ho).1
    exact h.before e.on j _ (Array.getElem?_eq_getElem (by omega)) hon h1
/-! ### the trace -/
theorem dgo_trace {E : Env} {callf : CallF} {ops : Array Oper} {b : Array Nat} {base : Nat} : ∀ (l : List Oper) (k : Nat) (s sf : DSt), dgo E callf ops b base (l.zipIdx k) s = some sf →
    ∃ st : Nat → DSt, st k = s ∧ st (k + l.length) = sf ∧ ∀ (i : Nat) (o : Oper), l[i]? = some o → dstep E callf ops b base o (k + i) (st (k + i)) = some (st (k + i + 1))
  | [], k, s, sf, h => by
    simp only [List.zipIdx_nil, dgo, Option.some.injEq] at h
    exact ⟨fun _ => s, rfl, h, fun i o ho => by simp at ho⟩
  | o :: l, k, s, sf, h => by
    simp only [List.zipIdx_cons, dgo] at h
    split at h
    · rename_i s' hs
      obtain ⟨st, h1, h2, h3⟩ := dgo_trace l (k + 1) s' sf h
      refine ⟨fun m => if m ≤ k then s else st m, by simp, ?_, ?_⟩
      · show (if k + (o :: l).length ≤ k then s else st (k + (o :: l).length)) = sf
        rw [if_neg (by simp), ← h2]; congr 1; simp; omega
      · intro i p hp
        cases i with
        | zero =>
          simp only [List.getElem?_cons_zero, Option.some.injEq] at hp
          subst hp
          show dstep E callf ops b base o (k + 0) (if k + 0 ≤ k then s else st (k + 0)) = some (if k + 0 + 1 ≤ k then s else st (k + 0 + 1))
          rw [if_pos (by omega), if_neg (by omega)]
          simp only [Nat.add_zero, h1]; exact hs
        | succ i =>
          have := h3 i p (by simpa using hp)
          show dstep E callf ops b base p (k + (i + 1)) (if k + (i + 1) ≤ k then s else st (k + (i + 1))) = some (if k + (i + 1) + 1 ≤ k then s else st (k + (i + 1) + 1))
          rw [if_neg (by omega), if_neg (by omega)]
          rw [show k + (i + 1) = k + 1 + i by omega]
          exact this
    · cases h
/-! ### places -/
/-- the places behind some of the operations, in their own order -/
noncomputable def putsOf (ops : Array Oper) (val : Nat → Value) (S : Nat → Bool) : Nat → AAct → AAct
  | 0, a => a
  | k + 1, a => match ops[k]? with
    | some o => if S k = true then (putsOf ops val S k a).put o.dst (val k) else putsOf ops val S k a
    | none => putsOf ops val S k a
theorem put_n (a : AAct) (d : Option Nat) (v : Value) : (a.put d v).n = a.n := by
  rw [AAct.put_eq]
theorem put_at (a : AAct) (d : Option Nat) (v : Value) (t : Nat) : (a.put d v).at t = if d = some t ∧ t < a.n then v else a.at t := by
  cases d with
  | none => simp [AAct.put_none]
  | some d =>
    rw [AAct.put_some, AAct.at_eq, AAct.at_eq, bltd]
    simp only [Tr.get_put, Option.some.injEq]
    by_cases ht : t < a.n
    · rw [decide_eq_true ht, cond_true, cond_true]
      by_cases e : t = d
      · subst e; rw [if_pos rfl, if_pos ⟨rfl, ht⟩]; rfl
      · rw [if_neg e, if_neg (fun h => e h.1.symm)]
    · rw [decide_eq_false ht, cond_false, cond_false, if_neg (fun h => ht h.2)]
theorem putsOf_n (ops : Array Oper) (val : Nat → Value) (S : Nat → Bool) (a : AAct) : ∀ k, (putsOf ops val S k a).n = a.n
  | 0 => rfl
  | k + 1 => by
    unfold putsOf
    split
    · split
      · rw [put_n]; exact putsOf_n ops val S a k
      · exact putsOf_n ops val S a k
    · exact putsOf_n ops val S a k
/-- a place is told by those that write it -/
theorem putsOf_same (ops : Array Oper) (val : Nat → Value) (S S' : Nat → Bool) (a : AAct) (t : Nat) : ∀ k, (∀ j o, j < k → ops[j]? = some o → o.dst = some t → S j = S' j) → (putsOf ops val S k a).at t = (putsOf ops val S' k a).at t
  | 0, _ => rfl
  | k + 1, h => by
    have ih := putsOf_same ops val S S' a t k fun j o hj => h j o (by omega)
    unfold putsOf
    split
    · rename_i o ho
      by_cases hd : o.dst = some t
      · rw [h k o (by omega) ho hd]
        split
        · rw [put_at, put_at, putsOf_n, putsOf_n, ih]
        · exact ih
      · have hne : ∀ (b : AAct), (b.put o.dst (val k)).at t = b.at t := fun b => by rw [put_at, if_neg (fun e => hd e.1)]
        split <;> split <;> simp only [hne, ih]
    · exact ih
/-- one more, behind which no other writer of its place has come -/
theorem putsOf_more (ops : Array Oper) (val : Nat → Value) (S : Nat → Bool) (a : AAct) (i : Nat) (o : Oper) (ho : ops[i]? = some o) (hS : S i = false) (t : Nat) : ∀ k, i < k → (∀ j p, i < j → j < k → ops[j]? = some p → p.dst = some t → o.dst = some t → S j = false) →
    (putsOf ops val (fun j => if j = i then true else S j) k a).at t = ((putsOf ops val S k a).put o.dst (val i)).at t
  | 0, h, _ => by omega
  | k + 1, h, hw => by
    by_cases hk : k = i
    · subst hk
      have hsame : ∀ t, (putsOf ops val (fun j => if j = k then true else S j) k a).at t = (putsOf ops val S k a).at t := fun t => putsOf_same ops val _ _ a t k fun j o hj _ _ => by rw [if_neg (by omega)]
      unfold putsOf
      rw [ho]
      simp only [if_true, hS, Bool.false_eq_true, if_false]
      rw [put_at, put_at, putsOf_n, putsOf_n, hsame]
    · have ih := putsOf_more ops val S a i o ho hS t k (by omega) fun j p h1 h2 => hw j p h1 (by omega)
      unfold putsOf
      cases hp : ops[k]? with
      | none => exact ih
      | some p =>
        simp only [if_neg hk]
        by_cases hSk : S k = true
        · rw [if_pos hSk, if_pos hSk]
          simp only [put_at, put_n, putsOf_n] at ih ⊢
          rw [ih]
          by_cases hpt : p.dst = some t
          · by_cases hot : o.dst = some t
            · have := hw k p (by omega) (by omega) hp hpt hot
              rw [this] at hSk; cases hSk
            · simp [hpt, hot]
          · simp [hpt]
        · rw [if_neg hSk, if_neg hSk]; exact ih
end Go.Proofs.Yteffhomollmpdaa.AM

/- A region in whatever order: what is known of its own order. -/
namespace Go.Proofs.Yteffhomollmpdaa.AM
open Go
variable [Tok]
set_option linter.unusedVariables false
set_option linter.unusedSectionVars false
set_option linter.unusedSimpArgs false
/-! ### equal values -/
theorem veq1_eq {a b : Value} (h : veq1 a b = true) : a = b := by
  unfold veq1 at h
  split at h
  · simpa using h
  · simp only [Bool.and_eq_true, decide_eq_true_eq, beq_iff_eq] at h
    rw [h.1, h.2]
  · rename_i x y
    rw [eqB_spec, decide_eq_true_eq] at h
    simp only [bl] at h
    congr 1
    apply ByteArray.ext
    exact Array.toList_inj.1 h
  · rfl
  · simp only [Bool.and_eq_true, beqd, decide_eq_true_eq] at h
    rw [h.1, h.2]
  · simp only [Bool.and_eq_true, beqd, decide_eq_true_eq] at h
    rw [h.1, h.2]
  · simp only [Bool.and_eq_true, beqd, decide_eq_true_eq] at h
    obtain ⟨⟨⟨h1, h2⟩, h3⟩, h4⟩ := h
    rw [h1, h2, h3, h4]
  · rfl
  · simp only [beqd, decide_eq_true_eq] at h
    rw [h]
  · rfl
  · rfl
  · cases h
theorem veqs_eq : ∀ {x y : List Value}, veqs x y = true → x = y
  | [], [], _ => rfl
  | [], _ :: _, h => by simp [veqs] at h
  | _ :: _, [], h => by simp [veqs] at h
  | a :: x, b :: y, h => by
    simp only [veqs, Bool.and_eq_true] at h
    rw [veq1_eq h.1, veqs_eq h.2]
theorem veq0_eq {a b : Value} (h : veq0 a b = true) : a = b := by
  unfold veq0 at h
  split at h
  · rw [Array.toList_inj.1 (veqs_eq h)]
  · rw [Array.toList_inj.1 (veqs_eq h)]
  · exact veq1_eq h
theorem veq_eq {a b : Value} (h : veq a b = true) : a = b := by
  unfold veq at h
  split at h
  · simp only [Bool.and_eq_true, beqd, decide_eq_true_eq] at h
    rw [h.1, veq0_eq h.2]
  · exact veq0_eq h
/-! ### kinds -/
theorem astep_of {E : Env} {callf : CallF} {a : AAct} {h : AHeap} {nid : Nat} {o : Oper} {r : Value × AHeap} (hs : astep0 E callf a h nid o = some r) : astep E callf a h nid o = some r := by
  unfold astep; rw [hs]
theorem kind00 {E : Env} {callf : CallF} {a : AAct} {h h' : AHeap} {nid : Nat} {o : Oper} {v : Value} (hk : kindOf o.op = 0) (hs : astep0 E callf a h nid o = some (v, h')) : h' = h := by
  obtain ⟨dst, op, ty, pos, after, guard⟩ := o
  cases op
  case call c =>
    obtain ⟨callee, args, argTypes⟩ := c
    cases callee
    case builtin b =>
      cases b <;> simp [kindOf] at hk
      all_goals
        simp only [astep0, abuiltin] at hs
        repeat' split at hs
      all_goals first | (cases hs; done) | (cases hs; rfl) | simp_all
    all_goals simp [kindOf] at hk
  all_goals first | (simp [kindOf] at hk; done) | skip
  all_goals
    simp only [astep0, aop, Bool.cond_eq_ite] at hs
    repeat' split at hs
  all_goals first | (cases hs; done) | (cases hs; rfl) | simp_all
theorem kind0 {E : Env} {callf : CallF} {a : AAct} {h h' : AHeap} {nid : Nat} {o : Oper} {v : Value} (hk : kindOf o.op = 0) (hs : astep E callf a h nid o = some (v, h')) : h' = h := by
  unfold astep at hs
  split at hs
  · rename_i h0
    simp only [Option.some.injEq] at hs
    subst hs
    exact kind00 hk h0
  · rw [Bool.cond_eq_ite] at hs
    split at hs
    · split at hs
      · simp only [Option.some.injEq, Prod.mk.injEq] at hs
        exact hs.2.symm
      · cases hs
    · cases hs
theorem pure_any0 {E : Env} {callf : CallF} {a : AAct} {h h' h2 : AHeap} {nid nid2 : Nat} {o : Oper} {v : Value} (hk : pureOp o.op = true) (hs : astep0 E callf a h nid o = some (v, h')) : astep0 E callf a h2 nid2 o = some (v, h2) := by
  obtain ⟨dst, op, ty, pos, after, guard⟩ := o
  cases op
  all_goals first | (simp [pureOp] at hk; done) | skip
  all_goals
    simp only [astep0, aop, Bool.cond_eq_ite] at hs ⊢
    repeat' split at hs
  all_goals first | (cases hs; done) | (cases hs; simp_all; done) | (cases hs; rfl) | simp_all
theorem pure_any {E : Env} {callf : CallF} {a : AAct} {h h' h2 : AHeap} {nid nid2 : Nat} {o : Oper} {v : Value} (hk : pureOp o.op = true) (hs : astep E callf a h nid o = some (v, h')) : astep E callf a h2 nid2 o = some (v, h2) := by
  unfold astep at hs
  split at hs
  · rename_i h0
    simp only [Option.some.injEq] at hs
    subst hs
    exact astep_of (pure_any0 hk h0)
  · rename_i hn
    have hn2 : astep0 E callf a h2 nid2 o = none := by
      cases e : astep0 E callf a h2 nid2 o with
      | none => rfl
      | some r =>
        obtain ⟨v2, h3⟩ := r
        have := pure_any0 (h2 := h) (nid2 := nid) hk e
        rw [this] at hn; cases hn
    unfold astep
    rw [hn2]
    simp only
    rw [Bool.cond_eq_ite] at hs ⊢
    split at hs
    · rename_i hk0
      rw [if_pos hk0]
      split at hs
      · simp only [Option.some.injEq, Prod.mk.injEq] at hs
        rw [hs.1]
      · cases hs
    · cases hs
/-- what lays something new doesn't look at what there is -/
theorem kind10 {E : Env} {callf : CallF} {a : AAct} {m : Nat} {h' : AHeap} {nid : Nat} {o : Oper} {v : Value} (hk : kindOf o.op = 1) (hs : astep0 E callf a ⟨.nil, m⟩ nid o = some (v, h')) {m' : Nat} (hm : nid < m') :
    astep0 E callf a ⟨.nil, m'⟩ nid o = some (v, ⟨h'.t, m'⟩) := by
  have key : ∀ x : AObj, AHeap.new ⟨.nil, m'⟩ nid x = ⟨(AHeap.new ⟨.nil, m⟩ nid x).t, m'⟩ := fun x => by
    simp only [AHeap.new, bltd, decide_eq_true hm, cond_true]
  obtain ⟨dst, op, ty, pos, after, guard⟩ := o
  cases op
  case call c =>
    obtain ⟨callee, args, argTypes⟩ := c
    cases callee
    case builtin b => cases b <;> simp [kindOf] at hk
    all_goals simp [kindOf] at hk
  all_goals first | (simp [kindOf] at hk; done) | skip
  case alloc e =>
    simp only [astep0, aop, aneu, Bool.cond_eq_ite] at hs ⊢
    repeat' split at hs
    all_goals first | (cases hs; done) | (cases hs; simp_all)
  case box e x =>
    simp only [astep0, aop, aneu, Bool.cond_eq_ite] at hs ⊢
    repeat' split at hs
    all_goals first | (cases hs; done) | (cases hs; simp_all)
  case buildSlice t len ps =>
    simp only [astep0, aop, abuildSlice, Bool.cond_eq_ite] at hs ⊢
    repeat' split at hs
    all_goals first | (cases hs; done) | (cases hs; simp_all)
  case makeMap t r =>
    cases r with
    | none => simp only [astep0, aop] at hs ⊢; cases hs; rw [key]
    | some r => simp only [astep0, aop] at hs; cases hs
  case makeSlice t l c =>
    simp only [astep0, aop, Bool.cond_eq_ite] at hs ⊢
    repeat' split at hs
    all_goals first | (cases hs; done) | (cases hs; simp_all)
/-! ### what lies beside -/
theorem kind1 {E : Env} {callf : CallF} {a : AAct} {m : Nat} {h' : AHeap} {nid : Nat} {o : Oper} {v : Value} (hk : kindOf o.op = 1) (hs : astep E callf a ⟨.nil, m⟩ nid o = some (v, h')) {m' : Nat} (hm : nid < m') :
    astep E callf a ⟨.nil, m'⟩ nid o = some (v, ⟨h'.t, m'⟩) := by
  unfold astep at hs
  split at hs
  · rename_i h0
    simp only [Option.some.injEq] at hs
    subst hs
    exact astep_of (kind10 hk h0 hm)
  · rw [hk] at hs
    simp [Nat.beq] at hs
noncomputable def gvis (f : Nat → Bool) (base : Nat) (g : AHeap) (p : Pend) : AHeap := p.foldr (fun q h => bif f q.1 then ⟨h.t.put (base + q.1) (some q.2), h.next⟩ else h) g
theorem gvis_next (f : Nat → Bool) (base : Nat) (g : AHeap) : ∀ p : Pend, (gvis f base g p).next = g.next
  | [] => rfl
  | q :: p => by
    show (bif f q.1 then (⟨(gvis f base g p).t.put (base + q.1) (some q.2), (gvis f base g p).next⟩ : AHeap) else gvis f base g p).next = g.next
    cases f q.1 <;> exact gvis_next f base g p
theorem gvis_cons (f : Nat → Bool) (base : Nat) (g : AHeap) (q : Nat × AObj) (p : Pend) (id : Nat) : (gvis f base g (q :: p)).get id = if f q.1 = true ∧ id = base + q.1 then some q.2 else (gvis f base g p).get id := by
  show (bif f q.1 then (⟨(gvis f base g p).t.put (base + q.1) (some q.2), (gvis f base g p).next⟩ : AHeap) else gvis f base g p).get id = _
  cases hf : f q.1 with
  | false => simp
  | true =>
    simp only [cond_true, AHeap.get, Tr.get_put, true_and]
theorem gvis_in (f : Nat → Bool) (base : Nat) (g : AHeap) {j : Nat} {x : AObj} (hf : f j = true) : ∀ {p : Pend}, (∀ y, (j, y) ∈ p → y = x) → (j, x) ∈ p → (gvis f base g p).get (base + j) = some x
  | [], _, h => by cases h
  | q :: p, hu, h => by
    rw [gvis_cons]
    by_cases hq : q.1 = j
    · have : q.2 = x := hu q.2 (by rw [← hq]; exact .head _)
      rw [if_pos ⟨by rw [hq]; exact hf, by rw [hq]⟩, this]
    · rw [if_neg (by rintro ⟨_, e⟩; omega)]
      refine gvis_in f base g hf (fun y hy => hu y (.tail _ hy)) ?_
      rcases List.mem_cons.1 h with e | e
      · exact absurd (by rw [← e]) hq
      · exact e
theorem gvis_out (f : Nat → Bool) (base : Nat) (g : AHeap) (id : Nat) : ∀ {p : Pend}, (∀ j x, (j, x) ∈ p → f j = true → id ≠ base + j) → (gvis f base g p).get id = g.get id
  | [], _ => rfl
  | q :: p, h => by
    rw [gvis_cons, if_neg (by rintro ⟨e1, e2⟩; exact h q.1 q.2 (.head _) e1 e2)]
    exact gvis_out f base g id fun j x hx => h j x (.tail _ hx)
/-! ### what is known of the region's own order -/
def DCase (E : Env) (callf : CallF) (ops : Array Oper) (b : Array Nat) (base i : Nat) (o : Oper) (s s' : DSt) (v : Value) (x : Option AObj) (wr : Bool) : Prop :=
  s'.a = s.a.put o.dst v ∧
  ((wr = false ∧ x = none ∧ awants ops s.a o = false ∧ v = undef ∧ s'.g = s.g ∧ s'.p = s.p ∧ s'.rs = s.rs ∧ s'.ws = s.ws) ∨
   (awants ops s.a o = true ∧ (
     (wr = false ∧ x = none ∧ kindOf o.op = 0 ∧ s'.g = s.g ∧ s'.p = s.p ∧ s'.rs = (bif pureOp o.op then s.rs else ⟨i, o, s.a, v⟩ :: s.rs) ∧ s'.ws = s.ws ∧ ∃ h h', astep E callf s.a h (base + i) o = some (v, h')) ∨
     (wr = false ∧ kindOf o.op = 1 ∧ (∃ h y, x = some y ∧ astep E callf s.a ⟨.nil, base + i⟩ (base + i) o = some (v, h) ∧ h.get (base + i) = some y ∧ s'.p = (i, y) :: s.p) ∧ s'.g = s.g ∧ s'.rs = s.rs ∧ s'.ws = s.ws) ∨
     (wr = true ∧ x = none ∧ (∀ q r, s.ws = q :: r → isIn b q.1 i = true) ∧ astep E callf s.a (vis b base i s.g s.p) (base + i) o = some (v, s'.g) ∧ s'.p = s.p.filter (fun q => !(isIn b q.1 i)) ∧ s'.rs = s.rs ∧ s'.ws = (i, s.g, s.p) :: s.ws))))
theorem dstep_case {E : Env} {callf : CallF} {ops : Array Oper} {b : Array Nat} {base i : Nat} {o : Oper} {s s' : DSt} (h : dstep E callf ops b base o i s = some s') : ∃ v x wr, DCase E callf ops b base i o s s' v x wr := by
  unfold dstep at h
  cases hw : awants ops s.a o with
  | false =>
    rw [hw] at h
    simp only [Bool.not_false, cond_true, Option.some.injEq] at h
    subst h
    exact ⟨undef, none, false, rfl, .inl ⟨rfl, rfl, hw, rfl, rfl, rfl, rfl, rfl⟩⟩
  | true =>
    rw [hw] at h
    simp only [Bool.not_true, cond_false] at h
    split at h
    · rename_i hk
      split at h
      · rename_i v g' hs
        simp only [Option.some.injEq] at h
        subst h
        exact ⟨v, none, false, rfl, .inr ⟨hw, .inl ⟨rfl, rfl, hk, rfl, rfl, rfl, rfl, _, _, hs⟩⟩⟩
      · cases h
    · rename_i hk
      split at h
      · rename_i v g' hs
        split at h
        · rename_i y hy
          simp only [Option.some.injEq] at h
          subst h
          exact ⟨v, some y, false, rfl, .inr ⟨hw, .inr (.inl ⟨rfl, hk, ⟨g', y, rfl, hs, hy, rfl⟩, rfl, rfl, rfl⟩)⟩⟩
        · cases h
      · cases h
    · have fin : (∀ q r, s.ws = q :: r → isIn b q.1 i = true) → (match astep E callf s.a (vis b base i s.g s.p) (base + i) o with | some (v, g') => some ({ s with a := s.a.put o.dst v, g := g', p := s.p.filter (fun q => !(isIn b q.1 i)), ws := (i, s.g, s.p) :: s.ws } : DSt) | none => none) = some s' → ∃ v x wr, DCase E callf ops b base i o s s' v x wr := by
        intro hc h
        split at h
        · rename_i v g' hs
          simp only [Option.some.injEq] at h
          subst h
          exact ⟨v, none, true, rfl, .inr ⟨hw, .inr (.inr ⟨rfl, rfl, hc, hs, rfl, rfl, rfl⟩)⟩⟩
        · cases h
      cases hws : s.ws with
      | nil =>
        rw [hws] at h fin
        exact fin (by rintro q r ⟨⟩) h
      | cons q r =>
        obtain ⟨j, gp⟩ := q
        rw [hws] at h fin
        cases hj : isIn b j i with
        | false =>
          simp only [hj, cond_false] at h
          cases h
        | true =>
          simp only [hj, cond_true] at h
          exact fin (by rintro q r ⟨⟩; exact hj) h
structure DT (E : Env) (callf : CallF) (ops : Array Oper) (base : Nat) (a0 : AAct) (h0 : AHeap) (st : Nat → DSt) (val : Nat → Value) (obj : Nat → Option AObj) (wr : Nat → Bool) : Prop where
  s0 : st 0 = ⟨a0, ⟨h0.t, base + ops.size⟩, [], [], []⟩
  step : ∀ i o, ops[i]? = some o → DCase E callf ops (Region.before ops) base i o (st i) (st (i + 1)) (val i) (obj i) (wr i)
  down : EdgesDown ops
  tmps : ∀ i j o p, i < j → ops[i]? = some o → ops[j]? = some p → clash ops o p = true → isIn (Region.before ops) i j = true
  rs : ∀ d ∈ (st ops.size).rs, reads E callf (Region.before ops) base d (st ops.size).g (st ops.size).p (st ops.size).ws = true
theorem tmpsOk_spec (ops : Array Oper) (b : Array Nat) : ∀ (l : List Oper) (k : Nat), tmpsOk ops b (l.zipIdx k) = true → ∀ i j o p, i < j → l[i]? = some o → l[j]? = some p → clash ops o p = true → isIn b (k + i) (k + j) = true
  | [], _, _, _, _, _, _, _, h, _, _ => by simp at h
  | x :: l, k, h, i, j, o, p, hij, hi, hj, hc => by
    simp only [List.zipIdx_cons, tmpsOk, Bool.and_eq_true] at h
    cases j with
    | zero => omega
    | succ j =>
      have hj' : l[j]? = some p := by simpa using hj
      cases i with
      | zero =>
        simp only [List.getElem?_cons_zero, Option.some.injEq] at hi
        subst hi
        have hm : (p, k + 1 + j) ∈ l.zipIdx (k + 1) := by
          rw [List.mem_zipIdx_iff_le_and_getElem?_sub]
          exact ⟨by simp, by simpa using hj'⟩
        have := List.all_eq_true.1 h.1 _ hm
        simp only [hc, Bool.not_true, Bool.false_or] at this
        unfold isIn
        rw [show k + (j + 1) = k + 1 + j by omega]
        exact this
      | succ i =>
        have := tmpsOk_spec ops b l (k + 1) h.2 i j o p (by omega) (by simpa using hi) hj' hc
        rw [show k + (i + 1) = k + 1 + i by omega, show k + (j + 1) = k + 1 + j by omega]
        exact this
/-- what a region's draw comes to -/
theorem adraw_dt {E : Env} {callf : CallF} {ops : Array Oper} {a a' : AAct} {h h' : AHeap} (hs : adraw0 E callf ops a h = some (a', h')) :
    ∃ st val obj wr, DT E callf ops h.next a h st val obj wr ∧ a' = (st ops.size).a ∧ h' = gvis (fun _ => true) h.next (st ops.size).g (st ops.size).p := by
  unfold adraw0 at hs
  simp only at hs
  generalize hc : (tmpsOk ops (Region.before ops) ops.toList.zipIdx && ops.toList.zipIdx.all (fun q => q.1.after.all fun e => !(Region.binds .any e) || Nat.blt e.on q.2)) = cc at hs
  cases cc with
  | false => simp only [cond_false] at hs; cases hs
  | true =>
    simp only [cond_true] at hs
    rw [Bool.and_eq_true] at hc
    split at hs
    · rename_i sf hgo
      generalize hr : (sf.rs.all fun d => reads E callf (Region.before ops) h.next d sf.g sf.p sf.ws) = rr at hs
      cases rr with
      | false => simp only [cond_false] at hs; cases hs
      | true =>
        simp only [cond_true, Option.some.injEq, Prod.mk.injEq] at hs
        obtain ⟨st, h1, h2, h3⟩ := dgo_trace ops.toList 0 _ sf hgo
        simp only [Nat.zero_add, Array.length_toList, Array.getElem?_toList] at h2 h3
        have hex : ∀ i, ∃ t : Value × Option AObj × Bool, ∀ o, ops[i]? = some o → DCase E callf ops (Region.before ops) h.next i o (st i) (st (i + 1)) t.1 t.2.1 t.2.2 := by
          intro i
          cases ho : ops[i]? with
          | none => exact ⟨(undef, none, false), fun o e => by cases e⟩
          | some o =>
            obtain ⟨v, x, wr, hcase⟩ := dstep_case (h3 i o ho)
            exact ⟨(v, x, wr), fun p e => by injection e with e; subst e; exact hcase⟩
        refine ⟨st, fun i => (Classical.choose (hex i)).1, fun i => (Classical.choose (hex i)).2.1, fun i => (Classical.choose (hex i)).2.2, ⟨h1, fun i o ho => Classical.choose_spec (hex i) o ho, ?_, ?_, ?_⟩, ?_, ?_⟩
        · intro i o ho e he hb
          have hm : (o, i) ∈ ops.toList.zipIdx := by
            rw [List.mem_zipIdx_iff_getElem?]
            simpa using ho
          have := List.all_eq_true.1 hc.2 _ hm
          simp only [Array.all_eq_true'] at this
          have := this e (by simpa using he)
          simp only [hb, Bool.not_true, Bool.false_or, bltd, decide_eq_true_eq] at this
          exact this
        · intro i j o p hij hi hj hcl
          have := tmpsOk_spec ops (Region.before ops) ops.toList 0 hc.1 i j o p hij (by simpa using hi) (by simpa using hj) hcl
          simpa using this
        · rw [h2]
          exact fun d hd => List.all_eq_true.1 hr d hd
        · rw [h2]; exact hs.1.symm
        · rw [h2]; exact hs.2.symm
    · cases hs
end Go.Proofs.Yteffhomollmpdaa.AM

/- A region in whatever order: its stages. -/
namespace Go.Proofs.Yteffhomollmpdaa.AM
open Go
variable [Tok]
set_option linter.unusedVariables false
set_option linter.unusedSectionVars false
set_option linter.unusedSimpArgs false
section
variable {E : Env} {callf : CallF} {ops : Array Oper} {base : Nat} {a0 : AAct} {h0 : AHeap} {st : Nat → DSt} {val : Nat → Value} {obj : Nat → Option AObj} {wr : Nat → Bool} {ds : List Deferred}
theorem DT.op {n : Nat} {ops : Array Oper} (h : n < ops.size) : ∃ o, ops[n]? = some o := ⟨_, Array.getElem?_eq_getElem h⟩
def Abs (b : Array Nat) (wr : Nat → Bool) (c j : Nat) : Prop := ∃ k, k < c ∧ wr k = true ∧ isIn b j k = true
theorem DT.a_eq (D : DT E callf ops base a0 h0 st val obj wr) : ∀ k, k ≤ ops.size → (st k).a = putsOf ops val (fun _ => true) k a0
  | 0, _ => by rw [D.s0]; rfl
  | k + 1, h => by
    obtain ⟨o, ho⟩ := DT.op (show k < ops.size by omega)
    rw [(D.step k o ho).1, D.a_eq k (by omega)]
    simp only [putsOf, ho, if_true]
theorem DT.p_mem (D : DT E callf ops base a0 h0 st val obj wr) : ∀ k, k ≤ ops.size → ∀ j x, (j, x) ∈ (st k).p ↔ j < k ∧ obj j = some x ∧ ¬ Abs (Region.before ops) wr k j
  | 0, _, j, x => by rw [D.s0]; simp
  | k + 1, h, j, x => by
    obtain ⟨o, ho⟩ := DT.op (show k < ops.size by omega)
    have ih := D.p_mem k (by omega) j x
    have abs_same : wr k = false → (Abs (Region.before ops) wr (k + 1) j ↔ Abs (Region.before ops) wr k j) := by
      intro hw
      constructor
      · rintro ⟨m, h1, h2, h3⟩
        refine ⟨m, ?_, h2, h3⟩
        rcases Nat.lt_succ_iff_lt_or_eq.1 h1 with h4 | rfl
        · exact h4
        · rw [hw] at h2; cases h2
      · rintro ⟨m, h1, h2, h3⟩
        exact ⟨m, by omega, h2, h3⟩
    have hself : ¬ Abs (Region.before ops) wr (k + 1) k := by
      rintro ⟨m, h1, h2, h3⟩
      obtain ⟨p, hp⟩ := DT.op (show m < ops.size by omega)
      have := isIn_lt D.down m k p hp h3
      omega
    rcases D.step k o ho with ⟨_, ⟨h1, h2, _, _, _, h3, _, _⟩ | ⟨_, ⟨h1, h2, _, _, h3, _, _, _⟩ | ⟨h1, _, ⟨_, y, h2, _, _, h3⟩, _, _, _⟩ | ⟨h1, h2, _, _, h3, _, _⟩⟩⟩
    · rw [h3, ih, abs_same h1]
      constructor
      · rintro ⟨g1, g2⟩; exact ⟨by omega, g2⟩
      · rintro ⟨g1, g2⟩
        refine ⟨?_, g2⟩
        rcases Nat.lt_succ_iff_lt_or_eq.1 g1 with h4 | rfl
        · exact h4
        · rw [h2] at g2; cases g2.1
    · rw [h3, ih, abs_same h1]
      constructor
      · rintro ⟨g1, g2⟩; exact ⟨by omega, g2⟩
      · rintro ⟨g1, g2⟩
        refine ⟨?_, g2⟩
        rcases Nat.lt_succ_iff_lt_or_eq.1 g1 with h4 | rfl
        · exact h4
        · rw [h2] at g2; cases g2.1
    · rw [h3, List.mem_cons, ih]
      constructor
      · rintro (e | ⟨g1, g2, g3⟩)
        · injection e with e1 e2
          subst e1 e2
          exact ⟨by omega, h2, hself⟩
        · exact ⟨by omega, g2, by rw [abs_same h1]; exact g3⟩
      · rintro ⟨g1, g2, g3⟩
        rcases Nat.lt_succ_iff_lt_or_eq.1 g1 with h4 | rfl
        · exact .inr ⟨h4, g2, by rw [← abs_same h1]; exact g3⟩
        · rw [h2] at g2; injection g2 with g2; subst g2; exact .inl rfl
    · rw [h3, List.mem_filter, ih]
      constructor
      · rintro ⟨⟨g1, g2, g3⟩, g4⟩
        refine ⟨by omega, g2, ?_⟩
        rintro ⟨m, q1, q2, q3⟩
        rcases Nat.lt_succ_iff_lt_or_eq.1 q1 with h4 | rfl
        · exact g3 ⟨m, h4, q2, q3⟩
        · simp [q3] at g4
      · rintro ⟨g1, g2, g3⟩
        have g4 : j < k := by
          rcases Nat.lt_succ_iff_lt_or_eq.1 g1 with h4 | rfl
          · exact h4
          · rw [h2] at g2; cases g2
        refine ⟨⟨g4, g2, fun ⟨m, q1, q2, q3⟩ => g3 ⟨m, by omega, q2, q3⟩⟩, ?_⟩
        cases e : isIn (Region.before ops) j k with
        | false => rfl
        | true => exact absurd ⟨k, by omega, h1, e⟩ g3
theorem DT.ws_at (D : DT E callf ops base a0 h0 st val obj wr) : ∀ k, k ≤ ops.size → ((st k).ws = [] ∧ ∀ m, m < k → wr m = false) ∨ ∃ lw, lw < k ∧ wr lw = true ∧ (st k).ws = (lw, (st lw).g, (st lw).p) :: (st lw).ws ∧ ∀ m, lw < m → m < k → wr m = false
  | 0, _ => .inl ⟨by rw [D.s0], fun m h => by omega⟩
  | k + 1, h => by
    obtain ⟨o, ho⟩ := DT.op (show k < ops.size by omega)
    have ih := D.ws_at k (by omega)
    have same : wr k = false → (st (k + 1)).ws = (st k).ws → ((st (k + 1)).ws = [] ∧ ∀ m, m < k + 1 → wr m = false) ∨ ∃ lw, lw < k + 1 ∧ wr lw = true ∧ (st (k + 1)).ws = (lw, (st lw).g, (st lw).p) :: (st lw).ws ∧ ∀ m, lw < m → m < k + 1 → wr m = false := by
      intro h1 h2
      rw [h2]
      rcases ih with ⟨g1, g2⟩ | ⟨lw, g1, g2, g3, g4⟩
      · refine .inl ⟨g1, fun m hm => ?_⟩
        rcases Nat.lt_succ_iff_lt_or_eq.1 hm with h4 | rfl
        · exact g2 m h4
        · exact h1
      · refine .inr ⟨lw, by omega, g2, g3, fun m hm1 hm => ?_⟩
        rcases Nat.lt_succ_iff_lt_or_eq.1 hm with h4 | rfl
        · exact g4 m hm1 h4
        · exact h1
    rcases D.step k o ho with ⟨_, ⟨h1, h2, _, _, _, _, _, h3⟩ | ⟨_, ⟨h1, h2, _, _, _, _, h3, _⟩ | ⟨h1, _, _, _, _, h3⟩ | ⟨h1, h2, _, _, _, _, h3⟩⟩⟩
    · exact same h1 h3
    · exact same h1 h3
    · exact same h1 h3
    · exact .inr ⟨k, by omega, h1, h3, fun m q1 q2 => by omega⟩
theorem DT.g_same (D : DT E callf ops base a0 h0 st val obj wr) (k : Nat) : ∀ d, k + d ≤ ops.size → (∀ m, k ≤ m → m < k + d → wr m = false) → (st (k + d)).g = (st k).g
  | 0, _, _ => rfl
  | d + 1, h, hw => by
    obtain ⟨o, ho⟩ := DT.op (show k + d < ops.size by omega)
    have ih := D.g_same k d (by omega) fun m h1 h2 => hw m h1 (by omega)
    have hn := hw (k + d) (by omega) (by omega)
    rw [← ih]
    show (st (k + d + 1)).g = _
    rcases D.step (k + d) o ho with ⟨_, ⟨h1, h2, _, _, h3, _, _, _⟩ | ⟨_, ⟨h1, h2, _, h3, _, _, _, _⟩ | ⟨h1, _, _, h3, _, _⟩ | ⟨h1, h2, _, _, _, _, _⟩⟩⟩
    · exact h3
    · exact h3
    · exact h3
    · rw [hn] at h1; cases h1
theorem DT.rs_mem (D : DT E callf ops base a0 h0 st val obj wr) (k : Nat) : ∀ d, k + d ≤ ops.size → ∀ r ∈ (st k).rs, r ∈ (st (k + d)).rs
  | 0, _, r, hr => hr
  | d + 1, h, r, hr => by
    obtain ⟨o, ho⟩ := DT.op (show k + d < ops.size by omega)
    have ih := D.rs_mem k d (by omega) r hr
    show r ∈ (st (k + d + 1)).rs
    rcases D.step (k + d) o ho with ⟨_, ⟨h1, h2, _, _, _, _, h3, _⟩ | ⟨_, ⟨h1, h2, _, _, _, h3, _, _⟩ | ⟨h1, _, _, _, h3, _⟩ | ⟨h1, h2, _, _, _, h3, _⟩⟩⟩
    · rw [h3]; exact ih
    · rw [h3, Bool.cond_eq_ite]; split <;> first | exact ih | exact .tail _ ih
    · rw [h3]; exact ih
    · rw [h3]; exact ih
/-- the writers come in their order -/
theorem DT.chain (D : DT E callf ops base a0 h0 st val obj wr) {S : Nat → Bool} (hS : Down ops S) : ∀ i, i < ops.size → wr i = true → (∀ j, isIn (Region.before ops) j i = true → S j = true) → ∀ k, k < i → wr k = true → S k = true := by
  intro i
  induction i using Nat.strongRecOn with
  | _ i ih =>
    intro hi hw hb k hk hwk
    obtain ⟨o, ho⟩ := DT.op hi
    rcases D.ws_at i (by omega) with ⟨_, h2⟩ | ⟨lw, h1, h2, h3, h4⟩
    · rw [h2 k hk] at hwk; cases hwk
    · have hlw : S lw = true := by
        rcases D.step i o ho with ⟨_, ⟨g1, _⟩ | ⟨_, ⟨g1, _⟩ | ⟨g1, _⟩ | ⟨_, _, g1, _⟩⟩⟩
        · rw [hw] at g1; cases g1
        · rw [hw] at g1; cases g1
        · rw [hw] at g1; cases g1
        · exact hb lw (g1 _ _ h3)
      rcases Nat.lt_trichotomy k lw with h5 | rfl | h5
      · obtain ⟨p, hp⟩ := DT.op (show lw < ops.size by omega)
        exact ih lw h1 (by omega) h2 (fun j hj => hS.before lw j p hp hlw hj) k h5 hwk
      · exact hlw
      · rw [h4 k h5 hk] at hwk; cases hwk
/-- what a reader finds at a stage that it may come to -/
theorem DT.reads_at (D : DT E callf ops base a0 h0 st val obj wr) {d : DRec} {c : Nat} (h1 : ∀ m, m < c → wr m = true → isIn (Region.before ops) d.i m = false) (h2 : ∀ m, c ≤ m → wr m = true → isIn (Region.before ops) m d.i = false) :
    ∀ k, k ≤ ops.size → c ≤ k → (k = c ∨ (c < k ∧ wr c = true)) → reads E callf (Region.before ops) base d (st k).g (st k).p (st k).ws = true →
      ∃ h', astep E callf d.a (vis (Region.before ops) base d.i (st c).g (st c).p) (base + d.i) d.o = some (d.v, h') := by
  intro k
  induction k using Nat.strongRecOn with
  | _ k ih =>
    intro hk hck hkc hr
    have here : (match astep E callf d.a (vis (Region.before ops) base d.i (st k).g (st k).p) (base + d.i) d.o with | some (v, _) => veq v d.v | none => false) = true → ∃ h', astep E callf d.a (vis (Region.before ops) base d.i (st k).g (st k).p) (base + d.i) d.o = some (d.v, h') := by
      intro h
      split at h
      · rename_i v h' hs
        rw [hs, veq_eq h]
        exact ⟨h', rfl⟩
      · cases h
    rcases D.ws_at k hk with ⟨g1, g2⟩ | ⟨lw, g1, g2, g3, g4⟩
    · have hkc' : k = c := by
        rcases hkc with e | ⟨e1, e2⟩
        · exact e
        · rw [g2 c e1] at e2; cases e2
      subst hkc'
      rw [g1] at hr
      unfold reads at hr
      exact here hr
    · rw [g3] at hr
      unfold reads at hr
      simp only [Bool.and_eq_true, Bool.or_eq_true] at hr
      rcases Nat.lt_or_ge lw c with h3 | h3
      · have hkc' : k = c := by
          rcases hkc with e | ⟨e1, e2⟩
          · exact e
          · rw [g4 c h3 e1] at e2; cases e2
        subst hkc'
        rcases hr.1 with h4 | h4
        · rw [h1 lw h3 g2] at h4; cases h4
        · exact here h4
      · rcases hr.2 with h4 | h4
        · rw [h2 lw h3 g2] at h4; cases h4
        · refine ih lw g1 (by omega) h3 ?_ h4
          rcases Nat.eq_or_lt_of_le h3 with e | e
          · exact .inl e.symm
          · right
            refine ⟨e, ?_⟩
            rcases hkc with e1 | ⟨_, e2⟩
            · omega
            · exact e2
theorem next_writer (wr : Nat → Bool) (n : Nat) : ∀ d k, k + d = n → ∃ c, k ≤ c ∧ c ≤ n ∧ (∀ m, k ≤ m → m < c → wr m = false) ∧ (c = n ∨ (c < n ∧ wr c = true))
  | 0, k, h => ⟨k, by omega, by omega, fun m h1 h2 => by omega, .inl (by omega)⟩
  | d + 1, k, h => by
    cases hw : wr k with
    | true => exact ⟨k, by omega, by omega, fun m h1 h2 => by omega, .inr ⟨by omega, hw⟩⟩
    | false =>
      obtain ⟨c, h1, h2, h3, h4⟩ := next_writer wr n d (k + 1) (by omega)
      refine ⟨c, by omega, h2, fun m g1 g2 => ?_, h4⟩
      rcases Nat.eq_or_lt_of_le g1 with e | e
      · subst e; exact hw
      · exact h3 m (by omega) g2
/-! ### places -/
theorem clash_wr {ops : Array Oper} {o p : Oper} {t : Nat} (h1 : o.dst = some t) (h2 : t ∈ looks ops p) : clash ops o p = true := by
  unfold clash
  rw [h1]
  simp only [Bool.or_eq_true]
  left; left
  unfold memN
  rw [List.any_eq_true]
  exact ⟨t, h2, by simp⟩
theorem clash_rw {ops : Array Oper} {o p : Oper} {t : Nat} (h1 : p.dst = some t) (h2 : t ∈ looks ops o) : clash ops o p = true := by
  unfold clash
  rw [h1]
  simp only [Bool.or_eq_true]
  right
  unfold memN
  rw [List.any_eq_true]
  exact ⟨t, h2, by simp⟩
theorem clash_ww {ops : Array Oper} {o p : Oper} {t : Nat} (h1 : o.dst = some t) (h2 : p.dst = some t) : clash ops o p = true := by
  unfold clash
  rw [h1, h2]
  simp
theorem putsOf_upto (ops : Array Oper) (val : Nat → Value) (a : AAct) (i : Nat) : ∀ d, putsOf ops val (fun j => decide (j < i)) (i + d) a = putsOf ops val (fun j => decide (j < i)) i a
  | 0 => rfl
  | d + 1 => by
    show putsOf ops val (fun j => decide (j < i)) (i + d + 1) a = _
    rw [putsOf, putsOf_upto ops val a i d]
    split
    · rw [if_neg (by simp)]
    · rfl
/-- what one that is free looks at is there -/
theorem DT.look (D : DT E callf ops base a0 h0 st val obj wr) {S : Nat → Bool} (hS : Down ops S) {i : Nat} {o : Oper} (ho : ops[i]? = some o) (hi : S i = false) (hb : ∀ j, isIn (Region.before ops) j i = true → S j = true) {t : Nat} (ht : t ∈ looks ops o) :
    (st i).a.at t = (putsOf ops val S ops.size a0).at t := by
  have hsz : i < ops.size := (Array.getElem?_eq_some_iff.1 ho).1
  rw [D.a_eq i (by omega)]
  have h1 : (putsOf ops val (fun _ => true) i a0).at t = (putsOf ops val (fun j => decide (j < i)) i a0).at t := putsOf_same ops val _ _ a0 t i fun j p hj _ _ => by simp [hj]
  rw [h1]
  have h2 := putsOf_upto ops val a0 i (ops.size - i)
  rw [show i + (ops.size - i) = ops.size by omega] at h2
  rw [← h2]
  refine putsOf_same ops val _ _ a0 t ops.size fun j p hj hp hd => ?_
  rcases Nat.lt_trichotomy j i with h3 | rfl | h3
  · rw [decide_eq_true h3, hb j (D.tmps j i p o h3 hp ho (clash_wr hd ht))]
  · simp [hi]
  · have h4 := D.tmps i j o p h3 ho hp (clash_rw hd ht)
    cases hSj : S j with
    | false => simp; omega
    | true =>
      have := hS.before j i p hp hSj h4
      rw [hi] at this; cases this
theorem AR.congr {ds : List Deferred} {π : Pi} {a b : AAct} {c : Act} (h : AR ds π a c) (hn : b.n = a.n) (ht : ∀ t, b.at t = a.at t) : AR ds π b c :=
  ⟨by rw [hn]; exact h.size, fun t => by rw [ht]; exact h.at_ t, h.df⟩
theorem DT.puts (D : DT E callf ops base a0 h0 st val obj wr) {S : Nat → Bool} (hS : Down ops S) {i : Nat} {o : Oper} (ho : ops[i]? = some o) (hi : S i = false) {π : Pi} {c : Act} (h : AR ds π ((putsOf ops val S ops.size a0).put o.dst (val i)) c) :
    AR ds π (putsOf ops val (fun j => if j = i then true else S j) ops.size a0) c := by
  have hsz : i < ops.size := (Array.getElem?_eq_some_iff.1 ho).1
  refine h.congr (by rw [put_n, putsOf_n, putsOf_n]) fun t => putsOf_more ops val S a0 i o ho hi t ops.size hsz fun j p h1 h2 hp hd hod => ?_
  have h4 := D.tmps i j o p h1 ho hp (clash_ww hod hd)
  cases hSj : S j with
  | false => rfl
  | true =>
    have := hS.before j i p hp hSj h4
    rw [hi] at this; cases this
end
end Go.Proofs.Yteffhomollmpdaa.AM

/- A region in whatever order: it comes to what its own order comes to. -/
namespace Go.Proofs.Yteffhomollmpdaa.AM
open Go
variable [Tok]
set_option linter.unusedVariables false
set_option linter.unusedSectionVars false
set_option linter.unusedSimpArgs false
theorem Stp.sub {π π' : Pi} {N nx nx' nid : Nat} {g g' g'' : AG} {w w' : World} (h : Stp π N g nx w π' g' nx' w' nid) (hs : ∀ id o, g'' id = some o → g' id = some o) : Stp π N g nx w π' g'' nx' w' nid :=
  ⟨h.le, h.fresh, h.hr.sub hs, h.nxl, h.os, h.tape, h.output, h.size, h.blk, fun b ⟨id, o, L, h1, h2, h3, h4⟩ => h.own b ⟨id, o, L, hs _ _ h1, h2, h3, h4⟩, fun id o ho => h.dom id o (hs _ _ ho)⟩
open Classical in
/-- what has been laid and isn't in the heap yet -/
noncomputable def PF (b : Array Nat) (base n : Nat) (obj : Nat → Option AObj) (wr : Nat → Bool) (S : Nat → Bool) (c : Nat) : AG := fun id =>
  if base ≤ id ∧ id < base + n ∧ S (id - base) = true ∧ ¬ Abs b wr c (id - base) then obj (id - base) else none
theorem PF_iff {b : Array Nat} {base n : Nat} {obj : Nat → Option AObj} {wr : Nat → Bool} {S : Nat → Bool} {c id : Nat} {x : AObj} :
    PF b base n obj wr S c id = some x ↔ ∃ j, id = base + j ∧ j < n ∧ S j = true ∧ ¬ Abs b wr c j ∧ obj j = some x := by
  unfold PF
  constructor
  · intro h
    split at h
    · rename_i hc
      exact ⟨id - base, by omega, by omega, hc.2.2.1, hc.2.2.2, h⟩
    · cases h
  · rintro ⟨j, rfl, h1, h2, h3, h4⟩
    rw [show base + j - base = j by omega]
    rw [if_pos ⟨by omega, by omega, h2, h3⟩, h4]
theorem opt_ext {α : Type} {x y : Option α} (h : ∀ a, x = some a ↔ y = some a) : x = y := by
  cases x with
  | none => cases y with
    | none => rfl
    | some b => exact absurd ((h b).2 rfl) (by simp)
  | some a => exact ((h a).1 rfl).symm
section
variable {P : Program} {G N : Nat} {E : Env} {callf : CallF} {ops : Array Oper} {a0 : AAct} {h0 : AHeap} {st : Nat → DSt} {val : Nat → Value} {obj : Nat → Option AObj} {wr : Nat → Bool} {π0 : Pi} {w0 : World} {Q : Exit → Act → World → Prop} {F : Fence} {fu : Nat} {ds : List Deferred}
def addS (S : Nat → Bool) (i : Nat) : Nat → Bool := fun j => if j = i then true else S j
theorem PF_same {b : Array Nat} {base n : Nat} {S : Nat → Bool} {c i : Nat} (h : obj i = none) : PF b base n obj wr (addS S i) c = PF b base n obj wr S c := by
  funext id
  refine opt_ext fun x => ?_
  rw [PF_iff, PF_iff]
  constructor
  · rintro ⟨j, h1, h2, h3, h4, h5⟩
    refine ⟨j, h1, h2, ?_, h4, h5⟩
    unfold addS at h3
    split at h3
    · rename_i e; rw [e, h] at h5; cases h5
    · exact h3
  · rintro ⟨j, h1, h2, h3, h4, h5⟩
    exact ⟨j, h1, h2, by unfold addS; split <;> first | rfl | exact h3, h4, h5⟩
structure DI (ds : List Deferred) (N : Nat) (ops : Array Oper) (a0 : AAct) (h0 : AHeap) (st : Nat → DSt) (val : Nat → Value) (obj : Nat → Option AObj) (wr : Nat → Bool) (π0 : Pi) (w0 : World) (S : Nat → Bool) (c : Nat) (π : Pi) (act : Act) (w : World) : Prop where
  dn : Down ops S
  ar : AR ds π (putsOf ops val S ops.size a0) act
  stp : Stp π0 N h0.get h0.next w0 π (un (st c).g.get (PF (Region.before ops) h0.next ops.size obj wr S c)) (st c).g.next w h0.next
  fr : ∀ j, j < ops.size → S j = false → π (h0.next + j) = none
  dis : ∀ id, PF (Region.before ops) h0.next ops.size obj wr S c id ≠ none → (st c).g.get id = none
  nx : h0.next + ops.size ≤ (st c).g.next
  cw : ∀ k, k < c → wr k = true → S k = true
  cn : c = ops.size ∨ (c < ops.size ∧ wr c = true ∧ S c = false)
theorem DI.after {S : Nat → Bool} {c c' : Nat} {π π' : Pi} {act : Act} {w w' : World} {i : Nat} {o : Oper} {v' : Value}
    (D : DT E callf ops h0.next a0 h0 st val obj wr) (I : DI ds N ops a0 h0 st val obj wr π0 w0 S c π act w) (hi : ops[i]? = some o) (hSi : S i = false) (hS' : Down ops (addS S i))
    (hst : Stp π N (un (st c).g.get (PF (Region.before ops) h0.next ops.size obj wr S c)) (st c).g.next w π' (un (st c').g.get (PF (Region.before ops) h0.next ops.size obj wr (addS S i) c')) (st c').g.next w' (h0.next + i))
    (hv : VR π' (val i) v') (dis : ∀ id, PF (Region.before ops) h0.next ops.size obj wr (addS S i) c' id ≠ none → (st c').g.get id = none)
    (cw : ∀ k, k < c' → wr k = true → addS S i k = true) (cn : c' = ops.size ∨ (c' < ops.size ∧ wr c' = true ∧ addS S i c' = false)) :
    DI ds N ops a0 h0 st val obj wr π0 w0 (addS S i) c' π' (act.put o.dst v') w' :=
  ⟨hS', D.puts I.dn hi hSi ((I.ar.mono hst.le).put _ hv), I.stp.trans hst (.inr (by omega)), fun j hj hs => by
    unfold addS at hs
    split at hs
    · cases hs
    · rename_i hne
      exact hst.fresh _ (I.fr j hj hs) (by omega) (by have := I.nx; omega), dis, Nat.le_trans I.nx hst.nxl, cw, cn⟩
theorem un_nil {m : Nat} (f : AG) : un (AHeap.get ⟨.nil, m⟩) f = f := by
  funext id
  unfold un
  cases f id <;> rfl
theorem DI.one (hF : FOk F) {S : Nat → Bool} {c : Nat} {π : Pi} {act : Act} {w : World} {i : Nat} {o : Oper}
    (D : DT E callf ops h0.next a0 h0 st val obj wr) (he : EOk P G N E) (hc : CallsOk P G N callf) (hok : ops.toList.all (okOp G) = true) (hg0 : GR G π0)
    (I : DI ds N ops a0 h0 st val obj wr π0 w0 S c π act w) (hi : ops[i]? = some o) (hSi : S i = false) (hb : ∀ e ∈ o.after.toList, Region.binds .any e = true → S e.on = true)
    {K : Act → World → Prop} (hK : ∀ π' c' act' w', DI ds N ops a0 h0 st val obj wr π0 w0 (addS S i) c' π' act' w' → K act' w') : wpOpIn F fu P ops Q i K act w := by
  have hsz : i < ops.size := (Array.getElem?_eq_some_iff.1 hi).1
  have hbi : ∀ j, isIn (Region.before ops) j i = true → S j = true := fun j hj => free_before I.dn hi hb hj
  have hS' : Down ops (addS S i) := by
    intro k p hp hk e hm hbd
    unfold addS at hk ⊢
    split
    · rfl
    · split at hk
      · rename_i e1 e2
        subst e2
        rw [hi] at hp; injection hp with hp; subst hp
        exact hb e hm hbd
      · exact I.dn k p hp hk e hm hbd
  have hg : GR G π := hg0.mono I.stp.le
  have hlook : ∀ t ∈ looks ops o, (st i).a.at t = (putsOf ops val S ops.size a0).at t := fun t ht => D.look I.dn hi hSi hbi ht
  have hoko : okOp G o = true := List.all_eq_true.1 hok o (by
    have := Array.getElem?_eq_some_iff.1 hi
    rw [← this.2]; simp)
  have hρ : ∀ x ∈ o.op.operands, VR π (aev (st i).a x) (act.eval x) := by
    intro x hx
    have h1 := ops_sound hg I.ar hoko x hx
    have h2 : aev (st i).a x = aev (putsOf ops val S ops.size a0) x := by
      cases x with
      | tmp t =>
        refine hlook t ?_
        unfold looks
        refine List.mem_append_left _ (List.mem_filterMap.2 ⟨.tmp t, by simpa using hx, rfl⟩)
      | _ => rfl
    rw [h2]; exact h1
  have hn : (st i).a.n = (putsOf ops val S ops.size a0).n := by rw [D.a_eq i (by omega), putsOf_n, putsOf_n]
  have hw : awants ops (st i).a o = awants ops (putsOf ops val S ops.size a0) o := by
    unfold awants
    cases hgd : o.guard with
    | none => rfl
    | some jw =>
      obtain ⟨j, want⟩ := jw
      simp only
      cases hj : ops[j]? with
      | none => rfl
      | some p =>
        simp only
        cases hd : p.dst with
        | none => rfl
        | some d =>
          simp only
          rw [hn, hlook d (by
            unfold looks
            refine List.mem_append_right _ ?_
            rw [hgd]
            simp only [hj, hd]
            simp)]
  have hr := I.stp.hr
  have hnid := I.fr i hsz hSi
  have hcw : wr i = false → (∀ k, k < c → wr k = true → addS S i k = true) ∧ (c = ops.size ∨ (c < ops.size ∧ wr c = true ∧ addS S i c = false)) := by
    intro hwi
    refine ⟨fun k hk hwk => ?_, I.cn.imp id ?_⟩
    · unfold addS
      split
      · rfl
      · exact I.cw k hk hwk
    · rintro ⟨h1, h2, h3⟩
      refine ⟨h1, h2, ?_⟩
      unfold addS
      split
      · rename_i e; rw [e, hwi] at h2; cases h2
      · exact h3
  have hin : ∀ {id x}, (vis (Region.before ops) h0.next i (st c).g (st c).p).get id = some x → un (st c).g.get (PF (Region.before ops) h0.next ops.size obj wr S c) id = some x := by
    intro id x hx
    have hcn : c ≤ ops.size := by rcases I.cn with h | h <;> omega
    by_cases hex : ∃ j y, (j, y) ∈ (st c).p ∧ isIn (Region.before ops) j i = true ∧ id = h0.next + j
    · obtain ⟨j, y, h1, h2, rfl⟩ := hex
      have hm := (D.p_mem c hcn j y).1 h1
      have := gvis_in (fun j => isIn (Region.before ops) j i) h0.next (st c).g h2 (p := (st c).p) (x := y) (fun z hz => by
        have := (D.p_mem c hcn j z).1 hz
        rw [hm.2.1] at this; exact (Option.some.inj this.2.1).symm) h1
      have hx' : (gvis (fun j => isIn (Region.before ops) j i) h0.next (st c).g (st c).p).get (h0.next + j) = some x := hx
      rw [this] at hx'
      injection hx' with hx'
      subst hx'
      exact un_right (PF_iff.2 ⟨j, rfl, by omega, hbi j h2, hm.2.2, hm.2.1⟩)
    · have := gvis_out (fun j => isIn (Region.before ops) j i) h0.next (st c).g id (p := (st c).p) fun j y h1 h2 h3 => hex ⟨j, y, h1, h2, h3⟩
      have hx' : (gvis (fun j => isIn (Region.before ops) j i) h0.next (st c).g (st c).p).get id = some x := hx
      rw [this] at hx'
      exact un_left I.dis hx'
  have hvn : (vis (Region.before ops) h0.next i (st c).g (st c).p).next = (st c).g.next := gvis_next (fun j => isIn (Region.before ops) j i) h0.next (st c).g (st c).p
  unfold wpOpIn
  rw [hi]
  simp only
  rw [← awants_eq ops I.ar o, ← hw]
  rcases D.step i o hi with ⟨_, ⟨h1, h2, h3, h4, _⟩ | ⟨h3, ⟨h1, h2, hk, _, _, hrs, _, hany⟩ | ⟨h1, hk, ⟨hh, y, h2, hs, hy, _⟩, _, _, _⟩ | ⟨h1, h2, hlast, hs, hp, _, _⟩⟩⟩
  · rw [h3]
    simp only [Bool.false_eq_true, if_false]
    obtain ⟨q1, q2⟩ := hcw h1
    refine ⟨fun f _ => hF.fn f, hK π c _ w (I.after D hi hSi hS' ?_ (by rw [h4]; exact VR.undef) (by rw [PF_same h2]; exact I.dis) q1 q2)⟩
    rw [PF_same h2]
    exact Stp.refl hr _
  · rw [h3]
    simp only [if_true]
    obtain ⟨q1, q2⟩ := hcw h1
    have hcn : c ≤ ops.size := by rcases I.cn with h | h <;> omega
    have hs : ∃ h'', astep E callf (st i).a (vis (Region.before ops) h0.next i (st c).g (st c).p) (h0.next + i) o = some (val i, h'') := by
      cases hpu : pureOp o.op with
      | true =>
        obtain ⟨q, q', hq⟩ := hany
        exact ⟨_, pure_any hpu hq⟩
      | false =>
        rw [hpu, cond_false] at hrs
        have hd : (⟨i, o, (st i).a, val i⟩ : DRec) ∈ (st ops.size).rs := by
          have := D.rs_mem (i + 1) (ops.size - (i + 1)) (by omega) ⟨i, o, (st i).a, val i⟩ (by rw [hrs]; exact .head _)
          rw [show i + 1 + (ops.size - (i + 1)) = ops.size by omega] at this
          exact this
        exact D.reads_at (d := ⟨i, o, (st i).a, val i⟩) (c := c) (fun m hm hwm => by
          cases e : isIn (Region.before ops) i m with
          | false => rfl
          | true =>
            obtain ⟨p, hp⟩ := DT.op (show m < ops.size by omega)
            have := I.dn.before m i p hp (I.cw m hm hwm) e
            rw [hSi] at this; cases this) (fun m hm hwm => by
          cases e : isIn (Region.before ops) m i with
          | false => rfl
          | true =>
            exfalso
            have hlt := isIn_lt D.down i m o hi e
            have hSm := hbi m e
            rcases I.cn with h | ⟨g1, g2, g3⟩
            · omega
            · rcases Nat.eq_or_lt_of_le hm with e1 | e1
              · subst e1; rw [g3] at hSm; cases hSm
              · obtain ⟨p, hp⟩ := DT.op (show m < ops.size by omega)
                have := D.chain I.dn m (by omega) hwm (fun j hj => I.dn.before m j p hp hSm hj) c e1 g2
                rw [g3] at this; cases this) ops.size (Nat.le_refl _) hcn (I.cn.imp Eq.symm fun h => ⟨h.1, h.2.1⟩) (D.rs _ hd)
    obtain ⟨h'', hs⟩ := hs
    have := kind0 hk hs
    subst this
    generalize hV : vis (Region.before ops) h0.next i (st c).g (st c).p = V at hs hin hvn
    let f' : AG := fun id => match V.get id with | none => un (st c).g.get (PF (Region.before ops) h0.next ops.size obj wr S c) id | some _ => none
    have hun : un V.get f' = un (st c).g.get (PF (Region.before ops) h0.next ops.size obj wr S c) := by
      funext id
      cases hv : V.get id with
      | none =>
        have hf : f' id = un (st c).g.get (PF (Region.before ops) h0.next ops.size obj wr S c) id := by show (match V.get id with | none => _ | some _ => _) = _; rw [hv]
        show (match f' id with | some o => some o | none => V.get id) = _
        rw [hf, hv]
        split
        · rename_i h; exact h.symm
        · rename_i h; exact h.symm
      | some y =>
        have hf : f' id = none := by show (match V.get id with | none => _ | some _ => _) = _; rw [hv]
        show (match f' id with | some o => some o | none => V.get id) = _
        rw [hf, hv]
        exact (hin hv).symm
    have hrV : HR π N V.get V.next w := by
      rw [hvn]
      exact hr.sub fun id o ho => hin ho
    refine (astep_sound hF he hc hrV hnid hg hρ hs fun π' v' w' hv' hst => ?_)
    rw [hvn] at hst
    have hfne : ∀ id, f' id ≠ none → V.get id = none := by
      intro id hid
      cases hv : V.get id with
      | none => rfl
      | some y =>
        exfalso; apply hid
        show (match V.get id with | none => _ | some _ => _) = _; rw [hv]
    have hb' := Stp.beside (f := f') (by rw [hun]; exact hr) hfne (fun id hid => by
      have hv := hfne id hid
      have : un (st c).g.get (PF (Region.before ops) h0.next ops.size obj wr S c) id ≠ none := by
        intro e; apply hid
        show (match V.get id with | none => _ | some _ => _) = _; rw [hv]; exact e
      obtain ⟨x, hx⟩ := Option.ne_none_iff_exists'.1 this
      obtain ⟨L, hL, _⟩ := hr.obj id x hx
      refine ⟨?_, fun e => by rw [e, hnid] at hL; cases hL⟩
      rcases Nat.lt_or_ge id (st c).g.next with h | h
      · exact h
      · rw [hr.lim id h] at hL; cases hL) hst
    rw [hun] at hb'
    refine hK π' c _ w' (I.after D hi hSi hS' ?_ hv' (by rw [PF_same h2]; exact I.dis) q1 q2)
    rw [PF_same h2]
    exact hb'.1
  · rw [h3]
    simp only [if_true]
    obtain ⟨q1, q2⟩ := hcw h1
    have hnx := I.nx
    have hs' := kind1 hk hs (m' := (st c).g.next) (by omega)
    have hr0 : HR π N (AHeap.get ⟨.nil, (st c).g.next⟩) (st c).g.next w := hr.sub fun id o ho => by cases ho
    refine (astep_sound hF he hc (h := ⟨.nil, (st c).g.next⟩) hr0 hnid hg hρ hs' fun π' v' w' hv' hst => ?_)
    have hlowf : ∀ id, un (st c).g.get (PF (Region.before ops) h0.next ops.size obj wr S c) id ≠ none → id < (st c).g.next ∧ id ≠ h0.next + i := by
      intro id hid
      obtain ⟨x, hx⟩ := Option.ne_none_iff_exists'.1 hid
      obtain ⟨L, hL, _⟩ := hr.obj id x hx
      refine ⟨?_, fun e => by rw [e, hnid] at hL; cases hL⟩
      rcases Nat.lt_or_ge id (st c).g.next with h | h
      · exact h
      · rw [hr.lim id h] at hL; cases hL
    have hb' := Stp.beside (a := AHeap.get ⟨.nil, (st c).g.next⟩) (f := un (st c).g.get (PF (Region.before ops) h0.next ops.size obj wr S c)) (by rw [un_nil]; exact hr) (fun id _ => rfl) hlowf hst
    rw [un_nil] at hb'
    have hsub : ∀ id x, PF (Region.before ops) h0.next ops.size obj wr (addS S i) c id = some x → (id = h0.next + i ∧ x = y) ∨ PF (Region.before ops) h0.next ops.size obj wr S c id = some x := by
      intro id x hx
      obtain ⟨j, e1, e2, e3, e4, e5⟩ := PF_iff.1 hx
      by_cases hj : j = i
      · subst hj
        rw [h2] at e5; injection e5 with e5
        exact .inl ⟨e1, e5.symm⟩
      · right
        refine PF_iff.2 ⟨j, e1, e2, ?_, e4, e5⟩
        unfold addS at e3
        rw [if_neg hj] at e3
        exact e3
    have hgi : un (st c).g.get (PF (Region.before ops) h0.next ops.size obj wr S c) (h0.next + i) = none := by
      cases e : un (st c).g.get (PF (Region.before ops) h0.next ops.size obj wr S c) (h0.next + i) with
      | none => rfl
      | some x =>
        obtain ⟨L, hL, _⟩ := hr.obj _ x e
        rw [hnid] at hL; cases hL
    refine hK π' c _ w' (I.after D hi hSi hS' (hb'.1.sub ?_) hv' ?_ q1 q2)
    · intro id x hx
      rcases un_cases hx with hp | ⟨hp, hx⟩
      · rcases hsub id x hp with ⟨rfl, rfl⟩ | hp
        · exact un_left (fun id hid => by
            cases e : AHeap.get ⟨hh.t, (st c).g.next⟩ id with
            | none => rfl
            | some z =>
              have := hb'.2 id hid
              rw [e] at this; cases this) hy
        · exact un_right (un_right hp)
      · refine un_right (un_left I.dis hx)
    · intro id hid
      obtain ⟨x, hx⟩ := Option.ne_none_iff_exists'.1 hid
      rcases hsub id x hx with ⟨rfl, rfl⟩ | hp
      · cases e : (st c).g.get (h0.next + i) with
        | none => rfl
        | some z =>
          have := un_left I.dis e
          rw [hgi] at this; cases this
      · exact I.dis id (by rw [hp]; simp)
  · rw [h3]
    simp only [if_true]
    have hci : c = i := by
      rcases Nat.lt_trichotomy c i with h | h | h
      · rcases I.cn with g | ⟨g1, g2, g3⟩
        · omega
        · have := D.chain I.dn i hsz h1 hbi c h g2
          rw [g3] at this; cases this
      · exact h
      · have := I.cw i h h1
        rw [hSi] at this; cases this
    subst hci
    obtain ⟨c', e1, e2, e3, e4⟩ := next_writer wr ops.size (ops.size - (c + 1)) (c + 1) (by omega)
    have hgs : (st c').g = (st (c + 1)).g := by
      have := D.g_same (c + 1) (c' - (c + 1)) (by omega) fun m m1 m2 => e3 m m1 (by omega)
      rw [show c + 1 + (c' - (c + 1)) = c' by omega] at this
      exact this
    have habs : ∀ j, Abs (Region.before ops) wr c' j ↔ Abs (Region.before ops) wr c j ∨ isIn (Region.before ops) j c = true := by
      intro j
      constructor
      · rintro ⟨m, m1, m2, m3⟩
        rcases Nat.lt_trichotomy m c with h | h | h
        · exact .inl ⟨m, h, m2, m3⟩
        · subst h; exact .inr m3
        · rw [e3 m (by omega) m1] at m2; cases m2
      · rintro (⟨m, m1, m2, m3⟩ | h)
        · exact ⟨m, by omega, m2, m3⟩
        · exact ⟨c, by omega, h1, h⟩
    have hPF : ∀ id x, PF (Region.before ops) h0.next ops.size obj wr (addS S c) c' id = some x ↔ ∃ j, id = h0.next + j ∧ j < ops.size ∧ S j = true ∧ ¬ Abs (Region.before ops) wr c j ∧ isIn (Region.before ops) j c = false ∧ obj j = some x := by
      intro id x
      rw [PF_same h2, PF_iff]
      constructor
      · rintro ⟨j, g1, g2, g3, g4, g5⟩
        rw [habs] at g4
        exact ⟨j, g1, g2, g3, fun h => g4 (.inl h), by cases e : isIn (Region.before ops) j c with | false => rfl | true => exact absurd (.inr e) g4, g5⟩
      · rintro ⟨j, g1, g2, g3, g4, g6, g5⟩
        refine ⟨j, g1, g2, g3, ?_, g5⟩
        rw [habs]
        rintro (h | h)
        · exact g4 h
        · rw [g6] at h; cases h
    have hsubPF : ∀ id x, PF (Region.before ops) h0.next ops.size obj wr (addS S c) c' id = some x → PF (Region.before ops) h0.next ops.size obj wr S c id = some x := by
      intro id x hx
      obtain ⟨j, g1, g2, g3, g4, g6, g5⟩ := (hPF id x).1 hx
      exact PF_iff.2 ⟨j, g1, g2, g3, g4, g5⟩
    have hVout : ∀ id, PF (Region.before ops) h0.next ops.size obj wr (addS S c) c' id ≠ none → (vis (Region.before ops) h0.next c (st c).g (st c).p).get id = none := by
      intro id hid
      obtain ⟨x, hx⟩ := Option.ne_none_iff_exists'.1 hid
      obtain ⟨j, g1, g2, g3, g4, g6, g5⟩ := (hPF id x).1 hx
      have := gvis_out (fun j => isIn (Region.before ops) j c) h0.next (st c).g id (p := (st c).p) fun j' y h1 h2 h3 => by
        have : j' = j := by omega
        subst this
        simp only [g6] at h2
        cases h2
      show (gvis (fun j => isIn (Region.before ops) j c) h0.next (st c).g (st c).p).get id = none
      rw [this]
      exact I.dis id (by rw [hsubPF id x hx]; simp)
    have hun : un (vis (Region.before ops) h0.next c (st c).g (st c).p).get (PF (Region.before ops) h0.next ops.size obj wr (addS S c) c') = un (st c).g.get (PF (Region.before ops) h0.next ops.size obj wr S c) := by
      funext id
      refine opt_ext fun x => ⟨fun hx => ?_, fun hx => ?_⟩
      · rcases un_cases hx with hp | ⟨_, hx⟩
        · exact un_right (hsubPF id x hp)
        · exact hin hx
      · rcases un_cases hx with hp | ⟨hp, hx⟩
        · obtain ⟨j, g1, g2, g3, g4, g5⟩ := PF_iff.1 hp
          cases e : isIn (Region.before ops) j c with
          | false => exact un_right ((hPF id x).2 ⟨j, g1, g2, g3, g4, e, g5⟩)
          | true =>
            have hjc := isIn_lt D.down c j o hi e
            have hm : (j, x) ∈ (st c).p := (D.p_mem c (by omega) j x).2 ⟨hjc, g5, g4⟩
            have := gvis_in (fun j => isIn (Region.before ops) j c) h0.next (st c).g e (p := (st c).p) (x := x) (fun z hz => by
              have := (D.p_mem c (by omega) j z).1 hz
              rw [g5] at this; exact (Option.some.inj this.2.1).symm) hm
            rw [g1]
            exact un_left (fun id hid => hVout id hid) this
        · refine un_left (fun id hid => hVout id hid) ?_
          have := gvis_out (fun j => isIn (Region.before ops) j c) h0.next (st c).g id (p := (st c).p) fun j' y m1 m2 m3 => by
            have hm := (D.p_mem c (by omega) j' y).1 m1
            have : PF (Region.before ops) h0.next ops.size obj wr S c id = some y := PF_iff.2 ⟨j', m3, by omega, hbi j' m2, hm.2.2, hm.2.1⟩
            rw [hp] at this; cases this
          show (gvis (fun j => isIn (Region.before ops) j c) h0.next (st c).g (st c).p).get id = some x
          rw [this]; exact hx
    have hrV : HR π N (vis (Region.before ops) h0.next c (st c).g (st c).p).get (vis (Region.before ops) h0.next c (st c).g (st c).p).next w := by
      rw [hvn]
      exact hr.sub fun id o ho => hin ho
    refine (astep_sound hF he hc hrV hnid hg hρ hs fun π' v' w' hv' hst => ?_)
    rw [hvn] at hst
    have hb' := Stp.beside (f := PF (Region.before ops) h0.next ops.size obj wr (addS S c) c') (by rw [hun]; exact hr) hVout (fun id hid => by
      obtain ⟨x, hx⟩ := Option.ne_none_iff_exists'.1 hid
      obtain ⟨L, hL, _⟩ := hr.obj id x (un_right (hsubPF id x hx))
      refine ⟨?_, fun e => by rw [e, hnid] at hL; cases hL⟩
      rcases Nat.lt_or_ge id (st c).g.next with h | h
      · exact h
      · rw [hr.lim id h] at hL; cases hL) hst
    rw [hun] at hb'
    refine hK π' c' _ w' (I.after D hi hSi hS' (by rw [hgs]; exact hb'.1) hv' (fun id hid => by rw [hgs]; exact hb'.2 id hid) ?_ ?_)
    · intro k hk hwk
      unfold addS
      rcases Nat.lt_trichotomy k c with h | h | h
      · rw [if_neg (by omega)]; exact I.cw k h hwk
      · rw [if_pos h]
      · rw [e3 k (by omega) hk] at hwk; cases hwk
    · refine e4.imp id fun ⟨g1, g2⟩ => ⟨g1, g2, ?_⟩
      unfold addS
      rw [if_neg (by omega)]
      cases e : S c' with
      | false => rfl
      | true =>
        obtain ⟨p, hp⟩ := DT.op g1
        have := D.chain I.dn c' g1 g2 (fun j hj => I.dn.before c' j p hp e hj) c (by omega) h1
        rw [hSi] at this; cases this
end
end Go.Proofs.Yteffhomollmpdaa.AM

/- A region in whatever order: the end. -/
namespace Go.Proofs.Yteffhomollmpdaa.AM
open Go
variable [Tok]
set_option linter.unusedVariables false
set_option linter.unusedSectionVars false
set_option linter.unusedSimpArgs false
theorem getD_lt {l : Array Bool} {i : Nat} (h : i < l.size) (a b : Bool) : l.getD i a = l.getD i b := by
  rw [Array.getD_eq_getD_getElem?, Array.getD_eq_getD_getElem?, Array.getElem?_eq_getElem h]
  rfl
def unl (n : Nat) (l : Array Bool) : Nat := ((List.range n).filter fun j => !l.getD j true).length
theorem set_listed {l : Array Bool} {i : Nat} (h : i < l.size) (b : Bool) (j : Nat) : (l.setIfInBounds i true).getD j b = if j = i then true else l.getD j b := by
  rw [Array.getD_eq_getD_getElem?, Array.getD_eq_getD_getElem?]
  by_cases e : j = i
  · subst e; rw [if_pos rfl, Array.getElem?_setIfInBounds_self_of_lt h]; rfl
  · rw [if_neg e, Array.getElem?_setIfInBounds_ne (Ne.symm e)]
theorem unl_set {l : Array Bool} {i : Nat} (h : i < l.size) (hi : l.getD i true = false) : unl l.size (l.setIfInBounds i true) < unl l.size l := by
  unfold unl
  have h1 : (List.range l.size).filter (fun j => !(l.setIfInBounds i true).getD j true) = ((List.range l.size).filter fun j => !l.getD j true).filter (fun j => decide (j ≠ i)) := by
    rw [List.filter_filter]
    congr 1
    funext j
    rw [set_listed h]
    by_cases e : j = i
    · simp [e]
    · simp [e]
  rw [h1]
  refine List.length_filter_lt_length_iff_exists.2 ⟨i, ?_, by simp⟩
  rw [List.mem_filter]
  exact ⟨List.mem_range.2 h, by rw [hi]; rfl⟩
theorem unl_zero {n : Nat} {l : Array Bool} (h : unl n l = 0) {j : Nat} (hj : j < n) : l.getD j true = true := by
  cases e : l.getD j true with
  | true => rfl
  | false =>
    have : j ∈ (List.range n).filter fun j => !l.getD j true := List.mem_filter.2 ⟨List.mem_range.2 hj, by rw [e]; rfl⟩
    unfold unl at h
    rw [List.length_eq_zero_iff] at h
    rw [h] at this; cases this
section
variable {P : Program} {G N : Nat} {E : Env} {callf : CallF} {ops : Array Oper} {a0 : AAct} {h0 : AHeap} {st : Nat → DSt} {val : Nat → Value} {obj : Nat → Option AObj} {wr : Nat → Bool} {π0 : Pi} {w0 : World} {Q : Exit → Act → World → Prop} {F : Fence} {fu : Nat} {ds : List Deferred}
theorem mem_ready {l : Array Bool} {i : Nat} (h : i ∈ Region.ready .any ops l) : i < ops.size ∧ l.getD i true = false ∧ ∃ o, ops[i]? = some o ∧ ∀ e ∈ o.after.toList, Region.binds .any e = true → l.getD e.on false = true := by
  unfold Region.ready at h
  rw [List.mem_filter, List.mem_range, Bool.and_eq_true] at h
  obtain ⟨h1, h2, h3⟩ := h
  refine ⟨h1, by simpa using h2, _, Array.getElem?_eq_getElem h1, ?_⟩
  rw [Array.getElem?_eq_getElem h1] at h3
  simp only [Option.map_some, Option.getD_some, Array.all_eq_true'] at h3
  intro e he hb
  have := h3 e (by simpa using he)
  simpa [hb] using this
theorem ready_nil (hd : EdgesDown ops) {l : Array Bool} (hl : l.size = ops.size) (h : Region.ready .any ops l = []) : ∀ j, j < ops.size → l.getD j true = true := by
  intro j
  induction j using Nat.strongRecOn with
  | _ j ih =>
    intro hj
    cases e : l.getD j true with
    | true => rfl
    | false =>
      exfalso
      have : j ∈ Region.ready .any ops l := by
        unfold Region.ready
        rw [List.mem_filter, List.mem_range, Bool.and_eq_true]
        refine ⟨hj, by rw [e]; rfl, ?_⟩
        rw [Array.getElem?_eq_getElem hj]
        simp only [Option.map_some, Option.getD_some, Array.all_eq_true']
        intro e he
        cases hb : Region.binds .any e with
        | false => simp
        | true =>
          have hlt := hd j _ (Array.getElem?_eq_getElem hj) e (by simpa using he) hb
          rw [getD_lt (by omega) false true, ih e.on hlt (by omega)]
          rfl
      rw [h] at this; cases this
theorem DI.done {S : Nat → Bool} {c : Nat} {π : Pi} {act : Act} {w : World} (D : DT E callf ops h0.next a0 h0 st val obj wr) (I : DI ds N ops a0 h0 st val obj wr π0 w0 S c π act w) (hall : ∀ j, j < ops.size → S j = true) :
    AR ds π (st ops.size).a act ∧ Stp π0 N h0.get h0.next w0 π (gvis (fun _ => true) h0.next (st ops.size).g (st ops.size).p).get (gvis (fun _ => true) h0.next (st ops.size).g (st ops.size).p).next w h0.next := by
  have hc : c = ops.size := by
    rcases I.cn with h | ⟨h1, h2, h3⟩
    · exact h
    · rw [hall c h1] at h3; cases h3
  subst hc
  constructor
  · refine I.ar.congr (by rw [D.a_eq _ (Nat.le_refl _), putsOf_n, putsOf_n]) fun t => ?_
    rw [D.a_eq _ (Nat.le_refl _)]
    exact putsOf_same ops val _ _ a0 t ops.size fun j o hj _ _ => (hall j hj).symm
  · rw [gvis_next]
    refine I.stp.sub fun id x hx => ?_
    by_cases hex : ∃ j y, (j, y) ∈ (st ops.size).p ∧ id = h0.next + j
    · obtain ⟨j, y, h1, rfl⟩ := hex
      have hm := (D.p_mem ops.size (Nat.le_refl _) j y).1 h1
      have := gvis_in (fun _ => true) h0.next (st ops.size).g rfl (p := (st ops.size).p) (x := y) (fun z hz => by
        have := (D.p_mem ops.size (Nat.le_refl _) j z).1 hz
        rw [hm.2.1] at this; exact (Option.some.inj this.2.1).symm) h1
      rw [this] at hx
      injection hx with hx
      subst hx
      exact un_right (PF_iff.2 ⟨j, rfl, hm.1, hall j hm.1, hm.2.2, hm.2.1⟩)
    · rw [gvis_out (fun _ => true) h0.next (st ops.size).g id (p := (st ops.size).p) fun j y h1 _ h3 => hex ⟨j, y, h1, h3⟩] at hx
      exact un_left I.dis hx
theorem DI.go (hF : FOk F) (D : DT E callf ops h0.next a0 h0 st val obj wr) (he : EOk P G N E) (hc : CallsOk P G N callf) (hok : ops.toList.all (okOp G) = true) (hg0 : GR G π0)
    (hQ : ∀ π' c' w', AR ds π' (st ops.size).a c' → Stp π0 N h0.get h0.next w0 π' (gvis (fun _ => true) h0.next (st ops.size).g (st ops.size).p).get (gvis (fun _ => true) h0.next (st ops.size).g (st ops.size).p).next w' h0.next → Q .normal c' w') :
    ∀ (fuel : Nat) (l : Array Bool) (c : Nat) (π : Pi) (act : Act) (w : World), l.size = ops.size → unl ops.size l ≤ fuel → DI ds N ops a0 h0 st val obj wr π0 w0 (fun j => l.getD j false) c π act w → wpAnyIn F fu P .any ops Q fuel l act w
  | 0, l, c, π, act, w, hl, hu, I => by
    have hall : ∀ j, j < ops.size → l.getD j true = true := fun j hj => unl_zero (by omega) hj
    obtain ⟨h1, h2⟩ := I.done D fun j hj => by rw [getD_lt (by omega) false true]; exact hall j hj
    refine ⟨?_, hQ π act w h1 h2⟩
    cases hr : Region.ready .any ops l with
    | nil => rfl
    | cons i r =>
      obtain ⟨g1, g2, _⟩ := mem_ready (ops := ops) (l := l) (i := i) (by rw [hr]; exact .head _)
      rw [hall i g1] at g2; cases g2
  | fuel + 1, l, c, π, act, w, hl, hu, I => by
    constructor
    · intro hr
      have hall := ready_nil D.down hl hr
      obtain ⟨h1, h2⟩ := I.done D fun j hj => by rw [getD_lt (by omega) false true]; exact hall j hj
      exact hQ π act w h1 h2
    · intro i hi
      obtain ⟨g1, g2, o, g3, g4⟩ := mem_ready hi
      refine I.one hF D he hc hok hg0 g3 (by rw [getD_lt (by omega) false true]; exact g2) g4 fun π' c' act' w' I' => ?_
      refine DI.go hF D he hc hok hg0 hQ fuel (l.setIfInBounds i true) c' π' act' w' (by simpa using hl) ?_ ?_
      · have := unl_set (l := l) (i := i) (by omega) g2
        rw [hl] at this
        omega
      · have : (fun j => (l.setIfInBounds i true).getD j false) = addS (fun j => l.getD j false) i := by
          funext j
          rw [set_listed (by omega)]
          rfl
        rw [this]
        exact I'
theorem putsOf_none (ops : Array Oper) (val : Nat → Value) (a : AAct) : ∀ k, putsOf ops val (fun _ => false) k a = a
  | 0 => rfl
  | k + 1 => by
    rw [putsOf, putsOf_none ops val a k]
    split
    · rfl
    · rfl
theorem draws0_sound (hF : FOk F) (hm : P.follows .mixedOrders = true) (he : EOk P G N E) (hc : CallsOk P G N callf) (id : Nat) (ops : Array Oper) (a a' : AAct) (h h' : AHeap) (π : Pi) (w : World) (c : Act) (hs : adraw0 E callf ops a h = some (a', h')) (hok : ops.toList.all (okOp G) = true) (hg : GR G π) (hr : HR π N h.get h.next w) (ha : AR ds π a c) :
    (Code.region id ops true).wpIn F fu P (RegPost N ds π h w a' h') c w := by
  obtain ⟨st, val, obj, wr, D, rfl, rfl⟩ := adraw_dt hs
  refine wpIn_region_any hm ?_
  have hr1 : HR π N h.get h.next { w with drawn := w.drawn + 1 } := ⟨fun id o ho => let ⟨L, h1, h2⟩ := hr.obj id o ho; ⟨L, h1, h2.mono (Pi.le.refl π) rfl⟩, hr.sep, hr.lim, ⟨hr.base.le, hr.base.low⟩⟩
  obtain ⟨c0, e1, e2, e3, e4⟩ := next_writer wr ops.size ops.size 0 (by omega)
  have hgs : (st c0).g = ⟨h.t, h.next + ops.size⟩ := by
    have := D.g_same 0 c0 (by omega) fun m m1 m2 => e3 m m1 (by omega)
    rw [Nat.zero_add] at this
    rw [this, D.s0]
  have hS : (fun j => (Array.replicate ops.size false).getD j false) = fun _ => false := by
    funext j
    rw [Array.getD_eq_getD_getElem?, Array.getElem?_replicate]
    split <;> rfl
  have hPF : PF (Region.before ops) h.next ops.size obj wr (fun _ => false) c0 = fun _ => none := by
    funext id
    refine opt_ext fun x => ?_
    rw [PF_iff]
    constructor
    · rintro ⟨j, _, _, h3, _⟩; cases h3
    · intro h; cases h
  have hu : un h.get (fun _ => none) = h.get := by funext id; rfl
  refine DI.go hF (w0 := w) D he hc hok hg (fun π' c' w' h1 h2 => ⟨rfl, π', h1, h2⟩) ops.size _ c0 π c _ (by simp) ?_ ?_
  · unfold unl
    exact Nat.le_trans (List.length_filter_le _ _) (by simp)
  · rw [hS]
    refine ⟨fun i o _ h => absurd h (by simp), (by rw [putsOf_none]; exact ha), ?_, fun j _ _ => hr.lim _ (by omega), fun id hid => absurd (by rw [hPF]) hid, (by rw [hgs]; exact Nat.le_refl _), fun k hk hwk => (by rw [e3 k (by omega) hk] at hwk; cases hwk), e4.imp (fun g => g) fun g => ⟨g.1, g.2, rfl⟩⟩
    rw [hPF, hgs]
    have hge : AHeap.get ⟨h.t, h.next + ops.size⟩ = h.get := rfl
    rw [hge, hu]
    exact ⟨Pi.le.refl π, fun _ h _ _ => h, ⟨hr1.obj, hr1.sep, fun id hid => hr.lim id (by simp only at hid; omega), hr1.base⟩, by simp, rfl, rfl, rfl, Nat.le_refl _, fun _ _ _ => rfl, fun _ h => .inl h, fun _ o h => .inl ⟨o, h⟩⟩
end
end Go.Proofs.Yteffhomollmpdaa.AM

/- A map that is laid with its entries in whatever order: its stages. -/
namespace Go.Proofs.Yteffhomollmpdaa.AM
open Go
variable [Tok]
set_option linter.unusedVariables false
set_option linter.unusedSectionVars false
set_option linter.unusedSimpArgs false
section
variable {E : Env} {callf : CallF} {ops : Array Oper} {base : Nat} {a0 : AAct} {st : Nat → MSt} {val : Nat → Value} {pr : Nat → Option (Value × Value)} {ds : List Deferred}
def MCase (E : Env) (callf : CallF) (b : Array Nat) (base i : Nat) (o : Oper) (s s' : MSt) (v : Value) (p : Option (Value × Value)) : Prop :=
  s'.a = s.a.put o.dst v ∧ o.guard = none ∧
  (((∃ t, o.op = .makeMap t none) ∧ s.m = none ∧ s'.m = some i ∧ v = .map (some (base + i)) ∧ p = none ∧ s'.ps = s.ps) ∨
   (∃ j t mx kx x kt et z1 z2 z3, o.op = .insert t mx kx x ∧ s.m = some j ∧ s'.m = some j ∧ aev s.a mx = .map (some (base + j)) ∧ E.T.get t = some ⟨.map kt et, z1, z2, z3⟩ ∧ isIn b j i = true ∧ isKey E.T kt (aev s.a kx) = true ∧ v = undef ∧ p = some (aev s.a kx, aev s.a x) ∧ s'.ps = s.ps ++ [(i, aev s.a kx, aev s.a x)]) ∨
   (pureOp o.op = true ∧ (∃ h h', astep E callf s.a h 0 o = some (v, h')) ∧ s'.m = s.m ∧ p = none ∧ s'.ps = s.ps))
theorem mstep_case {b : Array Nat} {i : Nat} {o : Oper} {s s' : MSt} (h : mstep E callf b base o i s = some s') : ∃ v p, MCase E callf b base i o s s' v p := by
  unfold mstep at h
  split at h
  · cases h
  · rename_i hgd
    split at h
    · rename_i t hop hm
      simp only [Option.some.injEq] at h
      subst h
      exact ⟨_, none, rfl, hgd, .inl ⟨⟨_, hop⟩, hm, rfl, rfl, rfl, rfl⟩⟩
    · rename_i t mx kx x j hop hm
      split at h
      · rename_i id kt et _ _ _ hmx hT
        rw [Bool.cond_eq_ite] at h
        split at h
        · rename_i hc
          simp only [Bool.and_eq_true, beqd, decide_eq_true_eq] at hc
          obtain ⟨⟨rfl, hin⟩, hkey⟩ := hc
          simp only [Option.some.injEq] at h
          subst h
          exact ⟨_, _, rfl, hgd, .inr (.inl ⟨j, t, mx, kx, x, kt, et, _, _, _, hop, hm, rfl, hmx, hT, hin, hkey, rfl, rfl, rfl⟩)⟩
        · cases h
      · cases h
    · rw [Bool.cond_eq_ite] at h
      split at h
      · rename_i hpu
        split at h
        · rename_i v h' hs
          simp only [Option.some.injEq] at h
          subst h
          exact ⟨v, none, rfl, hgd, .inr (.inr ⟨hpu, ⟨_, _, hs⟩, rfl, rfl, rfl⟩)⟩
        · cases h
      · cases h
theorem mgo_trace {b : Array Nat} : ∀ (l : List Oper) (k : Nat) (s sf : MSt), mgo E callf b base (l.zipIdx k) s = some sf →
    ∃ st : Nat → MSt, st k = s ∧ st (k + l.length) = sf ∧ ∀ (i : Nat) (o : Oper), l[i]? = some o → mstep E callf b base o (k + i) (st (k + i)) = some (st (k + i + 1))
  | [], k, s, sf, h => by
    simp only [List.zipIdx_nil, mgo, Option.some.injEq] at h
    exact ⟨fun _ => s, rfl, h, fun i o ho => by simp at ho⟩
  | o :: l, k, s, sf, h => by
    simp only [List.zipIdx_cons, mgo] at h
    split at h
    · rename_i s' hs
      obtain ⟨st, h1, h2, h3⟩ := mgo_trace l (k + 1) s' sf h
      refine ⟨fun m => if m ≤ k then s else st m, by simp, ?_, ?_⟩
      · show (if k + (o :: l).length ≤ k then s else st (k + (o :: l).length)) = sf
        rw [if_neg (by simp), ← h2]; congr 1; simp; omega
      · intro i p hp
        cases i with
        | zero =>
          simp only [List.getElem?_cons_zero, Option.some.injEq] at hp
          subst hp
          show mstep E callf b base o (k + 0) (if k + 0 ≤ k then s else st (k + 0)) = some (if k + 0 + 1 ≤ k then s else st (k + 0 + 1))
          rw [if_pos (by omega), if_neg (by omega)]
          simp only [Nat.add_zero, h1]; exact hs
        | succ i =>
          have := h3 i p (by simpa using hp)
          show mstep E callf b base p (k + (i + 1)) (if k + (i + 1) ≤ k then s else st (k + (i + 1))) = some (if k + (i + 1) + 1 ≤ k then s else st (k + (i + 1) + 1))
          rw [if_neg (by omega), if_neg (by omega)]
          rw [show k + (i + 1) = k + 1 + i by omega]
          exact this
    · cases h
structure MT (E : Env) (callf : CallF) (ops : Array Oper) (base : Nat) (a0 : AAct) (st : Nat → MSt) (val : Nat → Value) (pr : Nat → Option (Value × Value)) (mI : Nat) : Prop where
  s0 : st 0 = ⟨a0, none, []⟩
  step : ∀ i o, ops[i]? = some o → MCase E callf (Region.before ops) base i o (st i) (st (i + 1)) (val i) (pr i)
  down : EdgesDown ops
  tmps : ∀ i j o p, i < j → ops[i]? = some o → ops[j]? = some p → clash ops o p = true → isIn (Region.before ops) i j = true
  m : (st ops.size).m = some mI
  keys : ∀ i j p q, i ≠ j → i < ops.size → j < ops.size → pr i = some p → pr j = some q → keyEq p.1 q.1 = some false
variable {mI : Nat}
theorem MT.a_eq (D : MT E callf ops base a0 st val pr mI) : ∀ k, k ≤ ops.size → (st k).a = putsOf ops val (fun _ => true) k a0
  | 0, _ => by rw [D.s0]; rfl
  | k + 1, h => by
    obtain ⟨o, ho⟩ := DT.op (show k < ops.size by omega)
    rw [(D.step k o ho).1, D.a_eq k (by omega)]
    simp only [putsOf, ho, if_true]
theorem MT.look (D : MT E callf ops base a0 st val pr mI) {S : Nat → Bool} (hS : Down ops S) {i : Nat} {o : Oper} (ho : ops[i]? = some o) (hi : S i = false) (hb : ∀ j, isIn (Region.before ops) j i = true → S j = true) {t : Nat} (ht : t ∈ looks ops o) :
    (st i).a.at t = (putsOf ops val S ops.size a0).at t := by
  have hsz : i < ops.size := (Array.getElem?_eq_some_iff.1 ho).1
  rw [D.a_eq i (by omega)]
  have h1 : (putsOf ops val (fun _ => true) i a0).at t = (putsOf ops val (fun j => decide (j < i)) i a0).at t := putsOf_same ops val _ _ a0 t i fun j p hj _ _ => by simp [hj]
  rw [h1]
  have h2 := putsOf_upto ops val a0 i (ops.size - i)
  rw [show i + (ops.size - i) = ops.size by omega] at h2
  rw [← h2]
  refine putsOf_same ops val _ _ a0 t ops.size fun j p hj hp hd => ?_
  rcases Nat.lt_trichotomy j i with h3 | rfl | h3
  · rw [decide_eq_true h3, hb j (D.tmps j i p o h3 hp ho (clash_wr hd ht))]
  · simp [hi]
  · have h4 := D.tmps i j o p h3 ho hp (clash_rw hd ht)
    cases hSj : S j with
    | false => simp; omega
    | true =>
      have := hS.before j i p hp hSj h4
      rw [hi] at this; cases this
theorem MT.puts (D : MT E callf ops base a0 st val pr mI) {S : Nat → Bool} (hS : Down ops S) {i : Nat} {o : Oper} (ho : ops[i]? = some o) (hi : S i = false) {π : Pi} {c : Act} (h : AR ds π ((putsOf ops val S ops.size a0).put o.dst (val i)) c) :
    AR ds π (putsOf ops val (addS S i) ops.size a0) c := by
  have hsz : i < ops.size := (Array.getElem?_eq_some_iff.1 ho).1
  refine h.congr (by rw [put_n, putsOf_n, putsOf_n]) fun t => putsOf_more ops val S a0 i o ho hi t ops.size hsz fun j p h1 h2 hp hd hod => ?_
  have h4 := D.tmps i j o p h1 ho hp (clash_ww hod hd)
  cases hSj : S j with
  | false => rfl
  | true =>
    have := hS.before j i p hp hSj h4
    rw [hi] at this; cases this
/-- the map's place -/
theorem MT.m_at (D : MT E callf ops base a0 st val pr mI) : ∀ d k, k + d = ops.size → ∀ j, (st k).m = some j → j = mI
  | 0, k, h, j, hj => by
    have := D.m
    rw [show ops.size = k by omega, hj] at this
    exact (Option.some.inj this)
  | d + 1, k, h, j, hj => by
    obtain ⟨o, ho⟩ := DT.op (show k < ops.size by omega)
    refine D.m_at d (k + 1) (by omega) j ?_
    rcases (D.step k o ho).2.2 with ⟨_, h1, _⟩ | ⟨j', t, mx, kx, x, kt, et, z1, z2, z3, _, h1, h2, _⟩ | ⟨_, _, h1, _⟩
    · rw [h1] at hj; cases hj
    · rw [h2, ← h1]; exact hj
    · rw [h1]; exact hj
theorem MT.ps_at (D : MT E callf ops base a0 st val pr mI) : ∀ k, k ≤ ops.size → (st k).ps = (List.range k).filterMap fun i => (pr i).map fun p => (i, p)
  | 0, _ => by rw [D.s0]; rfl
  | k + 1, h => by
    obtain ⟨o, ho⟩ := DT.op (show k < ops.size by omega)
    have ih := D.ps_at k (by omega)
    rw [List.range_succ, List.filterMap_append, ← ih]
    rcases (D.step k o ho).2.2 with ⟨_, _, _, _, h1, h2⟩ | ⟨j', t, mx, kx, x, kt, et, z1, z2, z3, _, _, _, _, _, _, _, _, h1, h2⟩ | ⟨_, _, _, h1, h2⟩
    · rw [h2]; simp [h1]
    · rw [h2]; simp [h1]
    · rw [h2]; simp [h1]
theorem addS_ne {S : Nat → Bool} {i j : Nat} (h : j ≠ i) : addS S i j = S j := by unfold addS; rw [if_neg h]
theorem addS_self {S : Nat → Bool} {i : Nat} : addS S i i = true := by unfold addS; rw [if_pos rfl]
theorem fm_congr {α β : Type} {f g : α → Option β} : ∀ {l : List α}, (∀ x ∈ l, f x = g x) → l.filterMap f = l.filterMap g
  | [], _ => rfl
  | x :: l, h => by rw [List.filterMap_cons, List.filterMap_cons, h x (.head _), fm_congr fun y hy => h y (.tail _ hy)]
/-- the entries so far -/
def pairs (pr : Nat → Option (Value × Value)) (S : Nat → Bool) (n : Nat) : List (Value × Value) := (List.range n).filterMap fun i => if S i = true then pr i else none
theorem pairs_mem {S : Nat → Bool} {n : Nat} {p : Value × Value} (h : p ∈ pairs pr S n) : ∃ i, i < n ∧ S i = true ∧ pr i = some p := by
  unfold pairs at h
  obtain ⟨i, h1, h2⟩ := List.mem_filterMap.1 h
  split at h2
  · exact ⟨i, List.mem_range.1 h1, by assumption, h2⟩
  · cases h2
theorem pairs_none {S : Nat → Bool} {i : Nat} (h : pr i = none) : ∀ n, pairs pr (addS S i) n = pairs pr S n := by
  intro n
  unfold pairs
  congr 1
  funext j
  unfold addS
  by_cases e : j = i
  · subst e; simp [h]
  · rw [if_neg e]
theorem pairs_more {S : Nat → Bool} {i : Nat} {p : Value × Value} (h : pr i = some p) (hi : S i = false) : ∀ n, i < n → (pairs pr (addS S i) n).Perm (pairs pr S n ++ [p])
  | 0, hn => by omega
  | n + 1, hn => by
    unfold pairs
    rw [List.range_succ, List.filterMap_append, List.filterMap_append]
    by_cases e : i = n
    · subst e
      have h1 : (List.range i).filterMap (fun j => if addS S i j = true then pr j else none) = (List.range i).filterMap fun j => if S j = true then pr j else none := by
        refine fm_congr fun j hj => ?_
        have := List.mem_range.1 hj
        rw [addS_ne (by omega)]
      rw [h1]
      simp [addS, h, hi]
    · have ih := pairs_more h hi n (by omega)
      unfold pairs at ih
      have h2 : (if addS S i n = true then pr n else none) = if S n = true then pr n else none := by
        rw [addS_ne (Ne.symm e)]
      have h3 : List.filterMap (fun j => if addS S i j = true then pr j else none) [n] = List.filterMap (fun j => if S j = true then pr j else none) [n] := by
        exact fm_congr fun j hj => by rw [List.mem_singleton.1 hj]; exact h2
      rw [h3]
      refine (ih.append_right _).trans ?_
      rw [List.append_assoc, List.append_assoc]
      exact List.Perm.append_left _ List.perm_append_comm
theorem mput_new {x u : Value} : ∀ {l : List (Value × Value)}, (∀ p ∈ l, keyEq x p.1 = some false) → mput l x u = some (l ++ [(x, u)])
  | [], _ => rfl
  | (k, v) :: r, h => by
    have h0 := h _ (.head _)
    simp only at h0
    simp only [mput, h0, mput_new fun p hp => h p (.tail _ hp)]
    rfl
end
theorem Stp.swap {π π' : Pi} {N nx nx' nid id : Nat} {g g' : AG} {o o' : AObj} {w w' : World} (h : Stp π N g nx w π' (upd g' id (some o)) nx' w' nid) (hO : ∀ L, OR π' N o L w' → OR π' N o' L w') (ho : o.rw = true) (ho' : o'.rw = true) :
    Stp π N g nx w π' (upd g' id (some o')) nx' w' nid := by
  have hself : upd g' id (some o) id = some o := by simp [upd]
  have conv : ∀ j p, upd g' id (some o') j = some p → ∃ q, upd g' id (some o) j = some q ∧ (p.rw = true ↔ q.rw = true) ∧ ∀ L, OR π' N q L w' → OR π' N p L w' := by
    intro j p hp
    by_cases e : j = id
    · subst e
      simp only [upd, if_pos] at hp
      injection hp with hp; subst hp
      exact ⟨o, hself, by rw [ho, ho'], hO⟩
    · have e1 : upd g' id (some o') j = g' j := by simp only [upd, if_neg e]
      rw [e1] at hp
      exact ⟨p, by simp only [upd, if_neg e]; exact hp, Iff.rfl, fun _ h => h⟩
  refine ⟨h.le, h.fresh, ⟨fun j p hp => ?_, fun i j p q L M hi hj hpr hqr hL hM hb => ?_, h.hr.lim, h.hr.base⟩, h.nxl, h.os, h.tape, h.output, h.size, h.blk, ?_, fun j p hp => ?_⟩
  · obtain ⟨q, h1, _, h2⟩ := conv j p hp
    obtain ⟨L, g1, g2⟩ := h.hr.obj j q h1
    exact ⟨L, g1, h2 L g2⟩
  · obtain ⟨p', h1, h2, _⟩ := conv i p hi
    obtain ⟨q', h3, h4, _⟩ := conv j q hj
    exact h.hr.sep i j p' q' L M h1 h3 (h2.1 hpr) (h4.1 hqr) hL hM hb
  · rintro b ⟨j, p, L, h1, h2, h3, h4⟩
    obtain ⟨q, g1, g2, _⟩ := conv j p h1
    exact h.own b ⟨j, q, L, g1, g2.1 h2, h3, h4⟩
  · obtain ⟨q, g1, _⟩ := conv j p hp
    exact h.dom j q g1
end Go.Proofs.Yteffhomollmpdaa.AM

/- A map that is laid with its entries in whatever order: it comes to what its own order comes to. The machine is sound. -/
namespace Go.Proofs.Yteffhomollmpdaa.AM
open Go
variable [Tok]
set_option linter.unusedVariables false
set_option linter.unusedSectionVars false
set_option linter.unusedSimpArgs false
theorem upd_upd (g : AG) (id : Nat) (a b : Option AObj) : upd (upd g id a) id b = upd g id b := by
  funext j
  unfold upd
  by_cases e : j = id <;> simp [e]
section
variable {P : Program} {G N : Nat} {E : Env} {callf : CallF} {ops : Array Oper} {a0 : AAct} {h0 : AHeap} {st : Nat → MSt} {val : Nat → Value} {pr : Nat → Option (Value × Value)} {mI : Nat} {π0 : Pi} {w0 : World} {Q : Exit → Act → World → Prop} {F : Fence} {fu : Nat} {ds : List Deferred}
theorem MT.m_src {base : Nat} (D : MT E callf ops base a0 st val pr mI) : ∀ k, k ≤ ops.size → ∀ j, (st k).m = some j → j < k ∧ ∃ o t, ops[j]? = some o ∧ o.op = .makeMap t none
  | 0, _, j, hj => by rw [D.s0] at hj; cases hj
  | k + 1, h, j, hj => by
    obtain ⟨o, ho⟩ := DT.op (show k < ops.size by omega)
    rcases (D.step k o ho).2.2 with ⟨⟨t, h1⟩, _, h2, _⟩ | ⟨j', t, mx, kx, x, kt, et, z1, z2, z3, _, h1, h2, _⟩ | ⟨_, _, h1, _⟩
    · rw [h2] at hj; injection hj with hj; subst hj
      exact ⟨by omega, o, t, ho, h1⟩
    · rw [h2] at hj; injection hj with hj; subst hj
      obtain ⟨q1, q2⟩ := D.m_src k (by omega) _ h1
      exact ⟨by omega, q2⟩
    · rw [h1] at hj
      obtain ⟨q1, q2⟩ := D.m_src k (by omega) _ hj
      exact ⟨by omega, q2⟩
structure MI (ds : List Deferred) (N : Nat) (ops : Array Oper) (a0 : AAct) (h0 : AHeap) (val : Nat → Value) (pr : Nat → Option (Value × Value)) (mI : Nat) (π0 : Pi) (w0 : World) (S : Nat → Bool) (π : Pi) (act : Act) (w : World) : Prop where
  dn : Down ops S
  ar : AR ds π (putsOf ops val S ops.size a0) act
  fr : ∀ j, j < ops.size → S j = false → π (h0.next + j) = none
  stp : (S mI = false ∧ Stp π0 N h0.get h0.next w0 π h0.get (h0.next + ops.size) w h0.next) ∨
    (S mI = true ∧ ∃ l, List.Perm l (pairs pr S ops.size) ∧ Stp π0 N h0.get h0.next w0 π (upd h0.get (h0.next + mI) (some (.map l))) (h0.next + ops.size) w h0.next)
theorem addS_down {S : Nat → Bool} {i : Nat} {o : Oper} (hS : Down ops S) (hi : ops[i]? = some o) (hb : ∀ e ∈ o.after.toList, Region.binds .any e = true → S e.on = true) : Down ops (addS S i) := by
  intro k p hp hk e hm hbd
  unfold addS at hk ⊢
  split
  · rfl
  · split at hk
    · rename_i e1 e2
      subst e2
      rw [hi] at hp; injection hp with hp; subst hp
      exact hb e hm hbd
    · exact hS k p hp hk e hm hbd
theorem MI.one (hF : FOk F) {S : Nat → Bool} {π : Pi} {act : Act} {w : World} {i : Nat} {o : Oper}
    (D : MT E callf ops h0.next a0 st val pr mI) (he : EOk P G N E) (hc : CallsOk P G N callf) (hok : ops.toList.all (okOp G) = true) (hg0 : GR G π0)
    (I : MI ds N ops a0 h0 val pr mI π0 w0 S π act w) (hi : ops[i]? = some o) (hSi : S i = false) (hb : ∀ e ∈ o.after.toList, Region.binds .any e = true → S e.on = true)
    {K : Act → World → Prop} (hK : ∀ π' act' w', MI ds N ops a0 h0 val pr mI π0 w0 (addS S i) π' act' w' → K act' w') : wpOpIn F fu P ops Q i K act w := by
  have hsz : i < ops.size := (Array.getElem?_eq_some_iff.1 hi).1
  have hbi : ∀ j, isIn (Region.before ops) j i = true → S j = true := fun j hj => free_before I.dn hi hb hj
  have hS' := addS_down I.dn hi hb
  have hle : π0.le π := by rcases I.stp with ⟨_, h⟩ | ⟨_, l, _, h⟩ <;> exact h.le
  have hg : GR G π := hg0.mono hle
  have hoko : okOp G o = true := List.all_eq_true.1 hok o (by
    have := Array.getElem?_eq_some_iff.1 hi
    rw [← this.2]; simp)
  have hρ : ∀ x ∈ o.op.operands, VR π (aev (st i).a x) (act.eval x) := by
    intro x hx
    have h1 := ops_sound hg I.ar hoko x hx
    have h2 : aev (st i).a x = aev (putsOf ops val S ops.size a0) x := by
      cases x with
      | tmp t =>
        refine D.look I.dn hi hSi hbi ?_
        unfold looks
        refine List.mem_append_left _ (List.mem_filterMap.2 ⟨.tmp t, by simpa using hx, rfl⟩)
      | _ => rfl
    rw [h2]; exact h1
  have hnid := I.fr i hsz hSi
  obtain ⟨_, hgd, hcase⟩ := D.step i o hi
  have hfr : ∀ {π' : Pi}, (∀ id, π id = none → id ≠ h0.next + i → id < h0.next + ops.size → π' id = none) → ∀ j, j < ops.size → addS S i j = false → π' (h0.next + j) = none := by
    intro π' hf j hj hs
    unfold addS at hs
    split at hs
    · cases hs
    · rename_i hne
      exact hf _ (I.fr j hj hs) (by omega) (by omega)
  unfold wpOpIn
  rw [hi]
  simp only
  have hwant : Region.wanted o (yielded ops act.tmps) = true := by unfold Region.wanted; rw [hgd]
  rw [hwant]
  simp only [if_true]
  have hmi : (st i).m = some mI → i ≠ mI := by
    rintro h rfl
    have := (D.m_src i (by omega) i h).1
    omega
  rcases hcase with ⟨⟨t, hop⟩, hm0, hm1, hv, hp, hps⟩ | ⟨j, t, mx, kx, x, kt, et, z1, z2, z3, hop, hm0, hm1, hmx, hT, hin, hkey, hv, hp, hps⟩ | ⟨hpu, ⟨q, q', hq⟩, hm, hp, hps⟩
  · have him : i = mI := D.m_at (ops.size - (i + 1)) (i + 1) (by omega) i hm1
    subst him
    rcases I.stp with ⟨_, hst⟩ | ⟨h1, _⟩
    · have hs : astep E callf (st i).a ⟨h0.t, h0.next + ops.size⟩ (h0.next + i) o = some (val i, (⟨h0.t, h0.next + ops.size⟩ : AHeap).new (h0.next + i) (.map [])) := by
        exact astep_of (by unfold astep0; rw [hop, hv]; rfl)
      have hempty : pairs pr S ops.size = [] := by
        cases hpp : pairs pr S ops.size with
        | nil => rfl
        | cons p r =>
          obtain ⟨j, j1, j2, j3⟩ := pairs_mem (pr := pr) (S := S) (n := ops.size) (p := p) (by rw [hpp]; exact .head _)
          obtain ⟨oj, hoj⟩ := DT.op j1
          rcases (D.step j oj hoj).2.2 with ⟨_, _, _, _, g, _⟩ | ⟨j', t, mx, kx, x, kt, et, z1, z2, z3, _, g1, g2, _, _, g3, _⟩ | ⟨_, _, _, g, _⟩
          · rw [g] at j3; cases j3
          · have := D.m_at (ops.size - j) j (by omega) j' g1
            subst this
            have := I.dn.before j j' oj hoj j2 g3
            rw [hSi] at this; cases this
          · rw [g] at j3; cases j3
      refine astep_sound hF he hc (h := ⟨h0.t, h0.next + ops.size⟩) hst.hr hnid hg hρ hs fun π' v' w' hv' hst' => ?_
      rw [get_new, next_new, if_pos (show h0.next + i < h0.next + ops.size by omega)] at hst'
      refine hK π' _ w' ⟨hS', D.puts I.dn hi hSi ((I.ar.mono hst'.le).put _ hv'), hfr hst'.fresh, .inr ⟨addS_self, [], ?_, hst.trans hst' (.inr (by omega))⟩⟩
      rw [pairs_none hp, hempty]
    · rw [hSi] at h1; cases h1
  · have hj := D.m_at (ops.size - i) i (by omega) j hm0
    subst hj
    have hSm := hbi j hin
    have hne := hmi hm0
    rcases I.stp with ⟨h1, _⟩ | ⟨_, l, hl, hst⟩
    · rw [hSm] at h1; cases h1
    · have hget : (AHeap.get ⟨h0.t.put (h0.next + j) (some (.map l)), h0.next + ops.size⟩) = upd h0.get (h0.next + j) (some (.map l)) := by
        funext id; simp only [AHeap.get, Tr.get_put, upd]
      have hmp : mput l (aev (st i).a kx) (aev (st i).a x) = some (l ++ [(aev (st i).a kx, aev (st i).a x)]) := by
        refine mput_new fun p hpm => ?_
        obtain ⟨j', j1, j2, j3⟩ := pairs_mem (hl.mem_iff.1 hpm)
        have := D.keys i j' _ _ (by rintro rfl; rw [hSi] at j2; cases j2) hsz j1 hp j3
        exact this
      have hs : astep E callf (st i).a ⟨h0.t.put (h0.next + j) (some (.map l)), h0.next + ops.size⟩ (h0.next + i) o = some (val i, (⟨h0.t.put (h0.next + j) (some (.map l)), h0.next + ops.size⟩ : AHeap).set (h0.next + j) (.map (l ++ [(aev (st i).a kx, aev (st i).a x)]))) := by
        refine astep_of ?_; unfold astep0; rw [hop, hv]
        simp only [aop, amapUpdate, hT, hmx, hkey, cond_true, hget, upd, if_true, hmp]
      refine astep_sound hF he hc (h := ⟨h0.t.put (h0.next + j) (some (.map l)), h0.next + ops.size⟩) (by rw [hget]; exact hst.hr) hnid hg hρ hs fun π' v' w' hv' hst' => ?_
      rw [get_set, hget, upd_upd] at hst'
      refine hK π' _ w' ⟨hS', D.puts I.dn hi hSi ((I.ar.mono hst'.le).put _ hv'), hfr hst'.fresh, .inr ⟨by rw [addS_ne (Ne.symm hne)]; exact hSm, _, ?_, hst.trans hst' (.inr (by omega))⟩⟩
      exact (hl.append_right _).trans (pairs_more hp hSi ops.size hsz).symm
  · have hne : mI ≠ i := by
      rintro rfl
      obtain ⟨_, o', t, h1, h2⟩ := D.m_src ops.size (Nat.le_refl _) mI D.m
      rw [hi] at h1; injection h1 with h1; subst h1
      rw [h2] at hpu; cases hpu
    rcases I.stp with ⟨h1, hst⟩ | ⟨h1, l, hl, hst⟩
    · have hs := pure_any (h2 := ⟨h0.t, h0.next + ops.size⟩) (nid2 := h0.next + i) hpu hq
      refine astep_sound hF he hc (h := ⟨h0.t, h0.next + ops.size⟩) hst.hr hnid hg hρ hs fun π' v' w' hv' hst' => ?_
      exact hK π' _ w' ⟨hS', D.puts I.dn hi hSi ((I.ar.mono hst'.le).put _ hv'), hfr hst'.fresh, .inl ⟨by rw [addS_ne hne]; exact h1, hst.trans hst' (.inr (by omega))⟩⟩
    · have hget : (AHeap.get ⟨h0.t.put (h0.next + mI) (some (.map l)), h0.next + ops.size⟩) = upd h0.get (h0.next + mI) (some (.map l)) := by
        funext id; simp only [AHeap.get, Tr.get_put, upd]
      have hs := pure_any (h2 := ⟨h0.t.put (h0.next + mI) (some (.map l)), h0.next + ops.size⟩) (nid2 := h0.next + i) hpu hq
      refine astep_sound hF he hc (h := ⟨h0.t.put (h0.next + mI) (some (.map l)), h0.next + ops.size⟩) (by rw [hget]; exact hst.hr) hnid hg hρ hs fun π' v' w' hv' hst' => ?_
      rw [hget] at hst'
      exact hK π' _ w' ⟨hS', D.puts I.dn hi hSi ((I.ar.mono hst'.le).put _ hv'), hfr hst'.fresh, .inr ⟨by rw [addS_ne hne]; exact h1, l, by rw [pairs_none hp]; exact hl, hst.trans hst' (.inr (by omega))⟩⟩
theorem MI.done {S : Nat → Bool} {π : Pi} {act : Act} {w : World} (D : MT E callf ops h0.next a0 st val pr mI) (I : MI ds N ops a0 h0 val pr mI π0 w0 S π act w) (hall : ∀ j, j < ops.size → S j = true) :
    AR ds π (st ops.size).a act ∧ Stp π0 N h0.get h0.next w0 π (upd h0.get (h0.next + mI) (some (.fmap ((st ops.size).ps.map (·.2))))) (h0.next + ops.size) w h0.next := by
  have hmI : mI < ops.size := (D.m_src ops.size (Nat.le_refl _) mI D.m).1
  constructor
  · refine I.ar.congr (by rw [D.a_eq _ (Nat.le_refl _), putsOf_n, putsOf_n]) fun t => ?_
    rw [D.a_eq _ (Nat.le_refl _)]
    exact putsOf_same ops val _ _ a0 t ops.size fun j o hj _ _ => (hall j hj).symm
  · rcases I.stp with ⟨h1, _⟩ | ⟨_, l, hl, hst⟩
    · rw [hall mI hmI] at h1; cases h1
    · refine hst.swap (fun L hO => ?_) rfl rfl
      obtain ⟨g0, es, c, g1, g2, g3⟩ := hO
      refine ⟨g0, l, es, c, hl.trans ?_, g1, g2, g3⟩
      have : (st ops.size).ps.map (·.2) = pairs pr S ops.size := by
        rw [D.ps_at ops.size (Nat.le_refl _), List.map_filterMap]
        unfold pairs
        refine fm_congr fun j hj => ?_
        rw [hall j (List.mem_range.1 hj), if_pos rfl]
        cases pr j <;> rfl
      rw [this]
theorem MI.go (hF : FOk F) (D : MT E callf ops h0.next a0 st val pr mI) (he : EOk P G N E) (hc : CallsOk P G N callf) (hok : ops.toList.all (okOp G) = true) (hg0 : GR G π0)
    (hQ : ∀ π' c' w', AR ds π' (st ops.size).a c' → Stp π0 N h0.get h0.next w0 π' (upd h0.get (h0.next + mI) (some (.fmap ((st ops.size).ps.map (·.2))))) (h0.next + ops.size) w' h0.next → Q .normal c' w') :
    ∀ (fuel : Nat) (l : Array Bool) (π : Pi) (act : Act) (w : World), l.size = ops.size → unl ops.size l ≤ fuel → MI ds N ops a0 h0 val pr mI π0 w0 (fun j => l.getD j false) π act w → wpAnyIn F fu P .any ops Q fuel l act w
  | 0, l, π, act, w, hl, hu, I => by
    have hall : ∀ j, j < ops.size → l.getD j true = true := fun j hj => unl_zero (by omega) hj
    obtain ⟨h1, h2⟩ := I.done D fun j hj => by rw [getD_lt (by omega) false true]; exact hall j hj
    refine ⟨?_, hQ π act w h1 h2⟩
    cases hr : Region.ready .any ops l with
    | nil => rfl
    | cons i r =>
      obtain ⟨g1, g2, _⟩ := mem_ready (ops := ops) (l := l) (i := i) (by rw [hr]; exact .head _)
      rw [hall i g1] at g2; cases g2
  | fuel + 1, l, π, act, w, hl, hu, I => by
    constructor
    · intro hr
      have hall := ready_nil D.down hl hr
      obtain ⟨h1, h2⟩ := I.done D fun j hj => by rw [getD_lt (by omega) false true]; exact hall j hj
      exact hQ π act w h1 h2
    · intro i hi
      obtain ⟨g1, g2, o, g3, g4⟩ := mem_ready hi
      refine I.one hF D he hc hok hg0 g3 (by rw [getD_lt (by omega) false true]; exact g2) g4 fun π' act' w' I' => ?_
      refine MI.go hF D he hc hok hg0 hQ fuel (l.setIfInBounds i true) π' act' w' (by simpa using hl) ?_ ?_
      · have := unl_set (l := l) (i := i) (by omega) g2
        rw [hl] at this
        omega
      · have : (fun j => (l.setIfInBounds i true).getD j false) = addS (fun j => l.getD j false) i := by
          funext j
          rw [set_listed (by omega)]
          rfl
        rw [this]
        exact I'
theorem adrawM_mt {a a' : AAct} {h h' : AHeap} (hs : adrawM E callf ops a h = some (a', h')) :
    ∃ st val pr mI, MT E callf ops h.next a st val pr mI ∧ a' = (st ops.size).a ∧ h'.get = upd h.get (h.next + mI) (some (.fmap ((st ops.size).ps.map (·.2)))) ∧ h'.next = h.next + ops.size := by
  unfold adrawM at hs
  simp only at hs
  rw [Bool.cond_eq_ite] at hs
  split at hs
  · rename_i hc
    rw [Bool.and_eq_true] at hc
    split at hs
    · rename_i a1 j ps hgo
      rw [Bool.cond_eq_ite] at hs
      split at hs
      · rename_i hak
        simp only [Option.some.injEq, Prod.mk.injEq] at hs
        obtain ⟨rfl, rfl⟩ := hs
        obtain ⟨st, h1, h2, h3⟩ := mgo_trace ops.toList 0 _ _ hgo
        simp only [Nat.zero_add, Array.length_toList, Array.getElem?_toList] at h2 h3
        have hex : ∀ i, ∃ t : Value × Option (Value × Value), ∀ o, ops[i]? = some o → MCase E callf (Region.before ops) h.next i o (st i) (st (i + 1)) t.1 t.2 := by
          intro i
          cases ho : ops[i]? with
          | none => exact ⟨(undef, none), fun o e => by cases e⟩
          | some o =>
            obtain ⟨v, p, hcase⟩ := mstep_case (h3 i o ho)
            exact ⟨(v, p), fun q e => by injection e with e; subst e; exact hcase⟩
        have D0 : ∀ kk : (∀ i j p q, i ≠ j → i < ops.size → j < ops.size → (Classical.choose (hex i)).2 = some p → (Classical.choose (hex j)).2 = some q → keyEq p.1 q.1 = some false), MT E callf ops h.next a st (fun i => (Classical.choose (hex i)).1) (fun i => (Classical.choose (hex i)).2) j := fun kk => by
          refine ⟨h1, fun i o ho => Classical.choose_spec (hex i) o ho, ?_, ?_, by rw [h2], kk⟩
          · intro i o ho e he hb
            have hm : (o, i) ∈ ops.toList.zipIdx := by
              rw [List.mem_zipIdx_iff_getElem?]
              simpa using ho
            have := List.all_eq_true.1 hc.2 _ hm
            simp only [Array.all_eq_true'] at this
            have := this e (by simpa using he)
            simp only [hb, Bool.not_true, Bool.false_or, bltd, decide_eq_true_eq] at this
            exact this
          · intro i j o p hij hi hj hcl
            have := tmpsOk_spec ops (Region.before ops) ops.toList 0 hc.1 i j o p hij (by simpa using hi) (by simpa using hj) hcl
            simpa using this
        have hps : ps = (List.range ops.size).filterMap fun i => ((Classical.choose (hex i)).2).map fun p => (i, p) := by
          have : ∀ k, k ≤ ops.size → (st k).ps = (List.range k).filterMap fun i => ((Classical.choose (hex i)).2).map fun p => (i, p) := by
            intro k
            induction k with
            | zero => intro _; rw [h1]; rfl
            | succ k ih =>
              intro hk
              obtain ⟨o, ho⟩ := DT.op (show k < ops.size by omega)
              rw [List.range_succ, List.filterMap_append, ← ih (by omega)]
              rcases (Classical.choose_spec (hex k) o ho).2.2 with ⟨_, _, _, _, g1, g2⟩ | ⟨j', t, mx, kx, x, kt, et, z1, z2, z3, _, _, _, _, _, _, _, _, g1, g2⟩ | ⟨_, _, _, g1, g2⟩
              · rw [g2]; simp [g1]
              · rw [g2]; simp [g1]
              · rw [g2]; simp [g1]
          have := this ops.size (Nat.le_refl _)
          rw [h2] at this
          exact this
        refine ⟨st, _, _, j, D0 ?_, by rw [h2], ?_, rfl⟩
        · intro i i' p q hne hi hi' hp hq
          have m1 : (i, p) ∈ ps := by rw [hps]; exact List.mem_filterMap.2 ⟨i, List.mem_range.2 hi, by rw [hp]; rfl⟩
          have m2 : (i', q) ∈ ps := by rw [hps]; exact List.mem_filterMap.2 ⟨i', List.mem_range.2 hi', by rw [hq]; rfl⟩
          have := List.all_eq_true.1 (List.all_eq_true.1 hak _ m1) _ m2
          simp only [beqd, Bool.or_eq_true, decide_eq_true_eq] at this
          rcases this with e | e
          · exact absurd e hne
          · split at e
            · assumption
            · cases e
        · rw [h2]
          funext id
          simp only [AHeap.get, Tr.get_put, upd]
      · cases hs
    · cases hs
  · cases hs
theorem drawM_sound (hF : FOk F) (hm : P.follows .mixedOrders = true) (he : EOk P G N E) (hc : CallsOk P G N callf) (id : Nat) (ops : Array Oper) (a a' : AAct) (h h' : AHeap) (π : Pi) (w : World) (c : Act) (hs : adrawM E callf ops a h = some (a', h')) (hok : ops.toList.all (okOp G) = true) (hg : GR G π) (hr : HR π N h.get h.next w) (ha : AR ds π a c) :
    (Code.region id ops true).wpIn F fu P (RegPost N ds π h w a' h') c w := by
  obtain ⟨st, val, pr, mI, D, rfl, hh, hn⟩ := adrawM_mt hs
  refine wpIn_region_any hm ?_
  have hr1 : HR π N h.get h.next { w with drawn := w.drawn + 1 } := ⟨fun id o ho => let ⟨L, h1, h2⟩ := hr.obj id o ho; ⟨L, h1, h2.mono (Pi.le.refl π) rfl⟩, hr.sep, hr.lim, ⟨hr.base.le, hr.base.low⟩⟩
  have hS : (fun j => (Array.replicate ops.size false).getD j false) = fun _ => false := by
    funext j
    rw [Array.getD_eq_getD_getElem?, Array.getElem?_replicate]
    split <;> rfl
  refine MI.go hF (w0 := w) D he hc hok hg (fun π' c' w' h1 h2 => ⟨rfl, π', h1, by rw [hh, hn]; exact h2⟩) ops.size _ π c _ (by simp) ?_ ?_
  · unfold unl
    exact Nat.le_trans (List.length_filter_le _ _) (by simp)
  · rw [hS]
    refine ⟨fun i o _ h => absurd h (by simp), (by rw [putsOf_none]; exact ha), fun j _ _ => hr.lim _ (by omega), .inl ⟨rfl, ?_⟩⟩
    exact ⟨Pi.le.refl π, fun _ h _ _ => h, ⟨hr1.obj, hr1.sep, fun id hid => hr.lim id (by omega), hr1.base⟩, by simp, rfl, rfl, rfl, Nat.le_refl _, fun _ _ _ => rfl, fun _ h => .inl h, fun _ o h => .inl ⟨o, h⟩⟩
theorem draws_sound (hm : P.follows .mixedOrders = true) (he : EOk P G N E) (hc : CallsOk P G N callf) : DrawsOk P G N E callf := by
  intro F fu ds id ops a a' h h' π w c hF hs hok hg hr ha
  unfold adraw at hs
  rw [Bool.cond_eq_ite] at hs
  split at hs
  · exact drawM_sound hF hm he hc id ops a a' h h' π w c hs hok hg hr ha
  · exact draws0_sound hF hm he hc id ops a a' h h' π w c hs hok hg hr ha
/-- the machine is sound -/
theorem machine_sound (hm : P.follows .mixedOrders = true) (he : EOk P G N E) : ∀ n, CallsOk P G N (acall E n) :=
  acall_sound he fun callf hc => draws_sound hm he hc
end
end Go.Proofs.Yteffhomollmpdaa.AM

/- Closed runs: what the machine computes from nothing the program computes wherever it stands. -/
namespace Go.Proofs.Yteffhomollmpdaa.AM
open Go Go.RowKit
variable [Tok]
set_option linter.unusedVariables false
set_option linter.unusedSectionVars false
set_option linter.unusedSimpArgs false
section
variable {P : Program} {G N : Nat} {E : Env} {callf : CallF}
def noGo (fn : Func) : Bool := !(fn.name == "runtime.NumGoroutine")
def okFn (G : Nat) (fn : Func) : Bool := noGo fn && (match fn.body with | some c => okCode G c | none => true)
/-- a type whose nought the machine knows (a tuple with a struct in it is none) -/
def tiOk (P : Program) (t : Nat) : Option TI := match tiOf P t with | some i => bif pv i.zero then some i else none | none => none
/-- the machine's tables of a program -/
noncomputable def mk (P : Program) (X Y : Nat → Option Ext) (M : List (Nat × String × Nat × Option Nat)) (R : Nat → Bool) (Tb : Op → List Value → Option Value) : Env := ⟨Tr.ofOpt (tiOk P) P.types.size .nil, Tr.ofOpt (fun f => P.funcs[f]?) P.funcs.size .nil, X, Y, M, R, Tb⟩
def okT (P : Program) : Bool := true
def okF (P : Program) (G : Nat) : Bool := P.funcs.toList.all (okFn G)
theorem mk_t {X Y : Nat → Option Ext} {M : List (Nat × String × Nat × Option Nat)} {R : Nat → Bool} {Tb : Op → List Value → Option Value} (h : okT P = true) : TOk P (mk P X Y M R Tb).T := by
  have hget : ∀ t i, (mk P X Y M R Tb).T.get t = some i → tiOf P t = some i ∧ pv i.zero = true := by
    intro t i hi
    simp only [mk, Tr.get_ofOpt, Tr.get_nil] at hi
    split at hi
    · unfold tiOk at hi
      split at hi
      · rename_i j hj
        rw [Bool.cond_eq_ite] at hi
        split at hi
        · simp only [Option.some.injEq] at hi
          subst hi
          exact ⟨hj, by assumption⟩
        · cases hi
      · cases hi
    · cases hi
  exact ⟨fun t i hi => (hget t i hi).1, fun t i hi => (hget t i hi).2⟩
theorem mk_f {X Y : Nat → Option Ext} {M : List (Nat × String × Nat × Option Nat)} {R : Nat → Bool} {Tb : Op → List Value → Option Value} (h : okF P G = true) : ∀ k fn, (mk P X Y M R Tb).F.get k = some fn → P.funcs[k]? = some fn ∧ (fn.name == "runtime.NumGoroutine") = false ∧ ∀ c, fn.body = some c → okCode G c = true := by
  intro k fn hk
  simp only [mk, Tr.get_ofOpt, Tr.get_nil] at hk
  split at hk
  · have hm : fn ∈ P.funcs.toList := by
      rw [Array.mem_toList_iff]
      exact Array.mem_of_getElem? hk
    have := List.all_eq_true.1 h fn hm
    simp only [okFn, noGo, Bool.and_eq_true, Bool.not_eq_true'] at this
    refine ⟨hk, this.1, fun c hc => ?_⟩
    have h2 := this.2
    rw [hc] at h2
    exact h2
  · cases hk
/-- nothing but what the globals are -/
def piG (G : Nat) : Pi := fun id => if id < G then some ⟨id, 0, 0⟩ else none
theorem piG_gr : GR G (piG G) := fun g hg => ⟨0, by simp [piG, hg]⟩
theorem hr_nil {π : Pi} {nx : Nat} {w : World} (hl : ∀ id, nx ≤ id → π id = none) (hN : BaseOk N w) : HR π N (AHeap.get ⟨.nil, nx⟩) nx w :=
  ⟨fun id o h => (nomatch h), fun i j o p L M h => (nomatch h), hl, hN⟩
theorem own_nil {π : Pi} {nx b : Nat} : ¬ Own π (AHeap.get ⟨.nil, nx⟩) b := by rintro ⟨id, o, L, h, _⟩; cases h
/-- a run from nothing, wherever the program stands -/
theorem closed_call {n f : Nat} {b : Bool} {h' : AHeap} (hc : CallsOk P G N (acall E n)) (hrun : acall E n f [] ⟨.nil, G⟩ = some (.bool b, h')) (h : AHeap) : CallOk P G N f [] h (.bool b) h := by
  obtain ⟨hb, hcall⟩ := hc f [] ⟨.nil, G⟩ (.bool b) h' hrun
  refine ⟨hb, fun π w cargs hg hr hargs => ?_⟩
  have hg0 : GR G (fun id => if id < G then π id else none) := fun g hgl => by
    obtain ⟨m, hm⟩ := hg g hgl
    exact ⟨m, by simp only [hgl, if_true]; exact hm⟩
  refine (hcall (fun id => if id < G then π id else none) w cargs hg0 (hr_nil (fun id hid => if_neg (Nat.not_lt.2 hid)) hr.base) ?_).mono ?_
  · generalize cargs.toList = l at hargs
    cases hargs; exact .nil
  · rintro e w' ⟨π', v', rfl, hv, hst⟩
    have := hv.bool_inv
    subst this
    have hblk : ∀ b, b < w.heap.size → w'.heap[b]? = w.heap[b]? := fun b hb => hst.blk b hb own_nil
    refine ⟨π, _, rfl, .bool b, ⟨Pi.le.refl π, fun _ h _ _ => h, ⟨fun id o ho => ?_, hr.sep, hr.lim, hr.base.step hst.size (fun b hb => hblk b (Nat.lt_of_lt_of_le hb hr.base.le))⟩, Nat.le_refl _, hst.os, hst.tape, hst.output, hst.size, fun b hb _ => hblk b hb, fun _ h => .inl h, fun _ o h => .inl ⟨o, h⟩⟩⟩
    obtain ⟨L, h1, h2⟩ := hr.obj id o ho
    exact ⟨L, h1, h2.mono (Pi.le.refl π) (hblk _ h2.lt)⟩
/-- functions whose answer is known whatever there is: the answer true -/
noncomputable def trueX (fs : List Nat) : Nat → Option Ext := fun k => bif memN k fs then some (fun args h => match args with | [] => some (.bool true, h) | _ => none) else none
theorem trueX_ok {fs : List Nat} (h : ∀ f ∈ fs, ∀ h, CallOk P G N f [] h (.bool true) h) : ∀ k x, trueX fs k = some x → ∀ args h v h', x args h = some (v, h') → CallOk P G N k args h v h' := by
  intro k x hx args hh v h' hr
  unfold trueX at hx
  rw [Bool.cond_eq_ite] at hx
  split at hx
  · rename_i hm
    simp only [Option.some.injEq] at hx
    subst hx
    cases args with
    | cons a r => cases hr
    | nil =>
      simp only [Option.some.injEq, Prod.mk.injEq] at hr
      obtain ⟨rfl, rfl⟩ := hr
      unfold memN at hm
      rw [List.any_eq_true] at hm
      obtain ⟨y, hy, e⟩ := hm
      rw [beqd, decide_eq_true_eq] at e
      subst e
      exact h _ hy hh
  · cases hx
end
end Go.Proofs.Yteffhomollmpdaa.AM

/- What functions without a body answer. -/
namespace Go.Proofs.Yteffhomollmpdaa.AM
open Go
set_option linter.unusedVariables false
noncomputable section
/-! ### a builder -/
/-! ### strings.Join -/
/-! ### the keys of a map, in their order -/
end
end Go.Proofs.Yteffhomollmpdaa.AM

/- Functions without a body: what the machine answers for them is what the program's entries answer. -/
namespace Go.Proofs.Yteffhomollmpdaa.AM
open Go
variable [Tok]
set_option linter.unusedVariables false
set_option linter.unusedSectionVars false
set_option linter.unusedSimpArgs false
section
variable {P : Program} {G N : Nat} {w : World} {π : Pi}
end
end Go.Proofs.Yteffhomollmpdaa.AM

/- Calls that leave what there is as it is: strings.Join. -/
namespace Go.Proofs.Yteffhomollmpdaa.AM
open Go Go.RowKit
variable [Tok]
set_option linter.unusedVariables false
set_option linter.unusedSectionVars false
set_option linter.unusedSimpArgs false
section
variable {P : Program} {G N : Nat} {w w' : World} {π : Pi}
structure JoinOk (P : Program) (k : Nat) : Prop where
  body : Body P k
  none_ : ∀ (a : Option Addr) (c : Nat) (sep : ByteArray) (w : World), Calls P k #[.slice a 0 c, .string sep] w fun e w' => e = .returned (.string ⟨#[]⟩) ∧ w' = w
  one_ : ∀ (bk o c : Nat) (x sep : ByteArray) (w : World), w.cell? ⟨bk, o, none⟩ = some (.string x) → Calls P k #[.slice (some ⟨bk, o, none⟩) 1 c, .string sep] w fun e w' => e = .returned (.string x) ∧ w' = w
  many_ : ∀ (bk o c : Nat) (xs : List ByteArray) (sep : ByteArray) (w : World), (∀ (j : Nat) x, xs[j]? = some x → w.cell? ⟨bk, o + j, none⟩ = some (.string x)) → bk < w.heap.size → 2 ≤ xs.length → xs.length ≤ 140737488355328 → xs.length ≤ c →
    (Lib.join (xs.map (·.data.toList)) sep.data.toList).length ≤ 140737488355328 →
    Calls P k #[.slice (some ⟨bk, o, none⟩) xs.length c, .string sep] w fun e w' => e = .returned (.string ⟨(Lib.join (xs.map (·.data.toList)) sep.data.toList).toArray⟩) ∧ Below w.heap.size w w'
end
end Go.Proofs.Yteffhomollmpdaa.AM

/- Closed runs over laid tables. -/
namespace Go.Proofs.Yteffhomollmpdaa.AM
open Go Go.RowKit
variable [Tok]
set_option linter.unusedVariables false
set_option linter.unusedSectionVars false
set_option linter.unusedSimpArgs false
section
variable {P : Program} {G N : Nat} {E : Env}
end
end Go.Proofs.Yteffhomollmpdaa.AM

/- The machine once more, told so that the kernel reckons it fast; it is the same machine. -/
namespace Go.Proofs.Yteffhomollmpdaa.AM
open Go
set_option linter.unusedVariables false
set_option linter.unusedSectionVars false
set_option linter.unusedSimpArgs false
noncomputable section
abbrev R1 := Option (Value × AHeap)
abbrev StepF := Env → CallF → AAct → AHeap → Nat → R1
def rv (r : Option Value) (h : AHeap) : R1 := Option.rec (motive := fun _ => R1) none (fun x => some (x, h)) r
def ru (r : Option AHeap) : R1 := Option.rec (motive := fun _ => R1) none (fun h' => some (undef, h')) r
theorem rv_eq (r : Option Value) (h : AHeap) : rv r h = match r with | some x => some (x, h) | none => none := by cases r <;> rfl
theorem ru_eq (r : Option AHeap) : ru r = match r with | some h' => some (undef, h') | none => none := by cases r <;> rfl
def aevT (t : Nat) (a : AAct) : Value := a.at t
def aevC (v : Value) (_ : AAct) : Value := v
def aevG (g : Nat) (_ : AAct) : Value := .pointer (some ⟨g, 0, none⟩)
def aevU (f : Nat) (_ : AAct) : Value := .func (.func f) #[] #[]
def aevF (x : Operand) : AAct → Value := Operand.rec (motive := fun _ => AAct → Value) aevT aevC aevG aevU x
theorem aevF_eq (x : Operand) (a : AAct) : aevF x a = aev a x := by cases x <;> rfl
def fNone : StepF := fun _ _ _ _ _ => none
def fMove (x : Operand) : StepF := fun E _ a h nid => some (aevF x a, h)
def fPick (c x y : Operand) : StepF := fun E _ a h nid => match aevF c a with | .bool true => some (aevF x a, h) | .bool false => some (aevF y a, h) | _ => none
def fAlloc (e : Nat) : StepF := fun E _ a h nid => match E.T.get e with | some i => aneu h nid i.zero | none => none
def fBox (_ : Nat) (x : Operand) : StepF := fun E _ a h nid => aneu h nid (aevF x a)
def fBuild (t : Nat) (ps : Array (Nat × Operand)) : StepF := fun E _ a h nid => rv (abuild E.T t (ps.toList.map fun p => (p.1, aevF p.2 a))) h
def fBuildSlice (t len : Nat) (ps : Array (Nat × Operand)) : StepF := fun E _ a h nid => abuildSlice E.T h nid t len (ps.toList.map fun p => (p.1, aevF p.2 a))
def fInsert (t : Nat) (m k x : Operand) : StepF := fun E _ a h nid => ru (amapUpdate E.T h t (aevF m a) (aevF k a) (aevF x a))
def fLoad (t : Nat) (x : Operand) : StepF := fun E _ a h nid => rv (aload E.T h t (aevF x a)) h
def fStore (t : Nat) (x y : Operand) : StepF := fun E _ a h nid => ru (astore E.T h t (aevF x a) (aevF y a))
def fNone1 (_ : Nat) : StepF := fNone
def nilc (y : Value) (h : AHeap) : R1 := match y with
  | .pointer none | .nilIface | .nilFunc => none
  | .func (.method _) _ _ => none
  | .chan _ => none
  | y => some (y, h)
def fNilCheck (x : Operand) : StepF := fun E _ a h nid => nilc (aevF x a) h
def fBinOp (op : BinOp) (t : Nat) (x y : Operand) (_ : Nat) : StepF := fun E _ a h nid => rv (abin E.T h op t (aevF x a) (aevF y a)) h
def fUnOp (op : UnOp) (_ : Nat) (x : Operand) : StepF := fun E _ a h nid => rv (aun op (aevF x a)) h
def fConvert (s d : Nat) (x : Operand) : StepF := fun E _ a h nid => aconv E.T h nid s d (aevF x a)
def fNone2 (_ : Nat) (_ : Operand) : StepF := fNone
def fMkIface (t : Nat) (x : Operand) : StepF := fun E _ a h nid => match E.T.get t with
  | some ⟨.iface, _, _, _⟩ => none
  | some _ => some (.iface t (aevF x a), h)
  | none => none
def fMkFunc (fn : Fn) (first cap : Array Operand) : StepF := fun E _ a h nid => some (.func fn (first.map fun x => aevF x a) (cap.map fun x => aevF x a), h)
def fMkMap (_ : Nat) (r : Option Operand) : StepF := Option.rec (motive := fun _ => StepF) (fun E _ a h nid => some (.map (some nid), h.new nid (.map []))) (fun _ => fNone) r
def fMkSlice (t : Nat) (l c : Operand) : StepF := fun E _ a h nid => match E.T.get t, nat? (aevF l a), nat? (aevF c a) with
    | some ⟨.slice e, _, _, _⟩, some l, some c => match E.T.get e with
      | some i => bif Nat.ble l c && Nat.ble (c * (i.bytes + 1)) 281474976710656 && Nat.beq i.zero.cells.toList.length i.size then some (.slice (some ⟨nid, 0, none⟩) l c, h.new nid (.cells (reps i.zero.cells.toList c) true)) else none
      | none => none
    | _, _, _ => none
def fSlice (t : Nat) (x : Operand) (lo hi mx : Option Operand) : StepF := fun E _ a h nid => rv (aslice E.T h t (aevF x a) (lo.map fun x => aevF x a) (hi.map fun x => aevF x a) (mx.map fun x => aevF x a)) h
def fFieldAddr (s : Nat) (x : Operand) (f : Nat) : StepF := fun E _ a h nid => rv (afieldAddr E.T s (aevF x a) f) h
def fField (s : Nat) (x : Operand) (f : Nat) : StepF := fun E _ a h nid => rv (afield E.T s (aevF x a) f) h
def fIndexAddr (t : Nat) (x i : Operand) : StepF := fun E _ a h nid => rv (aindexAddr E.T t (aevF x a) (aevF i a)) h
def fIndex (t : Nat) (x i : Operand) : StepF := fun E _ a h nid => rv (aindex E.T t (aevF x a) (aevF i a)) h
def fLookup (t : Nat) (m k : Operand) (ok : Bool) : StepF := fun E _ a h nid => rv (alookup E.T h t (aevF m a) (aevF k a) ok) h
def fNone3 (_ : Nat) (_ _ : Operand) : StepF := fNone
def fNone4 (_ : Nat) (_ _ _ : Operand) : StepF := fNone
def fRange (t : Nat) (x : Operand) : StepF := fun E _ a h nid => match E.T.get t, aevF x a with
    | some ⟨.string, _, _, _⟩, .string s => some (.pointer (some ⟨nid, 0, none⟩), h.new nid (.siter s 0))
    | _, _ => none
def fNextT (it : Operand) : StepF := fun E _ a h nid => match aevF it a with
    | .pointer (some ⟨r, 0, none⟩) => match h.get r with
      | some (.siter s pos) => bif Nat.blt pos (bl s).length then
          some (.tuple #[.bool true, .int .i64 pos, .int .i32 (Utf8.decode s pos).1], h.set r (.siter s (pos + (Utf8.decode s pos).2)))
        else some (.tuple #[.bool false], h)
      | _ => none
    | _ => none
def fNext (it : Operand) (b : Bool) : StepF := Bool.rec (motive := fun _ => StepF) fNone (fNextT it) b
def fNoneO (_ : Operand) : StepF := fNone
def fAssert (x : Operand) (_ t : Nat) (ok : Bool) : StepF := fun E _ a h nid => match E.T.get t, aevF x a with
    | some ⟨.iface, _, _, _⟩, _ => none
    | some i, .iface u y => if u = t then some (bif ok then .tuple #[y, .bool true] else y, h) else bif ok then some (.tuple #[i.zero, .bool false], h) else none
    | _, _ => none
def fExtract (x : Operand) (i : Nat) : StepF := fun E _ a h nid => match aevF x a with | .tuple vs => rv vs.toList[i]? h | _ => none
def argsF (c : Call) (a : AAct) : List Value := c.args.toList.map fun x => aevF x a
def callG (E : Env) (callf : CallF) (g : Nat) (l : List Value) (h : AHeap) : R1 := Option.rec (motive := fun _ => R1) (callf g l h) (fun y => y l h) (E.Y g)
def fCallV (c : Call) (f : Operand) : StepF := Operand.rec (motive := fun _ => StepF)
  (fun t E callf a h nid => match a.at t with | .func (.func g) first cap => callG E callf g (first.toList ++ argsF c a ++ cap.toList) h | _ => none)
  (fun v E callf a h nid => match v with | .func (.func g) first cap => callG E callf g (first.toList ++ argsF c a ++ cap.toList) h | _ => none)
  (fun _ => fNone) (fun g E callf a h nid => callG E callf g (argsF c a) h) f
def fInvoke (c : Call) (r : Operand) (m : String) : StepF := fun E callf a h nid => match aevF r a with
      | .iface t v => match methodOf E.M t m with
        | some (g, none) => callf g (v :: argsF c a) h
        | some (g, some e) => match aload E.T h e v with
          | some x => callf g (x :: argsF c a) h
          | none => none
        | none => none
      | _ => none
def fBuiltin (c : Call) (b : Builtin) : StepF := fun E callf a h nid => abuiltin E.T h nid b c.argTypes.toList (argsF c a)
def fCall (c : Call) : StepF := Callee.rec (motive := fun _ => StepF) (fCallV c) (fInvoke c) (fBuiltin c) c.callee
def fNoneC (_ : Call) : StepF := fNone
def fNoneOO (_ _ : Operand) : StepF := fNone
def fNoneR (_ : Nat) (_ : Operand) (_ : Bool) : StepF := fNone
def fNoneS (_ : Array SelectCase) (_ : Bool) : StepF := fNone
def step0F (op : Op) : StepF := Op.rec (motive := fun _ => StepF) fMove fMove fPick fAlloc fBox fBuild fBuildSlice fInsert fLoad fStore fNone1 fNone1 fNilCheck fBinOp fUnOp fConvert fNone2 fMkIface fMkFunc fMkMap fNone2 fMkSlice fSlice fFieldAddr fField fIndexAddr fIndex fLookup fInsert fNone3 fNone4 fRange fNext fNoneO fAssert fExtract fCall fNoneC fNoneC fNoneO fNoneOO fNoneR fNoneS op
theorem map_aev (l : List Operand) (a : AAct) : (l.map fun x => aevF x a) = l.map (aev a) := by
  have hf : (fun x => aevF x a) = aev a := by funext x; exact aevF_eq x a
  rw [hf]
theorem argsF_eq (c : Call) (a : AAct) : argsF c a = c.args.toList.map (aev a) := map_aev _ a
theorem step0F_eq (E : Env) (callf : CallF) (a : AAct) (h : AHeap) (nid : Nat) (o : Oper) : step0F o.op E callf a h nid = astep0 E callf a h nid o := by
  have hf : (fun x => aevF x a) = aev a := by funext x; exact aevF_eq x a
  have hp : (fun p : Nat × Operand => (p.1, aevF p.2 a)) = fun p => (p.1, aev a p.2) := by funext p; rw [aevF_eq]
  obtain ⟨dst, op, ty, pos, after, guard⟩ := o
  cases op
  case call c =>
    obtain ⟨callee, args, argTypes⟩ := c
    cases callee with
    | value f =>
      cases f with
      | tmp t =>
        show (match a.at t with | .func (.func g) first cap => callG E callf g (first.toList ++ argsF _ a ++ cap.toList) h | _ => none) = _
        rw [argsF_eq]
        simp only [astep0, aev]
        cases a.at t <;> first | rfl | skip
        rename_i fn first cap
        cases fn <;> first | rfl | skip
        rename_i g
        simp only [callG]
        cases E.Y g <;> rfl
      | const v =>
        show (match v with | .func (.func g) first cap => callG E callf g (first.toList ++ argsF _ a ++ cap.toList) h | _ => none) = _
        rw [argsF_eq]
        simp only [astep0, aev]
        cases v <;> first | rfl | skip
        rename_i fn first cap
        cases fn <;> first | rfl | skip
        rename_i g
        simp only [callG]
        cases E.Y g <;> rfl
      | global g => rfl
      | func g =>
        show callG E callf g (argsF _ a) h = _
        rw [argsF_eq]
        simp only [astep0, aev, List.nil_append, List.append_nil, callG]
        cases E.Y g <;> rfl
    | invoke r m =>
      show fInvoke _ r m E callf a h nid = _
      simp only [fInvoke, argsF_eq, aevF_eq, astep0]
      rfl
    | builtin b =>
      show fBuiltin _ b E callf a h nid = _
      simp only [fBuiltin, argsF_eq, astep0]
  case move x =>
    show fMove x E callf a h nid = aop E.T (aev a) h nid (.move x)
    simp only [fMove, aop, aevF_eq, hp, hf, rv_eq, ru_eq]
    try rfl
  case assign x =>
    show fMove x E callf a h nid = aop E.T (aev a) h nid (.assign x)
    simp only [fMove, aop, aevF_eq, hp, hf, rv_eq, ru_eq]
    try rfl
  case pick c x y =>
    show fPick c x y E callf a h nid = aop E.T (aev a) h nid (.pick c x y)
    simp only [fPick, aop, aevF_eq, hp, hf, rv_eq, ru_eq]
    try rfl
  case box e x =>
    show fBox e x E callf a h nid = aop E.T (aev a) h nid (.box e x)
    simp only [fBox, aop, aevF_eq, hp, hf, rv_eq, ru_eq]
    try rfl
  case build t ps =>
    show fBuild t ps E callf a h nid = aop E.T (aev a) h nid (.build t ps)
    simp only [fBuild, aop, aevF_eq, hp, hf, rv_eq, ru_eq]
    try rfl
  case buildSlice t n ps =>
    show fBuildSlice t n ps E callf a h nid = aop E.T (aev a) h nid (.buildSlice t n ps)
    simp only [fBuildSlice, aop, aevF_eq, hp, hf, rv_eq, ru_eq]
    try rfl
  case insert t m k x =>
    show fInsert t m k x E callf a h nid = aop E.T (aev a) h nid (.insert t m k x)
    simp only [fInsert, aop, aevF_eq, hp, hf, rv_eq, ru_eq]
    try rfl
  case load t x =>
    show fLoad t x E callf a h nid = aop E.T (aev a) h nid (.load t x)
    simp only [fLoad, aop, aevF_eq, hp, hf, rv_eq, ru_eq]
    try rfl
  case store t x y =>
    show fStore t x y E callf a h nid = aop E.T (aev a) h nid (.store t x y)
    simp only [fStore, aop, aevF_eq, hp, hf, rv_eq, ru_eq]
    try rfl
  case nilCheck x =>
    show fNilCheck x E callf a h nid = aop E.T (aev a) h nid (.nilCheck x)
    simp only [fNilCheck, nilc, aop, aevF_eq, hp, hf, rv_eq, ru_eq]
    try rfl
  case binOp op t x y u =>
    show fBinOp op t x y u E callf a h nid = aop E.T (aev a) h nid (.binOp op t x y u)
    simp only [fBinOp, aop, aevF_eq, hp, hf, rv_eq, ru_eq]
    try rfl
  case unOp op t x =>
    show fUnOp op t x E callf a h nid = aop E.T (aev a) h nid (.unOp op t x)
    simp only [fUnOp, aop, aevF_eq, hp, hf, rv_eq, ru_eq]
    try rfl
  case convert s d x =>
    show fConvert s d x E callf a h nid = aop E.T (aev a) h nid (.convert s d x)
    simp only [fConvert, aop, aevF_eq, hp, hf, rv_eq, ru_eq]
    try rfl
  case makeInterface t x =>
    show fMkIface t x E callf a h nid = aop E.T (aev a) h nid (.makeInterface t x)
    simp only [fMkIface, aop, aevF_eq, hp, hf, rv_eq, ru_eq]
    try rfl
  case makeFunc fn f c =>
    show fMkFunc fn f c E callf a h nid = aop E.T (aev a) h nid (.makeFunc fn f c)
    simp only [fMkFunc, aop, aevF_eq, hp, hf, rv_eq, ru_eq]
    try rfl
  case makeSlice t l c =>
    show fMkSlice t l c E callf a h nid = aop E.T (aev a) h nid (.makeSlice t l c)
    simp only [fMkSlice, aop, aevF_eq, hp, hf, rv_eq, ru_eq]
    try rfl
  case slice t x lo hi mx =>
    show fSlice t x lo hi mx E callf a h nid = aop E.T (aev a) h nid (.slice t x lo hi mx)
    simp only [fSlice, aop, aevF_eq, hp, hf, rv_eq, ru_eq]
    try rfl
  case fieldAddr s x f =>
    show fFieldAddr s x f E callf a h nid = aop E.T (aev a) h nid (.fieldAddr s x f)
    simp only [fFieldAddr, aop, aevF_eq, hp, hf, rv_eq, ru_eq]
    try rfl
  case field s x f =>
    show fField s x f E callf a h nid = aop E.T (aev a) h nid (.field s x f)
    simp only [fField, aop, aevF_eq, hp, hf, rv_eq, ru_eq]
    try rfl
  case indexAddr t x i =>
    show fIndexAddr t x i E callf a h nid = aop E.T (aev a) h nid (.indexAddr t x i)
    simp only [fIndexAddr, aop, aevF_eq, hp, hf, rv_eq, ru_eq]
    try rfl
  case index t x i =>
    show fIndex t x i E callf a h nid = aop E.T (aev a) h nid (.index t x i)
    simp only [fIndex, aop, aevF_eq, hp, hf, rv_eq, ru_eq]
    try rfl
  case lookup t m k ok =>
    show fLookup t m k ok E callf a h nid = aop E.T (aev a) h nid (.lookup t m k ok)
    simp only [fLookup, aop, aevF_eq, hp, hf, rv_eq, ru_eq]
    try rfl
  case mapUpdate t m k x =>
    show fInsert t m k x E callf a h nid = aop E.T (aev a) h nid (.mapUpdate t m k x)
    simp only [fInsert, aop, aevF_eq, hp, hf, rv_eq, ru_eq]
    try rfl
  case range t x =>
    show fRange t x E callf a h nid = aop E.T (aev a) h nid (.range t x)
    simp only [fRange, aop, aevF_eq, hp, hf, rv_eq, ru_eq]
    try rfl
  case typeAssert x u t ok =>
    show fAssert x u t ok E callf a h nid = aop E.T (aev a) h nid (.typeAssert x u t ok)
    simp only [fAssert, aop, aevF_eq, hp, hf, rv_eq, ru_eq]
    try rfl
  case extract x i =>
    show fExtract x i E callf a h nid = aop E.T (aev a) h nid (.extract x i)
    simp only [fExtract, aop, aevF_eq, hp, hf, rv_eq, ru_eq]
    try rfl
  case makeMap t r => cases r <;> rfl
  case next it b =>
    cases b with
    | false => rfl
    | true =>
      show fNextT it E callf a h nid = aop E.T (aev a) h nid (.next it true)
      simp only [fNextT, aop, aevF_eq]
      rfl
  all_goals rfl
/-! ### operations, regions -/
def stepF (E : Env) (callf : CallF) (a : AAct) (h : AHeap) (nid : Nat) (o : Oper) : R1 :=
  Option.rec (motive := fun _ => R1) (bif Nat.beq (kindOf o.op) 0 && noDefer o.op then (match E.Tb o.op (o.op.operands.toList.map (aev a)) with
    | some v => some (v, h)
    | none => none) else none) (fun r => some r) (step0F o.op E callf a h nid)
theorem stepF_eq : stepF = astep := by
  funext E callf a h nid o
  unfold stepF astep
  rw [step0F_eq]
  cases astep0 E callf a h nid o <;> rfl
abbrev SeqF := AAct → AHeap → Option (AAct × AHeap)
def seqRun (E : Env) (callf : CallF) (o : Oper) (ih : SeqF) (a : AAct) (h : AHeap) : Option (AAct × AHeap) :=
  Option.rec (motive := fun _ => Option (AAct × AHeap)) none (fun r => ih (a.put o.dst r.1) r.2) (stepF E callf a h h.next o)
def seqStep (E : Env) (callf : CallF) (ops : Array Oper) (o : Oper) (ih : SeqF) (a : AAct) (h : AHeap) : Option (AAct × AHeap) :=
  Option.rec (motive := fun _ => Option (AAct × AHeap)) (seqRun E callf o ih a h) (fun _ => bif awants ops a o then seqRun E callf o ih a h else ih (a.put o.dst undef) h) o.guard
def seqF (E : Env) (callf : CallF) (ops : Array Oper) (os : List Oper) : SeqF :=
  List.rec (motive := fun _ => SeqF) (fun a h => some (a, h)) (fun o _ ih => seqStep E callf ops o ih) os
theorem seqF_eq (E : Env) (callf : CallF) (ops : Array Oper) : ∀ (os : List Oper) (a : AAct) (h : AHeap), seqF E callf ops os a h = aseq E callf ops os a h
  | [], a, h => rfl
  | o :: os, a, h => by
    have ih : seqF E callf ops os = aseq E callf ops os := by funext a h; exact seqF_eq E callf ops os a h
    show seqStep E callf ops o (seqF E callf ops os) a h = _
    rw [ih]
    have hrun : seqRun E callf o (aseq E callf ops os) a h = (match astep E callf a h h.next o with
      | some (v, h') => aseq E callf ops os (a.put o.dst v) h'
      | none => none) := by
      unfold seqRun
      rw [stepF_eq]
      cases astep E callf a h h.next o with
      | none => rfl
      | some r => obtain ⟨v, h'⟩ := r; rfl
    unfold seqStep
    rw [hrun]
    simp only [aseq]
    cases hg : o.guard with
    | none =>
      have : awants ops a o = true := by unfold awants; rw [hg]
      rw [this]; rfl
    | some jw => rfl
def dstepF (E : Env) (callf : CallF) (ops : Array Oper) (b : Array Nat) (base : Nat) (o : Oper) (i : Nat) (s : DSt) : Option DSt :=
  bif !(awants ops s.a o) then some { s with a := s.a.put o.dst undef }
  else match kindOf o.op with
    | 0 => match stepF E callf s.a (vis b base i s.g s.p) (base + i) o with
      | some (v, _) => some { s with a := s.a.put o.dst v, rs := bif pureOp o.op then s.rs else ⟨i, o, s.a, v⟩ :: s.rs }
      | none => none
    | 1 => match stepF E callf s.a ⟨.nil, base + i⟩ (base + i) o with
      | some (v, h) => match h.get (base + i) with
        | some x => some { s with a := s.a.put o.dst v, p := (i, x) :: s.p }
        | none => none
      | none => none
    | _ => bif (match s.ws with | [] => true | (j, _) :: _ => isIn b j i) then
        (match stepF E callf s.a (vis b base i s.g s.p) (base + i) o with
        | some (v, g') => some { s with a := s.a.put o.dst v, g := g', p := s.p.filter (fun q => !(isIn b q.1 i)), ws := (i, s.g, s.p) :: s.ws }
        | none => none) else none
theorem dstepF_eq : dstepF = dstep := by
  funext E callf ops b base o i s
  unfold dstepF dstep
  rw [stepF_eq]
  rfl
def dgoF (E : Env) (callf : CallF) (ops : Array Oper) (b : Array Nat) (base : Nat) : List (Oper × Nat) → DSt → Option DSt
  | [], s => some s
  | q :: r, s => match dstepF E callf ops b base q.1 q.2 s with
    | some s' => dgoF E callf ops b base r s'
    | none => none
theorem dgoF_eq (E : Env) (callf : CallF) (ops : Array Oper) (b : Array Nat) (base : Nat) : ∀ (l : List (Oper × Nat)) (s : DSt), dgoF E callf ops b base l s = dgo E callf ops b base l s
  | [], s => rfl
  | (o, i) :: r, s => by
    simp only [dgoF, dgo, dstepF_eq]
    cases dstep E callf ops b base o i s with
    | none => rfl
    | some s' => exact dgoF_eq E callf ops b base r s'
def readsF (E : Env) (callf : CallF) (b : Array Nat) (base : Nat) (d : DRec) : AHeap → Pend → List (Nat × AHeap × Pend) → Bool
  | g, p, ws =>
    let here : Bool := match stepF E callf d.a (vis b base d.i g p) (base + d.i) d.o with | some (v, _) => veq v d.v | none => false
    match ws with
    | [] => here
    | (j, g', p') :: r =>
      (isIn b d.i j || here) && (isIn b j d.i || readsF E callf b base d g' p' r)
theorem readsF_eq (E : Env) (callf : CallF) (b : Array Nat) (base : Nat) (d : DRec) : ∀ (ws : List (Nat × AHeap × Pend)) (g : AHeap) (p : Pend), readsF E callf b base d g p ws = reads E callf b base d g p ws
  | [], g, p => by simp only [readsF, reads, stepF_eq]; rfl
  | (j, g', p') :: r, g, p => by simp only [readsF, reads, stepF_eq, readsF_eq E callf b base d r g' p']; rfl
def drawF (E : Env) (callf : CallF) (ops : Array Oper) (a : AAct) (h : AHeap) : Option (AAct × AHeap) :=
  let b := Region.before ops
  let base := h.next
  let l := ops.toList.zipIdx
  bif tmpsOk ops b l && l.all (fun q => q.1.after.all fun e => !(Region.binds .any e) || Nat.blt e.on q.2) then
    match dgoF E callf ops b base l ⟨a, ⟨h.t, base + ops.size⟩, [], [], []⟩ with
    | some s => bif s.rs.all (fun d => readsF E callf b base d s.g s.p s.ws) then some (s.a, s.p.foldr (fun q h => ⟨h.t.put (base + q.1) (some q.2), h.next⟩) s.g) else none
    | none => none
  else none
theorem drawF_eq (E : Env) (callf : CallF) (ops : Array Oper) (a : AAct) (h : AHeap) : drawF E callf ops a h = adraw0 E callf ops a h := by
  simp only [drawF, adraw0, dgoF_eq, readsF_eq]
  rfl
def anyDrawF (E : Env) (callf : CallF) (ops : Array Oper) (a : AAct) (h : AHeap) : Option (AAct × AHeap) :=
  bif ops.toList.any (fun o => isInsert o.op) then adrawM E callf ops a h else drawF E callf ops a h
/-! ### code -/
abbrev R2 := Option (Exit × AAct × AHeap)
abbrev CodeF := AAct → AHeap → R2
def cSkip : CodeF := fun a h => some (.normal, a, h)
def normF (r : Option (AAct × AHeap)) : R2 := Option.rec (motive := fun _ => R2) none (fun q => some (.normal, q.1, q.2)) r
def cRegion (E : Env) (callf : CallF) (ops : Array Oper) (draw : Bool) : CodeF := fun a h => normF (Bool.rec (motive := fun _ => Option (AAct × AHeap)) (seqF E callf ops ops.toList a h) (anyDrawF E callf ops a h) draw)
def cSeqK (g : CodeF) (q : Exit × AAct × AHeap) : R2 := match q.1 with | .normal => g q.2.1 q.2.2 | _ => some q
def cSeq (f g : CodeF) : CodeF := fun a h => Option.rec (motive := fun _ => R2) none (cSeqK g) (f a h)
def cCond (c : Operand) (f g : CodeF) : CodeF := fun a h => match aevF c a with | .bool b => Bool.rec (motive := fun _ => R2) (g a h) (f a h) b | _ => none
def cBlockK (id : Nat) (q : Exit × AAct × AHeap) : R2 := match q.1 with | .exit j => some (Bool.rec (motive := fun _ => Exit) (.exit j) .normal (Nat.beq j id), q.2.1, q.2.2) | _ => some q
def cBlock (id : Nat) (f : CodeF) : CodeF := fun a h => Option.rec (motive := fun _ => R2) none (cBlockK id) (f a h)
def loopF (f : CodeF) (n : Nat) : CodeF := Nat.rec (motive := fun _ => CodeF) (fun _ _ => none) (fun _ ih a h => Option.rec (motive := fun _ => R2) none (cSeqK ih) (f a h)) n
def cRange (E : Env) (callf : CallF) (n : Nat) (f : Operand) (ps : Array Tmp) (x y : CodeF) : CodeF := fun a h => match aev a f with
    | .func (.func g) first cap => match first.toList, cap.toList with
      | [], [.pointer (some ⟨bx, o, none⟩)] => bif E.R g && Nat.beq ps.size 2 then (match backList h bx o with
        | some vs => match arange y x a ps.toList bx o vs vs.length h with
          | some (e, h') => some (e, a, h')
          | none => none
        | none => none) else none
      | _, _ => none
    | _ => none
def cNone : CodeF := fun _ _ => none
def codeF (E : Env) (callf : CallF) (n : Nat) (c : Code) : CodeF := Code.rec (motive := fun _ => CodeF) cSkip (fun _ ops draw => cRegion E callf ops draw) (fun _ _ f g => cSeq f g) (fun c _ _ f g => cCond c f g) (fun id _ f => cBlock id f) (fun _ f => loopF f n) (fun f ps _ _ x y => cRange E callf n f ps x y) (fun id a h => some (.exit id, a, h)) (fun _ _ => cNone) (fun _ => cSkip) (fun _ => cNone) (fun a h => some (.ret, a, h)) (fun _ => cNone) c
theorem loopF_eq (f : CodeF) : ∀ (n : Nat) (a : AAct) (h : AHeap), loopF f n a h = aloop f n a h
  | 0, a, h => rfl
  | n + 1, a, h => by
    have ih : loopF f n = aloop f n := by funext a h; exact loopF_eq f n a h
    show Option.rec (motive := fun _ => R2) none (cSeqK (loopF f n)) (f a h) = _
    rw [ih]
    simp only [aloop]
    cases f a h with
    | none => rfl
    | some q => obtain ⟨e, a', h'⟩ := q; cases e <;> rfl
theorem codeF_eq (E : Env) (callf : CallF) (n : Nat) : ∀ (c : Code) (a : AAct) (h : AHeap), codeF E callf n c a h = acode E callf n c a h := by
  intro c
  induction c with
  | skip => intro a h; rfl
  | region id ops draw =>
    intro a h
    show normF (Bool.rec (motive := fun _ => Option (AAct × AHeap)) (seqF E callf ops ops.toList a h) (anyDrawF E callf ops a h) draw) = _
    simp only [acode]
    cases draw with
    | false =>
      simp only [cond_false]
      rw [seqF_eq]
      cases aseq E callf ops ops.toList a h with
      | none => rfl
      | some q => rfl
    | true =>
      simp only [cond_true]
      have : anyDrawF E callf ops a h = adraw E callf ops a h := by unfold anyDrawF adraw; rw [drawF_eq]
      rw [this]
      cases adraw E callf ops a h with
      | none => rfl
      | some q => rfl
  | seq x y ihx ihy =>
    intro a h
    have hy : codeF E callf n y = acode E callf n y := by funext a h; exact ihy a h
    show Option.rec (motive := fun _ => R2) none (cSeqK (codeF E callf n y)) (codeF E callf n x a h) = _
    rw [hy, ihx]
    simp only [acode]
    cases acode E callf n x a h with
    | none => rfl
    | some q => obtain ⟨e, a', h'⟩ := q; cases e <;> rfl
  | cond c x y ihx ihy =>
    intro a h
    show (match aevF c a with | .bool b => Bool.rec (motive := fun _ => R2) (codeF E callf n y a h) (codeF E callf n x a h) b | _ => none) = _
    rw [aevF_eq, ihx, ihy]
    simp only [acode]
    cases aev a c <;> first | rfl | skip
    rename_i b
    cases b <;> rfl
  | block id x ih =>
    intro a h
    show Option.rec (motive := fun _ => R2) none (cBlockK id) (codeF E callf n x a h) = _
    rw [ih]
    simp only [acode]
    cases acode E callf n x a h with
    | none => rfl
    | some q =>
      obtain ⟨e, a', h'⟩ := q
      cases e <;> first | rfl | skip
      rename_i j
      simp only [cBlockK]
      cases Nat.beq j id <;> rfl
  | loop x ih =>
    intro a h
    have hx : codeF E callf n x = acode E callf n x := by funext a h; exact ih a h
    show loopF (codeF E callf n x) n a h = _
    rw [hx, loopF_eq]
    rfl
  | rangeFunc f ps x y ihx ihy =>
    intro a h
    have hx : codeF E callf n x = acode E callf n x := by funext a h; exact ihx a h
    have hy : codeF E callf n y = acode E callf n y := by funext a h; exact ihy a h
    show cRange E callf n f ps (codeF E callf n x) (codeF E callf n y) a h = _
    rw [hx, hy]
    simp only [cRange, acode]
    rfl
  | exit id => intro a h; rfl
  | scope x => intro a h; rfl
  | label l => intro a h; rfl
  | goto l => intro a h; rfl
  | ret => intro a h; rfl
  | refuse s => intro a h; rfl
/-! ### calls -/
def endF (T : Tr TI) (fn : Func) (q : Exit × AAct × AHeap) : R1 :=
  match q.1 with
  | .normal => (match aresults T q.2.2 q.2.1 fn.results.toList with | some l => some (oneOf l, q.2.2) | none => none)
  | .ret => (match aresults T q.2.2 q.2.1 fn.results.toList with | some l => some (oneOf l, q.2.2) | none => none)
  | _ => none
def bodyF (E : Env) (callf : CallF) (n : Nat) (fn : Func) (args : List Value) (h : AHeap) : R1 :=
  Option.rec (motive := fun _ => R1) none (fun c => Option.rec (motive := fun _ => R1) none (endF E.T fn) (codeF E callf n c ⟨args.length + (fn.ntmps - args.length), Tr.ofList args 0 .nil⟩ h)) fn.body
def callF1 (E : Env) (n : Nat) (ih : CallF) (f : Nat) (args : List Value) (h : AHeap) : R1 :=
  Option.rec (motive := fun _ => R1) (Option.rec (motive := fun _ => R1) none (fun fn => bodyF E ih n fn args h) (E.F.get f)) (fun x => x args h) (E.X f)
def callF (E : Env) (n : Nat) : CallF := Nat.rec (motive := fun _ => CallF) (fun _ _ _ => none) (fun n ih => callF1 E n ih) n
theorem callF_eq (E : Env) : ∀ (n f : Nat) (args : List Value) (h : AHeap), callF E n f args h = acall E n f args h
  | 0, f, args, h => rfl
  | n + 1, f, args, h => by
    have ih : callF E n = acall E n := by funext f args h; exact callF_eq E n f args h
    show callF1 E n (callF E n) f args h = _
    rw [ih]
    unfold callF1
    simp only [acall]
    cases E.X f with
    | some x => rfl
    | none =>
      cases E.F.get f with
      | none => rfl
      | some fn =>
        show bodyF E (acall E n) n fn args h = _
        unfold bodyF
        simp only
        cases fn.body with
        | none => rfl
        | some c =>
          simp only [codeF_eq]
          cases acode E (acall E n) n c ⟨args.length + (fn.ntmps - args.length), Tr.ofList args 0 .nil⟩ h with
          | none => rfl
          | some q =>
            obtain ⟨e, a', h'⟩ := q
            cases e <;> rfl
end
end Go.Proofs.Yteffhomollmpdaa.AM
