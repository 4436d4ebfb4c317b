import Derived.Test.YtffockklleanmaaAMZ3
import Derived.Below
import Derived.KernelRfl
import Derived.Test.YtffockklleanmaaAMZ1
import Derived.Lib.Bytealg
import Derived.Lib.IndexEntry
import Derived.Laws.LoneSync
import Derived.Shelf.Strings.OnBuilder
import Derived.Test.YtffockklleanmaaProg
import Derived.RangeFuncNested
import Derived.RangeFuncBound
import Derived.RangeFuncCalls
import Derived.RangeFuncLeaves
import Derived.Shelf.Abstract
import Derived.Shelf.RegionOpen
import Derived.WalkKit
import Derived.OwnWalkIn
import Derived.TacticsInMore
import Derived.LoopNIn
import Derived.LoopIn
import Derived.Test.YtffockklleanmaaXBits
/- A region in whatever order: the end. -/
namespace Go.Proofs.Ytffockklleanmaa.AM
open Go
variable [Tok]
set_option linter.unusedVariables false
set_option linter.unusedSectionVars false
set_option linter.unusedSimpArgs false
theorem getD_lt {l : Array Bool} {i : Nat} (h : i < l.size) (a b : Bool) : l.getD i a = l.getD i b := by
  rw [Array.getD_eq_getD_getElem?, Array.getD_eq_getD_getElem?, Array.getElem?_eq_getElem h]
  rfl
def unl (n : Nat) (l : Array Bool) : Nat := ((List.range n).filter fun j => !l.getD j true).length
theorem set_listed {l : Array Bool} {i : Nat} (h : i < l.size) (b : Bool) (j : Nat) : (l.setIfInBounds i true).getD j b = if j = i then true else l.getD j b := by
  rw [Array.getD_eq_getD_getElem?, Array.getD_eq_getD_getElem?]
  by_cases e : j = i
  · subst e; rw [if_pos rfl, Array.getElem?_setIfInBounds_self_of_lt h]; rfl
  · rw [if_neg e, Array.getElem?_setIfInBounds_ne (Ne.symm e)]
theorem unl_set {l : Array Bool} {i : Nat} (h : i < l.size) (hi : l.getD i true = false) : unl l.size (l.setIfInBounds i true) < unl l.size l := by
  unfold unl
  have h1 : (List.range l.size).filter (fun j => !(l.setIfInBounds i true).getD j true) = ((List.range l.size).filter fun j => !l.getD j true).filter (fun j => decide (j ≠ i)) := by
    rw [List.filter_filter]
    congr 1
    funext j
    rw [set_listed h]
    by_cases e : j = i
    · simp [e]
    · simp [e]
  rw [h1]
  refine List.length_filter_lt_length_iff_exists.2 ⟨i, ?_, by simp⟩
  rw [List.mem_filter]
  exact ⟨List.mem_range.2 h, by rw [hi]; rfl⟩
theorem unl_zero {n : Nat} {l : Array Bool} (h : unl n l = 0) {j : Nat} (hj : j < n) : l.getD j true = true := by
  cases e : l.getD j true with
  | true => rfl
  | false =>
    have : j ∈ (List.range n).filter fun j => !l.getD j true := List.mem_filter.2 ⟨List.mem_range.2 hj, by rw [e]; rfl⟩
    unfold unl at h
    rw [List.length_eq_zero_iff] at h
    rw [h] at this; cases this
section
variable {P : Program} {G N : Nat} {E : Env} {callf : CallF} {ops : Array Oper} {a0 : AAct} {h0 : AHeap} {st : Nat → DSt} {val : Nat → Value} {obj : Nat → Option AObj} {wr : Nat → Bool} {π0 : Pi} {w0 : World} {Q : Exit → Act → World → Prop} {F : Fence} {fu : Nat} {ds : List Deferred}
theorem mem_ready {l : Array Bool} {i : Nat} (h : i ∈ Region.ready .any ops l) : i < ops.size ∧ l.getD i true = false ∧ ∃ o, ops[i]? = some o ∧ ∀ e ∈ o.after.toList, Region.binds .any e = true → l.getD e.on false = true := by
  unfold Region.ready at h
  rw [List.mem_filter, List.mem_range, Bool.and_eq_true] at h
  obtain ⟨h1, h2, h3⟩ := h
  refine ⟨h1, by simpa using h2, _, Array.getElem?_eq_getElem h1, ?_⟩
  rw [Array.getElem?_eq_getElem h1] at h3
  simp only [Option.map_some, Option.getD_some, Array.all_eq_true'] at h3
  intro e he hb
  have := h3 e (by simpa using he)
  simpa [hb] using this
theorem ready_nil (hd : EdgesDown ops) {l : Array Bool} (hl : l.size = ops.size) (h : Region.ready .any ops l = []) : ∀ j, j < ops.size → l.getD j true = true := by
  intro j
  induction j using Nat.strongRecOn with
  | _ j ih =>
    intro hj
    cases e : l.getD j true with
    | true => rfl
    | false =>
      exfalso
      have : j ∈ Region.ready .any ops l := by
        unfold Region.ready
        rw [List.mem_filter, List.mem_range, Bool.and_eq_true]
        refine ⟨hj, by rw [e]; rfl, ?_⟩
        rw [Array.getElem?_eq_getElem hj]
        simp only [Option.map_some, Option.getD_some, Array.all_eq_true']
        intro e he
        cases hb : Region.binds .any e with
        | false => simp
        | true =>
          have hlt := hd j _ (Array.getElem?_eq_getElem hj) e (by simpa using he) hb
          rw [getD_lt (by omega) false true, ih e.on hlt (by omega)]
          rfl
      rw [h] at this; cases this
theorem DI.done {S : Nat → Bool} {c : Nat} {π : Pi} {act : Act} {w : World} (D : DT E callf ops h0.next a0 h0 st val obj wr) (I : DI ds N ops a0 h0 st val obj wr π0 w0 S c π act w) (hall : ∀ j, j < ops.size → S j = true) :
    AR ds π (st ops.size).a act ∧ Stp π0 N h0.get h0.next w0 π (gvis (fun _ => true) h0.next (st ops.size).g (st ops.size).p).get (gvis (fun _ => true) h0.next (st ops.size).g (st ops.size).p).next w h0.next := by
  have hc : c = ops.size := by
    rcases I.cn with h | ⟨h1, h2, h3⟩
    · exact h
    · rw [hall c h1] at h3; cases h3
  subst hc
  constructor
  · refine I.ar.congr (by rw [D.a_eq _ (Nat.le_refl _), putsOf_n, putsOf_n]) fun t => ?_
    rw [D.a_eq _ (Nat.le_refl _)]
    exact putsOf_same ops val _ _ a0 t ops.size fun j o hj _ _ => (hall j hj).symm
  · rw [gvis_next]
    refine I.stp.sub fun id x hx => ?_
    by_cases hex : ∃ j y, (j, y) ∈ (st ops.size).p ∧ id = h0.next + j
    · obtain ⟨j, y, h1, rfl⟩ := hex
      have hm := (D.p_mem ops.size (Nat.le_refl _) j y).1 h1
      have := gvis_in (fun _ => true) h0.next (st ops.size).g rfl (p := (st ops.size).p) (x := y) (fun z hz => by
        have := (D.p_mem ops.size (Nat.le_refl _) j z).1 hz
        rw [hm.2.1] at this; exact (Option.some.inj this.2.1).symm) h1
      rw [this] at hx
      injection hx with hx
      subst hx
      exact un_right (PF_iff.2 ⟨j, rfl, hm.1, hall j hm.1, hm.2.2, hm.2.1⟩)
    · rw [gvis_out (fun _ => true) h0.next (st ops.size).g id (p := (st ops.size).p) fun j y h1 _ h3 => hex ⟨j, y, h1, h3⟩] at hx
      exact un_left I.dis hx
theorem DI.go (hF : FOk F) (D : DT E callf ops h0.next a0 h0 st val obj wr) (he : EOk P G N E) (hc : CallsOk P G N callf) (hok : ops.toList.all (okOp G) = true) (hg0 : GR G π0)
    (hQ : ∀ π' c' w', AR ds π' (st ops.size).a c' → Stp π0 N h0.get h0.next w0 π' (gvis (fun _ => true) h0.next (st ops.size).g (st ops.size).p).get (gvis (fun _ => true) h0.next (st ops.size).g (st ops.size).p).next w' h0.next → Q .normal c' w') :
    ∀ (fuel : Nat) (l : Array Bool) (c : Nat) (π : Pi) (act : Act) (w : World), l.size = ops.size → unl ops.size l ≤ fuel → DI ds N ops a0 h0 st val obj wr π0 w0 (fun j => l.getD j false) c π act w → wpAnyIn F fu P .any ops Q fuel l act w
  | 0, l, c, π, act, w, hl, hu, I => by
    have hall : ∀ j, j < ops.size → l.getD j true = true := fun j hj => unl_zero (by omega) hj
    obtain ⟨h1, h2⟩ := I.done D fun j hj => by rw [getD_lt (by omega) false true]; exact hall j hj
    refine ⟨?_, hQ π act w h1 h2⟩
    cases hr : Region.ready .any ops l with
    | nil => rfl
    | cons i r =>
      obtain ⟨g1, g2, _⟩ := mem_ready (ops := ops) (l := l) (i := i) (by rw [hr]; exact .head _)
      rw [hall i g1] at g2; cases g2
  | fuel + 1, l, c, π, act, w, hl, hu, I => by
    constructor
    · intro hr
      have hall := ready_nil D.down hl hr
      obtain ⟨h1, h2⟩ := I.done D fun j hj => by rw [getD_lt (by omega) false true]; exact hall j hj
      exact hQ π act w h1 h2
    · intro i hi
      obtain ⟨g1, g2, o, g3, g4⟩ := mem_ready hi
      refine I.one hF D he hc hok hg0 g3 (by rw [getD_lt (by omega) false true]; exact g2) g4 fun π' c' act' w' I' => ?_
      refine DI.go hF D he hc hok hg0 hQ fuel (l.setIfInBounds i true) c' π' act' w' (by simpa using hl) ?_ ?_
      · have := unl_set (l := l) (i := i) (by omega) g2
        rw [hl] at this
        omega
      · have : (fun j => (l.setIfInBounds i true).getD j false) = addS (fun j => l.getD j false) i := by
          funext j
          rw [set_listed (by omega)]
          rfl
        rw [this]
        exact I'
theorem putsOf_none (ops : Array Oper) (val : Nat → Value) (a : AAct) : ∀ k, putsOf ops val (fun _ => false) k a = a
  | 0 => rfl
  | k + 1 => by
    rw [putsOf, putsOf_none ops val a k]
    split
    · rfl
    · rfl
theorem draws0_sound (hF : FOk F) (hm : P.follows .mixedOrders = true) (he : EOk P G N E) (hc : CallsOk P G N callf) (id : Nat) (ops : Array Oper) (a a' : AAct) (h h' : AHeap) (π : Pi) (w : World) (c : Act) (hs : adraw0 E callf ops a h = some (a', h')) (hok : ops.toList.all (okOp G) = true) (hg : GR G π) (hr : HR π N h.get h.next w) (ha : AR ds π a c) :
    (Code.region id ops true).wpIn F fu P (RegPost N ds π h w a' h') c w := by
  obtain ⟨st, val, obj, wr, D, rfl, rfl⟩ := adraw_dt hs
  refine wpIn_region_any hm ?_
  have hr1 : HR π N h.get h.next { w with drawn := w.drawn + 1 } := ⟨fun id o ho => let ⟨L, h1, h2⟩ := hr.obj id o ho; ⟨L, h1, h2.mono (Pi.le.refl π) rfl⟩, hr.sep, hr.lim, ⟨hr.base.le, hr.base.low⟩⟩
  obtain ⟨c0, e1, e2, e3, e4⟩ := next_writer wr ops.size ops.size 0 (by omega)
  have hgs : (st c0).g = ⟨h.t, h.next + ops.size⟩ := by
    have := D.g_same 0 c0 (by omega) fun m m1 m2 => e3 m m1 (by omega)
    rw [Nat.zero_add] at this
    rw [this, D.s0]
  have hS : (fun j => (Array.replicate ops.size false).getD j false) = fun _ => false := by
    funext j
    rw [Array.getD_eq_getD_getElem?, Array.getElem?_replicate]
    split <;> rfl
  have hPF : PF (Region.before ops) h.next ops.size obj wr (fun _ => false) c0 = fun _ => none := by
    funext id
    refine opt_ext fun x => ?_
    rw [PF_iff]
    constructor
    · rintro ⟨j, _, _, h3, _⟩; cases h3
    · intro h; cases h
  have hu : un h.get (fun _ => none) = h.get := by funext id; rfl
  refine DI.go hF (w0 := w) D he hc hok hg (fun π' c' w' h1 h2 => ⟨rfl, π', h1, h2⟩) ops.size _ c0 π c _ (by simp) ?_ ?_
  · unfold unl
    exact Nat.le_trans (List.length_filter_le _ _) (by simp)
  · rw [hS]
    refine ⟨fun i o _ h => absurd h (by simp), (by rw [putsOf_none]; exact ha), ?_, fun j _ _ => hr.lim _ (by omega), fun id hid => absurd (by rw [hPF]) hid, (by rw [hgs]; exact Nat.le_refl _), fun k hk hwk => (by rw [e3 k (by omega) hk] at hwk; cases hwk), e4.imp (fun g => g) fun g => ⟨g.1, g.2, rfl⟩⟩
    rw [hPF, hgs]
    have hge : AHeap.get ⟨h.t, h.next + ops.size⟩ = h.get := rfl
    rw [hge, hu]
    exact ⟨Pi.le.refl π, fun _ h _ _ => h, ⟨hr1.obj, hr1.sep, fun id hid => hr.lim id (by simp only at hid; omega), hr1.base⟩, by simp, rfl, rfl, rfl, Nat.le_refl _, fun _ _ _ => rfl, fun _ h => .inl h, fun _ o h => .inl ⟨o, h⟩⟩
end
end Go.Proofs.Ytffockklleanmaa.AM

/- A map that is laid with its entries in whatever order: its stages. -/
namespace Go.Proofs.Ytffockklleanmaa.AM
open Go
variable [Tok]
set_option linter.unusedVariables false
set_option linter.unusedSectionVars false
set_option linter.unusedSimpArgs false
section
variable {E : Env} {callf : CallF} {ops : Array Oper} {base : Nat} {a0 : AAct} {st : Nat → MSt} {val : Nat → Value} {pr : Nat → Option (Value × Value)} {ds : List Deferred}
def MCase (E : Env) (callf : CallF) (b : Array Nat) (base i : Nat) (o : Oper) (s s' : MSt) (v : Value) (p : Option (Value × Value)) : Prop :=
  s'.a = s.a.put o.dst v ∧ o.guard = none ∧
  (((∃ t, o.op = .makeMap t none) ∧ s.m = none ∧ s'.m = some i ∧ v = .map (some (base + i)) ∧ p = none ∧ s'.ps = s.ps) ∨
   (∃ j t mx kx x kt et z1 z2 z3, o.op = .insert t mx kx x ∧ s.m = some j ∧ s'.m = some j ∧ aev s.a mx = .map (some (base + j)) ∧ E.T.get t = some ⟨.map kt et, z1, z2, z3⟩ ∧ isIn b j i = true ∧ isKey E.T kt (aev s.a kx) = true ∧ v = undef ∧ p = some (aev s.a kx, aev s.a x) ∧ s'.ps = s.ps ++ [(i, aev s.a kx, aev s.a x)]) ∨
   (pureOp o.op = true ∧ (∃ h h', astep E callf s.a h 0 o = some (v, h')) ∧ s'.m = s.m ∧ p = none ∧ s'.ps = s.ps))
theorem mstep_case {b : Array Nat} {i : Nat} {o : Oper} {s s' : MSt} (h : mstep E callf b base o i s = some s') : ∃ v p, MCase E callf b base i o s s' v p := by
  unfold mstep at h
  split at h
  · cases h
  · rename_i hgd
    split at h
    · rename_i t hop hm
      simp only [Option.some.injEq] at h
      subst h
      exact ⟨_, none, rfl, hgd, .inl ⟨⟨_, hop⟩, hm, rfl, rfl, rfl, rfl⟩⟩
    · rename_i t mx kx x j hop hm
      split at h
      · rename_i id kt et _ _ _ hmx hT
        rw [Bool.cond_eq_ite] at h
        split at h
        · rename_i hc
          simp only [Bool.and_eq_true, beqd, decide_eq_true_eq] at hc
          obtain ⟨⟨rfl, hin⟩, hkey⟩ := hc
          simp only [Option.some.injEq] at h
          subst h
          exact ⟨_, _, rfl, hgd, .inr (.inl ⟨j, t, mx, kx, x, kt, et, _, _, _, hop, hm, rfl, hmx, hT, hin, hkey, rfl, rfl, rfl⟩)⟩
        · cases h
      · cases h
    · rw [Bool.cond_eq_ite] at h
      split at h
      · rename_i hpu
        split at h
        · rename_i v h' hs
          simp only [Option.some.injEq] at h
          subst h
          exact ⟨v, none, rfl, hgd, .inr (.inr ⟨hpu, ⟨_, _, hs⟩, rfl, rfl, rfl⟩)⟩
        · cases h
      · cases h
theorem mgo_trace {b : Array Nat} : ∀ (l : List Oper) (k : Nat) (s sf : MSt), mgo E callf b base (l.zipIdx k) s = some sf →
    ∃ st : Nat → MSt, st k = s ∧ st (k + l.length) = sf ∧ ∀ (i : Nat) (o : Oper), l[i]? = some o → mstep E callf b base o (k + i) (st (k + i)) = some (st (k + i + 1))
  | [], k, s, sf, h => by
    simp only [List.zipIdx_nil, mgo, Option.some.injEq] at h
    exact ⟨fun _ => s, rfl, h, fun i o ho => by simp at ho⟩
  | o :: l, k, s, sf, h => by
    simp only [List.zipIdx_cons, mgo] at h
    split at h
    · rename_i s' hs
      obtain ⟨st, h1, h2, h3⟩ := mgo_trace l (k + 1) s' sf h
      refine ⟨fun m => if m ≤ k then s else st m, by simp, ?_, ?_⟩
      · show (if k + (o :: l).length ≤ k then s else st (k + (o :: l).length)) = sf
        rw [if_neg (by simp), ← h2]; congr 1; simp; omega
      · intro i p hp
        cases i with
        | zero =>
          simp only [List.getElem?_cons_zero, Option.some.injEq] at hp
          subst hp
          show mstep E callf b base o (k + 0) (if k + 0 ≤ k then s else st (k + 0)) = some (if k + 0 + 1 ≤ k then s else st (k + 0 + 1))
          rw [if_pos (by omega), if_neg (by omega)]
          simp only [Nat.add_zero, h1]; exact hs
        | succ i =>
          have := h3 i p (by simpa using hp)
          show mstep E callf b base p (k + (i + 1)) (if k + (i + 1) ≤ k then s else st (k + (i + 1))) = some (if k + (i + 1) + 1 ≤ k then s else st (k + (i + 1) + 1))
          rw [if_neg (by omega), if_neg (by omega)]
          rw [show k + (i + 1) = k + 1 + i by omega]
          exact this
    · cases h
structure MT (E : Env) (callf : CallF) (ops : Array Oper) (base : Nat) (a0 : AAct) (st : Nat → MSt) (val : Nat → Value) (pr : Nat → Option (Value × Value)) (mI : Nat) : Prop where
  s0 : st 0 = ⟨a0, none, []⟩
  step : ∀ i o, ops[i]? = some o → MCase E callf (Region.before ops) base i o (st i) (st (i + 1)) (val i) (pr i)
  down : EdgesDown ops
  tmps : ∀ i j o p, i < j → ops[i]? = some o → ops[j]? = some p → clash ops o p = true → isIn (Region.before ops) i j = true
  m : (st ops.size).m = some mI
  keys : ∀ i j p q, i ≠ j → i < ops.size → j < ops.size → pr i = some p → pr j = some q → keyEq p.1 q.1 = some false
variable {mI : Nat}
theorem MT.a_eq (D : MT E callf ops base a0 st val pr mI) : ∀ k, k ≤ ops.size → (st k).a = putsOf ops val (fun _ => true) k a0
  | 0, _ => by rw [D.s0]; rfl
  | k + 1, h => by
    obtain ⟨o, ho⟩ := DT.op (show k < ops.size by omega)
    rw [(D.step k o ho).1, D.a_eq k (by omega)]
    simp only [putsOf, ho, if_true]
theorem MT.look (D : MT E callf ops base a0 st val pr mI) {S : Nat → Bool} (hS : Down ops S) {i : Nat} {o : Oper} (ho : ops[i]? = some o) (hi : S i = false) (hb : ∀ j, isIn (Region.before ops) j i = true → S j = true) {t : Nat} (ht : t ∈ looks ops o) :
    (st i).a.at t = (putsOf ops val S ops.size a0).at t := by
  have hsz : i < ops.size := (Array.getElem?_eq_some_iff.1 ho).1
  rw [D.a_eq i (by omega)]
  have h1 : (putsOf ops val (fun _ => true) i a0).at t = (putsOf ops val (fun j => decide (j < i)) i a0).at t := putsOf_same ops val _ _ a0 t i fun j p hj _ _ => by simp [hj]
  rw [h1]
  have h2 := putsOf_upto ops val a0 i (ops.size - i)
  rw [show i + (ops.size - i) = ops.size by omega] at h2
  rw [← h2]
  refine putsOf_same ops val _ _ a0 t ops.size fun j p hj hp hd => ?_
  rcases Nat.lt_trichotomy j i with h3 | rfl | h3
  · rw [decide_eq_true h3, hb j (D.tmps j i p o h3 hp ho (clash_wr hd ht))]
  · simp [hi]
  · have h4 := D.tmps i j o p h3 ho hp (clash_rw hd ht)
    cases hSj : S j with
    | false => simp; omega
    | true =>
      have := hS.before j i p hp hSj h4
      rw [hi] at this; cases this
theorem MT.puts (D : MT E callf ops base a0 st val pr mI) {S : Nat → Bool} (hS : Down ops S) {i : Nat} {o : Oper} (ho : ops[i]? = some o) (hi : S i = false) {π : Pi} {c : Act} (h : AR ds π ((putsOf ops val S ops.size a0).put o.dst (val i)) c) :
    AR ds π (putsOf ops val (addS S i) ops.size a0) c := by
  have hsz : i < ops.size := (Array.getElem?_eq_some_iff.1 ho).1
  refine h.congr (by rw [put_n, putsOf_n, putsOf_n]) fun t => putsOf_more ops val S a0 i o ho hi t ops.size hsz fun j p h1 h2 hp hd hod => ?_
  have h4 := D.tmps i j o p h1 ho hp (clash_ww hod hd)
  cases hSj : S j with
  | false => rfl
  | true =>
    have := hS.before j i p hp hSj h4
    rw [hi] at this; cases this
/-- the map's place -/
theorem MT.m_at (D : MT E callf ops base a0 st val pr mI) : ∀ d k, k + d = ops.size → ∀ j, (st k).m = some j → j = mI
  | 0, k, h, j, hj => by
    have := D.m
    rw [show ops.size = k by omega, hj] at this
    exact (Option.some.inj this)
  | d + 1, k, h, j, hj => by
    obtain ⟨o, ho⟩ := DT.op (show k < ops.size by omega)
    refine D.m_at d (k + 1) (by omega) j ?_
    rcases (D.step k o ho).2.2 with ⟨_, h1, _⟩ | ⟨j', t, mx, kx, x, kt, et, z1, z2, z3, _, h1, h2, _⟩ | ⟨_, _, h1, _⟩
    · rw [h1] at hj; cases hj
    · rw [h2, ← h1]; exact hj
    · rw [h1]; exact hj
theorem MT.ps_at (D : MT E callf ops base a0 st val pr mI) : ∀ k, k ≤ ops.size → (st k).ps = (List.range k).filterMap fun i => (pr i).map fun p => (i, p)
  | 0, _ => by rw [D.s0]; rfl
  | k + 1, h => by
    obtain ⟨o, ho⟩ := DT.op (show k < ops.size by omega)
    have ih := D.ps_at k (by omega)
    rw [List.range_succ, List.filterMap_append, ← ih]
    rcases (D.step k o ho).2.2 with ⟨_, _, _, _, h1, h2⟩ | ⟨j', t, mx, kx, x, kt, et, z1, z2, z3, _, _, _, _, _, _, _, _, h1, h2⟩ | ⟨_, _, _, h1, h2⟩
    · rw [h2]; simp [h1]
    · rw [h2]; simp [h1]
    · rw [h2]; simp [h1]
theorem addS_ne {S : Nat → Bool} {i j : Nat} (h : j ≠ i) : addS S i j = S j := by unfold addS; rw [if_neg h]
theorem addS_self {S : Nat → Bool} {i : Nat} : addS S i i = true := by unfold addS; rw [if_pos rfl]
theorem fm_congr {α β : Type} {f g : α → Option β} : ∀ {l : List α}, (∀ x ∈ l, f x = g x) → l.filterMap f = l.filterMap g
  | [], _ => rfl
  | x :: l, h => by rw [List.filterMap_cons, List.filterMap_cons, h x (.head _), fm_congr fun y hy => h y (.tail _ hy)]
/-- the entries so far -/
def pairs (pr : Nat → Option (Value × Value)) (S : Nat → Bool) (n : Nat) : List (Value × Value) := (List.range n).filterMap fun i => if S i = true then pr i else none
theorem pairs_mem {S : Nat → Bool} {n : Nat} {p : Value × Value} (h : p ∈ pairs pr S n) : ∃ i, i < n ∧ S i = true ∧ pr i = some p := by
  unfold pairs at h
  obtain ⟨i, h1, h2⟩ := List.mem_filterMap.1 h
  split at h2
  · exact ⟨i, List.mem_range.1 h1, by assumption, h2⟩
  · cases h2
theorem pairs_none {S : Nat → Bool} {i : Nat} (h : pr i = none) : ∀ n, pairs pr (addS S i) n = pairs pr S n := by
  intro n
  unfold pairs
  congr 1
  funext j
  unfold addS
  by_cases e : j = i
  · subst e; simp [h]
  · rw [if_neg e]
theorem pairs_more {S : Nat → Bool} {i : Nat} {p : Value × Value} (h : pr i = some p) (hi : S i = false) : ∀ n, i < n → (pairs pr (addS S i) n).Perm (pairs pr S n ++ [p])
  | 0, hn => by omega
  | n + 1, hn => by
    unfold pairs
    rw [List.range_succ, List.filterMap_append, List.filterMap_append]
    by_cases e : i = n
    · subst e
      have h1 : (List.range i).filterMap (fun j => if addS S i j = true then pr j else none) = (List.range i).filterMap fun j => if S j = true then pr j else none := by
        refine fm_congr fun j hj => ?_
        have := List.mem_range.1 hj
        rw [addS_ne (by omega)]
      rw [h1]
      simp [addS, h, hi]
    · have ih := pairs_more h hi n (by omega)
      unfold pairs at ih
      have h2 : (if addS S i n = true then pr n else none) = if S n = true then pr n else none := by
        rw [addS_ne (Ne.symm e)]
      have h3 : List.filterMap (fun j => if addS S i j = true then pr j else none) [n] = List.filterMap (fun j => if S j = true then pr j else none) [n] := by
        exact fm_congr fun j hj => by rw [List.mem_singleton.1 hj]; exact h2
      rw [h3]
      refine (ih.append_right _).trans ?_
      rw [List.append_assoc, List.append_assoc]
      exact List.Perm.append_left _ List.perm_append_comm
theorem mput_new {x u : Value} : ∀ {l : List (Value × Value)}, (∀ p ∈ l, keyEq x p.1 = some false) → mput l x u = some (l ++ [(x, u)])
  | [], _ => rfl
  | (k, v) :: r, h => by
    have h0 := h _ (.head _)
    simp only at h0
    simp only [mput, h0, mput_new fun p hp => h p (.tail _ hp)]
    rfl
end
theorem Stp.swap {π π' : Pi} {N nx nx' nid id : Nat} {g g' : AG} {o o' : AObj} {w w' : World} (h : Stp π N g nx w π' (upd g' id (some o)) nx' w' nid) (hO : ∀ L, OR π' N o L w' → OR π' N o' L w') (ho : o.rw = true) (ho' : o'.rw = true) :
    Stp π N g nx w π' (upd g' id (some o')) nx' w' nid := by
  have hself : upd g' id (some o) id = some o := by simp [upd]
  have conv : ∀ j p, upd g' id (some o') j = some p → ∃ q, upd g' id (some o) j = some q ∧ (p.rw = true ↔ q.rw = true) ∧ ∀ L, OR π' N q L w' → OR π' N p L w' := by
    intro j p hp
    by_cases e : j = id
    · subst e
      simp only [upd, if_pos] at hp
      injection hp with hp; subst hp
      exact ⟨o, hself, by rw [ho, ho'], hO⟩
    · have e1 : upd g' id (some o') j = g' j := by simp only [upd, if_neg e]
      rw [e1] at hp
      exact ⟨p, by simp only [upd, if_neg e]; exact hp, Iff.rfl, fun _ h => h⟩
  refine ⟨h.le, h.fresh, ⟨fun j p hp => ?_, fun i j p q L M hi hj hpr hqr hL hM hb => ?_, h.hr.lim, h.hr.base⟩, h.nxl, h.os, h.tape, h.output, h.size, h.blk, ?_, fun j p hp => ?_⟩
  · obtain ⟨q, h1, _, h2⟩ := conv j p hp
    obtain ⟨L, g1, g2⟩ := h.hr.obj j q h1
    exact ⟨L, g1, h2 L g2⟩
  · obtain ⟨p', h1, h2, _⟩ := conv i p hi
    obtain ⟨q', h3, h4, _⟩ := conv j q hj
    exact h.hr.sep i j p' q' L M h1 h3 (h2.1 hpr) (h4.1 hqr) hL hM hb
  · rintro b ⟨j, p, L, h1, h2, h3, h4⟩
    obtain ⟨q, g1, g2, _⟩ := conv j p h1
    exact h.own b ⟨j, q, L, g1, g2.1 h2, h3, h4⟩
  · obtain ⟨q, g1, _⟩ := conv j p hp
    exact h.dom j q g1
end Go.Proofs.Ytffockklleanmaa.AM

/- A map that is laid with its entries in whatever order: it comes to what its own order comes to. The machine is sound. -/
namespace Go.Proofs.Ytffockklleanmaa.AM
open Go
variable [Tok]
set_option linter.unusedVariables false
set_option linter.unusedSectionVars false
set_option linter.unusedSimpArgs false
theorem upd_upd (g : AG) (id : Nat) (a b : Option AObj) : upd (upd g id a) id b = upd g id b := by
  funext j
  unfold upd
  by_cases e : j = id <;> simp [e]
section
variable {P : Program} {G N : Nat} {E : Env} {callf : CallF} {ops : Array Oper} {a0 : AAct} {h0 : AHeap} {st : Nat → MSt} {val : Nat → Value} {pr : Nat → Option (Value × Value)} {mI : Nat} {π0 : Pi} {w0 : World} {Q : Exit → Act → World → Prop} {F : Fence} {fu : Nat} {ds : List Deferred}
theorem MT.m_src {base : Nat} (D : MT E callf ops base a0 st val pr mI) : ∀ k, k ≤ ops.size → ∀ j, (st k).m = some j → j < k ∧ ∃ o t, ops[j]? = some o ∧ o.op = .makeMap t none
  | 0, _, j, hj => by rw [D.s0] at hj; cases hj
  | k + 1, h, j, hj => by
    obtain ⟨o, ho⟩ := DT.op (show k < ops.size by omega)
    rcases (D.step k o ho).2.2 with ⟨⟨t, h1⟩, _, h2, _⟩ | ⟨j', t, mx, kx, x, kt, et, z1, z2, z3, _, h1, h2, _⟩ | ⟨_, _, h1, _⟩
    · rw [h2] at hj; injection hj with hj; subst hj
      exact ⟨by omega, o, t, ho, h1⟩
    · rw [h2] at hj; injection hj with hj; subst hj
      obtain ⟨q1, q2⟩ := D.m_src k (by omega) _ h1
      exact ⟨by omega, q2⟩
    · rw [h1] at hj
      obtain ⟨q1, q2⟩ := D.m_src k (by omega) _ hj
      exact ⟨by omega, q2⟩
structure MI (ds : List Deferred) (N : Nat) (ops : Array Oper) (a0 : AAct) (h0 : AHeap) (val : Nat → Value) (pr : Nat → Option (Value × Value)) (mI : Nat) (π0 : Pi) (w0 : World) (S : Nat → Bool) (π : Pi) (act : Act) (w : World) : Prop where
  dn : Down ops S
  ar : AR ds π (putsOf ops val S ops.size a0) act
  fr : ∀ j, j < ops.size → S j = false → π (h0.next + j) = none
  stp : (S mI = false ∧ Stp π0 N h0.get h0.next w0 π h0.get (h0.next + ops.size) w h0.next) ∨
    (S mI = true ∧ ∃ l, List.Perm l (pairs pr S ops.size) ∧ Stp π0 N h0.get h0.next w0 π (upd h0.get (h0.next + mI) (some (.map l))) (h0.next + ops.size) w h0.next)
theorem addS_down {S : Nat → Bool} {i : Nat} {o : Oper} (hS : Down ops S) (hi : ops[i]? = some o) (hb : ∀ e ∈ o.after.toList, Region.binds .any e = true → S e.on = true) : Down ops (addS S i) := by
  intro k p hp hk e hm hbd
  unfold addS at hk ⊢
  split
  · rfl
  · split at hk
    · rename_i e1 e2
      subst e2
      rw [hi] at hp; injection hp with hp; subst hp
      exact hb e hm hbd
    · exact hS k p hp hk e hm hbd
theorem MI.one (hF : FOk F) {S : Nat → Bool} {π : Pi} {act : Act} {w : World} {i : Nat} {o : Oper}
    (D : MT E callf ops h0.next a0 st val pr mI) (he : EOk P G N E) (hc : CallsOk P G N callf) (hok : ops.toList.all (okOp G) = true) (hg0 : GR G π0)
    (I : MI ds N ops a0 h0 val pr mI π0 w0 S π act w) (hi : ops[i]? = some o) (hSi : S i = false) (hb : ∀ e ∈ o.after.toList, Region.binds .any e = true → S e.on = true)
    {K : Act → World → Prop} (hK : ∀ π' act' w', MI ds N ops a0 h0 val pr mI π0 w0 (addS S i) π' act' w' → K act' w') : wpOpIn F fu P ops Q i K act w := by
  have hsz : i < ops.size := (Array.getElem?_eq_some_iff.1 hi).1
  have hbi : ∀ j, isIn (Region.before ops) j i = true → S j = true := fun j hj => free_before I.dn hi hb hj
  have hS' := addS_down I.dn hi hb
  have hle : π0.le π := by rcases I.stp with ⟨_, h⟩ | ⟨_, l, _, h⟩ <;> exact h.le
  have hg : GR G π := hg0.mono hle
  have hoko : okOp G o = true := List.all_eq_true.1 hok o (by
    have := Array.getElem?_eq_some_iff.1 hi
    rw [← this.2]; simp)
  have hρ : ∀ x ∈ o.op.operands, VR π (aev (st i).a x) (act.eval x) := by
    intro x hx
    have h1 := ops_sound hg I.ar hoko x hx
    have h2 : aev (st i).a x = aev (putsOf ops val S ops.size a0) x := by
      cases x with
      | tmp t =>
        refine D.look I.dn hi hSi hbi ?_
        unfold looks
        refine List.mem_append_left _ (List.mem_filterMap.2 ⟨.tmp t, by simpa using hx, rfl⟩)
      | _ => rfl
    rw [h2]; exact h1
  have hnid := I.fr i hsz hSi
  obtain ⟨_, hgd, hcase⟩ := D.step i o hi
  have hfr : ∀ {π' : Pi}, (∀ id, π id = none → id ≠ h0.next + i → id < h0.next + ops.size → π' id = none) → ∀ j, j < ops.size → addS S i j = false → π' (h0.next + j) = none := by
    intro π' hf j hj hs
    unfold addS at hs
    split at hs
    · cases hs
    · rename_i hne
      exact hf _ (I.fr j hj hs) (by omega) (by omega)
  unfold wpOpIn
  rw [hi]
  simp only
  have hwant : Region.wanted o (yielded ops act.tmps) = true := by unfold Region.wanted; rw [hgd]
  rw [hwant]
  simp only [if_true]
  have hmi : (st i).m = some mI → i ≠ mI := by
    rintro h rfl
    have := (D.m_src i (by omega) i h).1
    omega
  rcases hcase with ⟨⟨t, hop⟩, hm0, hm1, hv, hp, hps⟩ | ⟨j, t, mx, kx, x, kt, et, z1, z2, z3, hop, hm0, hm1, hmx, hT, hin, hkey, hv, hp, hps⟩ | ⟨hpu, ⟨q, q', hq⟩, hm, hp, hps⟩
  · have him : i = mI := D.m_at (ops.size - (i + 1)) (i + 1) (by omega) i hm1
    subst him
    rcases I.stp with ⟨_, hst⟩ | ⟨h1, _⟩
    · have hs : astep E callf (st i).a ⟨h0.t, h0.next + ops.size⟩ (h0.next + i) o = some (val i, (⟨h0.t, h0.next + ops.size⟩ : AHeap).new (h0.next + i) (.map [])) := by
        exact astep_of (by unfold astep0; rw [hop, hv]; rfl)
      have hempty : pairs pr S ops.size = [] := by
        cases hpp : pairs pr S ops.size with
        | nil => rfl
        | cons p r =>
          obtain ⟨j, j1, j2, j3⟩ := pairs_mem (pr := pr) (S := S) (n := ops.size) (p := p) (by rw [hpp]; exact .head _)
          obtain ⟨oj, hoj⟩ := DT.op j1
          rcases (D.step j oj hoj).2.2 with ⟨_, _, _, _, g, _⟩ | ⟨j', t, mx, kx, x, kt, et, z1, z2, z3, _, g1, g2, _, _, g3, _⟩ | ⟨_, _, _, g, _⟩
          · rw [g] at j3; cases j3
          · have := D.m_at (ops.size - j) j (by omega) j' g1
            subst this
            have := I.dn.before j j' oj hoj j2 g3
            rw [hSi] at this; cases this
          · rw [g] at j3; cases j3
      refine astep_sound hF he hc (h := ⟨h0.t, h0.next + ops.size⟩) hst.hr hnid hg hρ hs fun π' v' w' hv' hst' => ?_
      rw [get_new, next_new, if_pos (show h0.next + i < h0.next + ops.size by omega)] at hst'
      refine hK π' _ w' ⟨hS', D.puts I.dn hi hSi ((I.ar.mono hst'.le).put _ hv'), hfr hst'.fresh, .inr ⟨addS_self, [], ?_, hst.trans hst' (.inr (by omega))⟩⟩
      rw [pairs_none hp, hempty]
    · rw [hSi] at h1; cases h1
  · have hj := D.m_at (ops.size - i) i (by omega) j hm0
    subst hj
    have hSm := hbi j hin
    have hne := hmi hm0
    rcases I.stp with ⟨h1, _⟩ | ⟨_, l, hl, hst⟩
    · rw [hSm] at h1; cases h1
    · have hget : (AHeap.get ⟨h0.t.put (h0.next + j) (some (.map l)), h0.next + ops.size⟩) = upd h0.get (h0.next + j) (some (.map l)) := by
        funext id; simp only [AHeap.get, Tr.get_put, upd]
      have hmp : mput l (aev (st i).a kx) (aev (st i).a x) = some (l ++ [(aev (st i).a kx, aev (st i).a x)]) := by
        refine mput_new fun p hpm => ?_
        obtain ⟨j', j1, j2, j3⟩ := pairs_mem (hl.mem_iff.1 hpm)
        have := D.keys i j' _ _ (by rintro rfl; rw [hSi] at j2; cases j2) hsz j1 hp j3
        exact this
      have hs : astep E callf (st i).a ⟨h0.t.put (h0.next + j) (some (.map l)), h0.next + ops.size⟩ (h0.next + i) o = some (val i, (⟨h0.t.put (h0.next + j) (some (.map l)), h0.next + ops.size⟩ : AHeap).set (h0.next + j) (.map (l ++ [(aev (st i).a kx, aev (st i).a x)]))) := by
        refine astep_of ?_; unfold astep0; rw [hop, hv]
        simp only [aop, amapUpdate, hT, hmx, hkey, cond_true, hget, upd, if_true, hmp]
      refine astep_sound hF he hc (h := ⟨h0.t.put (h0.next + j) (some (.map l)), h0.next + ops.size⟩) (by rw [hget]; exact hst.hr) hnid hg hρ hs fun π' v' w' hv' hst' => ?_
      rw [get_set, hget, upd_upd] at hst'
      refine hK π' _ w' ⟨hS', D.puts I.dn hi hSi ((I.ar.mono hst'.le).put _ hv'), hfr hst'.fresh, .inr ⟨by rw [addS_ne (Ne.symm hne)]; exact hSm, _, ?_, hst.trans hst' (.inr (by omega))⟩⟩
      exact (hl.append_right _).trans (pairs_more hp hSi ops.size hsz).symm
  · have hne : mI ≠ i := by
      rintro rfl
      obtain ⟨_, o', t, h1, h2⟩ := D.m_src ops.size (Nat.le_refl _) mI D.m
      rw [hi] at h1; injection h1 with h1; subst h1
      rw [h2] at hpu; cases hpu
    rcases I.stp with ⟨h1, hst⟩ | ⟨h1, l, hl, hst⟩
    · have hs := pure_any (h2 := ⟨h0.t, h0.next + ops.size⟩) (nid2 := h0.next + i) hpu hq
      refine astep_sound hF he hc (h := ⟨h0.t, h0.next + ops.size⟩) hst.hr hnid hg hρ hs fun π' v' w' hv' hst' => ?_
      exact hK π' _ w' ⟨hS', D.puts I.dn hi hSi ((I.ar.mono hst'.le).put _ hv'), hfr hst'.fresh, .inl ⟨by rw [addS_ne hne]; exact h1, hst.trans hst' (.inr (by omega))⟩⟩
    · have hget : (AHeap.get ⟨h0.t.put (h0.next + mI) (some (.map l)), h0.next + ops.size⟩) = upd h0.get (h0.next + mI) (some (.map l)) := by
        funext id; simp only [AHeap.get, Tr.get_put, upd]
      have hs := pure_any (h2 := ⟨h0.t.put (h0.next + mI) (some (.map l)), h0.next + ops.size⟩) (nid2 := h0.next + i) hpu hq
      refine astep_sound hF he hc (h := ⟨h0.t.put (h0.next + mI) (some (.map l)), h0.next + ops.size⟩) (by rw [hget]; exact hst.hr) hnid hg hρ hs fun π' v' w' hv' hst' => ?_
      rw [hget] at hst'
      exact hK π' _ w' ⟨hS', D.puts I.dn hi hSi ((I.ar.mono hst'.le).put _ hv'), hfr hst'.fresh, .inr ⟨by rw [addS_ne hne]; exact h1, l, by rw [pairs_none hp]; exact hl, hst.trans hst' (.inr (by omega))⟩⟩
theorem MI.done {S : Nat → Bool} {π : Pi} {act : Act} {w : World} (D : MT E callf ops h0.next a0 st val pr mI) (I : MI ds N ops a0 h0 val pr mI π0 w0 S π act w) (hall : ∀ j, j < ops.size → S j = true) :
    AR ds π (st ops.size).a act ∧ Stp π0 N h0.get h0.next w0 π (upd h0.get (h0.next + mI) (some (.fmap ((st ops.size).ps.map (·.2))))) (h0.next + ops.size) w h0.next := by
  have hmI : mI < ops.size := (D.m_src ops.size (Nat.le_refl _) mI D.m).1
  constructor
  · refine I.ar.congr (by rw [D.a_eq _ (Nat.le_refl _), putsOf_n, putsOf_n]) fun t => ?_
    rw [D.a_eq _ (Nat.le_refl _)]
    exact putsOf_same ops val _ _ a0 t ops.size fun j o hj _ _ => (hall j hj).symm
  · rcases I.stp with ⟨h1, _⟩ | ⟨_, l, hl, hst⟩
    · rw [hall mI hmI] at h1; cases h1
    · refine hst.swap (fun L hO => ?_) rfl rfl
      obtain ⟨g0, es, c, g1, g2, g3⟩ := hO
      refine ⟨g0, l, es, c, hl.trans ?_, g1, g2, g3⟩
      have : (st ops.size).ps.map (·.2) = pairs pr S ops.size := by
        rw [D.ps_at ops.size (Nat.le_refl _), List.map_filterMap]
        unfold pairs
        refine fm_congr fun j hj => ?_
        rw [hall j (List.mem_range.1 hj), if_pos rfl]
        cases pr j <;> rfl
      rw [this]
theorem MI.go (hF : FOk F) (D : MT E callf ops h0.next a0 st val pr mI) (he : EOk P G N E) (hc : CallsOk P G N callf) (hok : ops.toList.all (okOp G) = true) (hg0 : GR G π0)
    (hQ : ∀ π' c' w', AR ds π' (st ops.size).a c' → Stp π0 N h0.get h0.next w0 π' (upd h0.get (h0.next + mI) (some (.fmap ((st ops.size).ps.map (·.2))))) (h0.next + ops.size) w' h0.next → Q .normal c' w') :
    ∀ (fuel : Nat) (l : Array Bool) (π : Pi) (act : Act) (w : World), l.size = ops.size → unl ops.size l ≤ fuel → MI ds N ops a0 h0 val pr mI π0 w0 (fun j => l.getD j false) π act w → wpAnyIn F fu P .any ops Q fuel l act w
  | 0, l, π, act, w, hl, hu, I => by
    have hall : ∀ j, j < ops.size → l.getD j true = true := fun j hj => unl_zero (by omega) hj
    obtain ⟨h1, h2⟩ := I.done D fun j hj => by rw [getD_lt (by omega) false true]; exact hall j hj
    refine ⟨?_, hQ π act w h1 h2⟩
    cases hr : Region.ready .any ops l with
    | nil => rfl
    | cons i r =>
      obtain ⟨g1, g2, _⟩ := mem_ready (ops := ops) (l := l) (i := i) (by rw [hr]; exact .head _)
      rw [hall i g1] at g2; cases g2
  | fuel + 1, l, π, act, w, hl, hu, I => by
    constructor
    · intro hr
      have hall := ready_nil D.down hl hr
      obtain ⟨h1, h2⟩ := I.done D fun j hj => by rw [getD_lt (by omega) false true]; exact hall j hj
      exact hQ π act w h1 h2
    · intro i hi
      obtain ⟨g1, g2, o, g3, g4⟩ := mem_ready hi
      refine I.one hF D he hc hok hg0 g3 (by rw [getD_lt (by omega) false true]; exact g2) g4 fun π' act' w' I' => ?_
      refine MI.go hF D he hc hok hg0 hQ fuel (l.setIfInBounds i true) π' act' w' (by simpa using hl) ?_ ?_
      · have := unl_set (l := l) (i := i) (by omega) g2
        rw [hl] at this
        omega
      · have : (fun j => (l.setIfInBounds i true).getD j false) = addS (fun j => l.getD j false) i := by
          funext j
          rw [set_listed (by omega)]
          rfl
        rw [this]
        exact I'
theorem adrawM_mt {a a' : AAct} {h h' : AHeap} (hs : adrawM E callf ops a h = some (a', h')) :
    ∃ st val pr mI, MT E callf ops h.next a st val pr mI ∧ a' = (st ops.size).a ∧ h'.get = upd h.get (h.next + mI) (some (.fmap ((st ops.size).ps.map (·.2)))) ∧ h'.next = h.next + ops.size := by
  unfold adrawM at hs
  simp only at hs
  rw [Bool.cond_eq_ite] at hs
  split at hs
  · rename_i hc
    rw [Bool.and_eq_true] at hc
    split at hs
    · rename_i a1 j ps hgo
      rw [Bool.cond_eq_ite] at hs
      split at hs
      · rename_i hak
        simp only [Option.some.injEq, Prod.mk.injEq] at hs
        obtain ⟨rfl, rfl⟩ := hs
        obtain ⟨st, h1, h2, h3⟩ := mgo_trace ops.toList 0 _ _ hgo
        simp only [Nat.zero_add, Array.length_toList, Array.getElem?_toList] at h2 h3
        have hex : ∀ i, ∃ t : Value × Option (Value × Value), ∀ o, ops[i]? = some o → MCase E callf (Region.before ops) h.next i o (st i) (st (i + 1)) t.1 t.2 := by
          intro i
          cases ho : ops[i]? with
          | none => exact ⟨(undef, none), fun o e => by cases e⟩
          | some o =>
            obtain ⟨v, p, hcase⟩ := mstep_case (h3 i o ho)
            exact ⟨(v, p), fun q e => by injection e with e; subst e; exact hcase⟩
        have D0 : ∀ kk : (∀ i j p q, i ≠ j → i < ops.size → j < ops.size → (Classical.choose (hex i)).2 = some p → (Classical.choose (hex j)).2 = some q → keyEq p.1 q.1 = some false), MT E callf ops h.next a st (fun i => (Classical.choose (hex i)).1) (fun i => (Classical.choose (hex i)).2) j := fun kk => by
          refine ⟨h1, fun i o ho => Classical.choose_spec (hex i) o ho, ?_, ?_, by rw [h2], kk⟩
          · intro i o ho e he hb
            have hm : (o, i) ∈ ops.toList.zipIdx := by
              rw [List.mem_zipIdx_iff_getElem?]
              simpa using ho
            have := List.all_eq_true.1 hc.2 _ hm
            simp only [Array.all_eq_true'] at this
            have := this e (by simpa using he)
            simp only [hb, Bool.not_true, Bool.false_or, bltd, decide_eq_true_eq] at this
            exact this
          · intro i j o p hij hi hj hcl
            have := tmpsOk_spec ops (Region.before ops) ops.toList 0 hc.1 i j o p hij (by simpa using hi) (by simpa using hj) hcl
            simpa using this
        have hps : ps = (List.range ops.size).filterMap fun i => ((Classical.choose (hex i)).2).map fun p => (i, p) := by
          have : ∀ k, k ≤ ops.size → (st k).ps = (List.range k).filterMap fun i => ((Classical.choose (hex i)).2).map fun p => (i, p) := by
            intro k
            induction k with
            | zero => intro _; rw [h1]; rfl
            | succ k ih =>
              intro hk
              obtain ⟨o, ho⟩ := DT.op (show k < ops.size by omega)
              rw [List.range_succ, List.filterMap_append, ← ih (by omega)]
              rcases (Classical.choose_spec (hex k) o ho).2.2 with ⟨_, _, _, _, g1, g2⟩ | ⟨j', t, mx, kx, x, kt, et, z1, z2, z3, _, _, _, _, _, _, _, _, g1, g2⟩ | ⟨_, _, _, g1, g2⟩
              · rw [g2]; simp [g1]
              · rw [g2]; simp [g1]
              · rw [g2]; simp [g1]
          have := this ops.size (Nat.le_refl _)
          rw [h2] at this
          exact this
        refine ⟨st, _, _, j, D0 ?_, by rw [h2], ?_, rfl⟩
        · intro i i' p q hne hi hi' hp hq
          have m1 : (i, p) ∈ ps := by rw [hps]; exact List.mem_filterMap.2 ⟨i, List.mem_range.2 hi, by rw [hp]; rfl⟩
          have m2 : (i', q) ∈ ps := by rw [hps]; exact List.mem_filterMap.2 ⟨i', List.mem_range.2 hi', by rw [hq]; rfl⟩
          have := List.all_eq_true.1 (List.all_eq_true.1 hak _ m1) _ m2
          simp only [beqd, Bool.or_eq_true, decide_eq_true_eq] at this
          rcases this with e | e
          · exact absurd e hne
          · split at e
            · assumption
            · cases e
        · rw [h2]
          funext id
          simp only [AHeap.get, Tr.get_put, upd]
      · cases hs
    · cases hs
  · cases hs
theorem drawM_sound (hF : FOk F) (hm : P.follows .mixedOrders = true) (he : EOk P G N E) (hc : CallsOk P G N callf) (id : Nat) (ops : Array Oper) (a a' : AAct) (h h' : AHeap) (π : Pi) (w : World) (c : Act) (hs : adrawM E callf ops a h = some (a', h')) (hok : ops.toList.all (okOp G) = true) (hg : GR G π) (hr : HR π N h.get h.next w) (ha : AR ds π a c) :
    (Code.region id ops true).wpIn F fu P (RegPost N ds π h w a' h') c w := by
  obtain ⟨st, val, pr, mI, D, rfl, hh, hn⟩ := adrawM_mt hs
  refine wpIn_region_any hm ?_
  have hr1 : HR π N h.get h.next { w with drawn := w.drawn + 1 } := ⟨fun id o ho => let ⟨L, h1, h2⟩ := hr.obj id o ho; ⟨L, h1, h2.mono (Pi.le.refl π) rfl⟩, hr.sep, hr.lim, ⟨hr.base.le, hr.base.low⟩⟩
  have hS : (fun j => (Array.replicate ops.size false).getD j false) = fun _ => false := by
    funext j
    rw [Array.getD_eq_getD_getElem?, Array.getElem?_replicate]
    split <;> rfl
  refine MI.go hF (w0 := w) D he hc hok hg (fun π' c' w' h1 h2 => ⟨rfl, π', h1, by rw [hh, hn]; exact h2⟩) ops.size _ π c _ (by simp) ?_ ?_
  · unfold unl
    exact Nat.le_trans (List.length_filter_le _ _) (by simp)
  · rw [hS]
    refine ⟨fun i o _ h => absurd h (by simp), (by rw [putsOf_none]; exact ha), fun j _ _ => hr.lim _ (by omega), .inl ⟨rfl, ?_⟩⟩
    exact ⟨Pi.le.refl π, fun _ h _ _ => h, ⟨hr1.obj, hr1.sep, fun id hid => hr.lim id (by omega), hr1.base⟩, by simp, rfl, rfl, rfl, Nat.le_refl _, fun _ _ _ => rfl, fun _ h => .inl h, fun _ o h => .inl ⟨o, h⟩⟩
theorem draws_sound (hm : P.follows .mixedOrders = true) (he : EOk P G N E) (hc : CallsOk P G N callf) : DrawsOk P G N E callf := by
  intro F fu ds id ops a a' h h' π w c hF hs hok hg hr ha
  unfold adraw at hs
  rw [Bool.cond_eq_ite] at hs
  split at hs
  · exact drawM_sound hF hm he hc id ops a a' h h' π w c hs hok hg hr ha
  · exact draws0_sound hF hm he hc id ops a a' h h' π w c hs hok hg hr ha
/-- the machine is sound -/
theorem machine_sound (hm : P.follows .mixedOrders = true) (he : EOk P G N E) : ∀ n, CallsOk P G N (acall E n) :=
  acall_sound he fun callf hc => draws_sound hm he hc
end
end Go.Proofs.Ytffockklleanmaa.AM

/- Closed runs: what the machine computes from nothing the program computes wherever it stands. -/
namespace Go.Proofs.Ytffockklleanmaa.AM
open Go Go.RowKit
variable [Tok]
set_option linter.unusedVariables false
set_option linter.unusedSectionVars false
set_option linter.unusedSimpArgs false
section
variable {P : Program} {G N : Nat} {E : Env} {callf : CallF}
def noGo (fn : Func) : Bool := !(fn.name == "runtime.NumGoroutine")
def okFn (G : Nat) (fn : Func) : Bool := noGo fn && (match fn.body with | some c => okCode G c | none => true)
/-- a type whose nought the machine knows (a tuple with a struct in it is none) -/
def tiOk (P : Program) (t : Nat) : Option TI := match tiOf P t with | some i => bif pv i.zero then some i else none | none => none
/-- the machine's tables of a program -/
noncomputable def mk (P : Program) (X Y : Nat → Option Ext) (M : List (Nat × String × Nat × Option Nat)) (R : Nat → Bool) (Tb : Op → List Value → Option Value) : Env := ⟨Tr.ofOpt (tiOk P) P.types.size .nil, Tr.ofOpt (fun f => P.funcs[f]?) P.funcs.size .nil, X, Y, M, R, Tb⟩
def okT (P : Program) : Bool := true
def okF (P : Program) (G : Nat) : Bool := P.funcs.toList.all (okFn G)
theorem mk_t {X Y : Nat → Option Ext} {M : List (Nat × String × Nat × Option Nat)} {R : Nat → Bool} {Tb : Op → List Value → Option Value} (h : okT P = true) : TOk P (mk P X Y M R Tb).T := by
  have hget : ∀ t i, (mk P X Y M R Tb).T.get t = some i → tiOf P t = some i ∧ pv i.zero = true := by
    intro t i hi
    simp only [mk, Tr.get_ofOpt, Tr.get_nil] at hi
    split at hi
    · unfold tiOk at hi
      split at hi
      · rename_i j hj
        rw [Bool.cond_eq_ite] at hi
        split at hi
        · simp only [Option.some.injEq] at hi
          subst hi
          exact ⟨hj, by assumption⟩
        · cases hi
      · cases hi
    · cases hi
  exact ⟨fun t i hi => (hget t i hi).1, fun t i hi => (hget t i hi).2⟩
theorem mk_f {X Y : Nat → Option Ext} {M : List (Nat × String × Nat × Option Nat)} {R : Nat → Bool} {Tb : Op → List Value → Option Value} (h : okF P G = true) : ∀ k fn, (mk P X Y M R Tb).F.get k = some fn → P.funcs[k]? = some fn ∧ (fn.name == "runtime.NumGoroutine") = false ∧ ∀ c, fn.body = some c → okCode G c = true := by
  intro k fn hk
  simp only [mk, Tr.get_ofOpt, Tr.get_nil] at hk
  split at hk
  · have hm : fn ∈ P.funcs.toList := by
      rw [Array.mem_toList_iff]
      exact Array.mem_of_getElem? hk
    have := List.all_eq_true.1 h fn hm
    simp only [okFn, noGo, Bool.and_eq_true, Bool.not_eq_true'] at this
    refine ⟨hk, this.1, fun c hc => ?_⟩
    have h2 := this.2
    rw [hc] at h2
    exact h2
  · cases hk
/-- nothing but what the globals are -/
def piG (G : Nat) : Pi := fun id => if id < G then some ⟨id, 0, 0⟩ else none
theorem piG_gr : GR G (piG G) := fun g hg => ⟨0, by simp [piG, hg]⟩
theorem hr_nil {π : Pi} {nx : Nat} {w : World} (hl : ∀ id, nx ≤ id → π id = none) (hN : BaseOk N w) : HR π N (AHeap.get ⟨.nil, nx⟩) nx w :=
  ⟨fun id o h => (nomatch h), fun i j o p L M h => (nomatch h), hl, hN⟩
theorem own_nil {π : Pi} {nx b : Nat} : ¬ Own π (AHeap.get ⟨.nil, nx⟩) b := by rintro ⟨id, o, L, h, _⟩; cases h
/-- a run from nothing, wherever the program stands -/
theorem closed_call {n f : Nat} {b : Bool} {h' : AHeap} (hc : CallsOk P G N (acall E n)) (hrun : acall E n f [] ⟨.nil, G⟩ = some (.bool b, h')) (h : AHeap) : CallOk P G N f [] h (.bool b) h := by
  obtain ⟨hb, hcall⟩ := hc f [] ⟨.nil, G⟩ (.bool b) h' hrun
  refine ⟨hb, fun π w cargs hg hr hargs => ?_⟩
  have hg0 : GR G (fun id => if id < G then π id else none) := fun g hgl => by
    obtain ⟨m, hm⟩ := hg g hgl
    exact ⟨m, by simp only [hgl, if_true]; exact hm⟩
  refine (hcall (fun id => if id < G then π id else none) w cargs hg0 (hr_nil (fun id hid => if_neg (Nat.not_lt.2 hid)) hr.base) ?_).mono ?_
  · generalize cargs.toList = l at hargs
    cases hargs; exact .nil
  · rintro e w' ⟨π', v', rfl, hv, hst⟩
    have := hv.bool_inv
    subst this
    have hblk : ∀ b, b < w.heap.size → w'.heap[b]? = w.heap[b]? := fun b hb => hst.blk b hb own_nil
    refine ⟨π, _, rfl, .bool b, ⟨Pi.le.refl π, fun _ h _ _ => h, ⟨fun id o ho => ?_, hr.sep, hr.lim, hr.base.step hst.size (fun b hb => hblk b (Nat.lt_of_lt_of_le hb hr.base.le))⟩, Nat.le_refl _, hst.os, hst.tape, hst.output, hst.size, fun b hb _ => hblk b hb, fun _ h => .inl h, fun _ o h => .inl ⟨o, h⟩⟩⟩
    obtain ⟨L, h1, h2⟩ := hr.obj id o ho
    exact ⟨L, h1, h2.mono (Pi.le.refl π) (hblk _ h2.lt)⟩
/-- a law's run -/
theorem law_calls {n f : Nat} {args : List Value} {cargs : Array Value} {h' : AHeap} {W : World} (hc : CallsOk P G W.heap.size (acall E n)) (hrun : acall E n f args ⟨.nil, G⟩ = some (.bool true, h')) (hargs : VRs (piG G) args cargs.toList) (hlow : ∀ b, b < W.heap.size → W.heap[b]? = Tok.low b) :
    Calls P f cargs W fun e W' => e = .returned (.bool true) ∧ Below W.heap.size W W' := by
  obtain ⟨_, hcall⟩ := hc f args ⟨.nil, G⟩ (.bool true) h' hrun
  refine (hcall (piG G) W cargs piG_gr (hr_nil (fun id hid => if_neg (Nat.not_lt.2 hid)) ⟨Nat.le_refl _, hlow⟩) hargs).mono ?_
  rintro e w' ⟨π', v', rfl, hv, hst⟩
  have := hv.bool_inv
  subst this
  exact ⟨rfl, hst.os, hst.tape, hst.output, hst.size, fun b hb => hst.blk b hb own_nil⟩
/-- functions whose answer is known whatever there is: the answer true -/
noncomputable def trueX (fs : List Nat) : Nat → Option Ext := fun k => bif memN k fs then some (fun args h => match args with | [] => some (.bool true, h) | _ => none) else none
theorem trueX_ok {fs : List Nat} (h : ∀ f ∈ fs, ∀ h, CallOk P G N f [] h (.bool true) h) : ∀ k x, trueX fs k = some x → ∀ args h v h', x args h = some (v, h') → CallOk P G N k args h v h' := by
  intro k x hx args hh v h' hr
  unfold trueX at hx
  rw [Bool.cond_eq_ite] at hx
  split at hx
  · rename_i hm
    simp only [Option.some.injEq] at hx
    subst hx
    cases args with
    | cons a r => cases hr
    | nil =>
      simp only [Option.some.injEq, Prod.mk.injEq] at hr
      obtain ⟨rfl, rfl⟩ := hr
      unfold memN at hm
      rw [List.any_eq_true] at hm
      obtain ⟨y, hy, e⟩ := hm
      rw [beqd, decide_eq_true_eq] at e
      subst e
      exact h _ hy hh
  · cases hx
end
end Go.Proofs.Ytffockklleanmaa.AM

/- What functions without a body answer. -/
namespace Go.Proofs.Ytffockklleanmaa.AM
open Go
set_option linter.unusedVariables false
noncomputable section
def cntB (c : Nat) : List UInt8 → Nat
  | [] => 0
  | x :: l => bif Nat.beq x.toNat c then cntB c l + 1 else cntB c l
def idxB (c : Nat) : List UInt8 → Nat → Option Nat
  | [], _ => none
  | x :: l, i => bif Nat.beq x.toNat c then some i else idxB c l (i + 1)
def preB : List UInt8 → List UInt8 → Bool
  | [], _ => true
  | _ :: _, [] => false
  | a :: x, b :: y => bif Nat.beq a.toNat b.toNat then preB x y else false
def idxS (s : List UInt8) : List UInt8 → Nat → Option Nat
  | [], i => bif preB s [] then some i else none
  | x :: l, i => bif preB s (x :: l) then some i else idxS s l (i + 1)
def cellAt (h : AHeap) (id o : Nat) : Option Value := match rd h id with | some cs => cs[o]? | none => none
def idxV : Option Nat → Value
  | some i => .int .i64 i
  | none => .int .i64 (-1)
def yCountString : Ext := fun args h => match args with
  | [.string s, .int .u8 (.ofNat c)] => bif Nat.blt c 256 then some (.int .i64 (cntB c (bl s)), h) else none
  | _ => none
def yIndexByteString : Ext := fun args h => match args with
  | [.string s, .int .u8 (.ofNat c)] => bif Nat.blt c 256 then some (idxV (idxB c (bl s) 0), h) else none
  | _ => none
def yIndexString (g : Nat) : Ext := fun args h => match args, cellAt h g 0 with
  | [.string s, .string t], some (.int .i64 63) => bif Nat.ble 2 (bl t).length && Nat.ble (bl t).length 63 && Nat.ble (bl s).length 1000000 then some (idxV (idxS (bl t) (bl s) 0), h) else none
  | _, _ => none
def yNoEscape : Ext := fun args h => match args with
  | [x] => some (x, h)
  | _ => none
def yMakeNoZero : Ext := fun args h => match args with
  | [.int .i64 (.ofNat n)] => bif Nat.ble n 16777216 then some (.slice (some ⟨h.next, 0, none⟩) n (CAPX + 1), h.new h.next (.cells [] true)) else none
  | _ => none
def yAtLoad (k : IntKind) : Ext := fun args h => match args with
  | [.pointer (some ⟨id, o, none⟩)] => match cellAt h id o with
    | some (.int j n) => bif decide (k = j) then some (.int j n, h) else none
    | _ => none
  | _ => none
def putCell (h : AHeap) (id o : Nat) (v : Value) : Option AHeap := aput h id o [v]
def yAtStore : Ext := fun args h => match args with
  | [.pointer (some ⟨id, o, none⟩), .int k n] => match putCell h id o (.int k n) with
    | some h' => some (.tuple #[], h')
    | none => none
  | _ => none
def yAtCas (k : IntKind) : Ext := fun args h => match args with
  | [.pointer (some ⟨id, o, none⟩), .int l old, .int j new] => match cellAt h id o with
    | some (.int i n) => bif decide (k = i) && decide (k = l) && decide (k = j) && (putCell h id o (.int k new)).isSome then (bif decide (n = old) then (match putCell h id o (.int j new) with | some h' => some (.bool true, h') | none => none) else some (.bool false, h)) else none
    | _ => none
  | _ => none
def yAtAdd (k : IntKind) : Ext := fun args h => match args with
  | [.pointer (some ⟨id, o, none⟩), .int _ d] => match cellAt h id o with
    | some (.int i n) => bif decide (k = i) then (match putCell h id o (.int k (k.wrap (n + d))) with | some h' => some (.int k (k.wrap (n + d)), h') | none => none) else none
    | _ => none
  | _ => none
def yNothing : Ext := fun _ h => some (.tuple #[], h)
/-! ### a builder -/
def xCopyCheck : Ext := fun args h => match args with
  | [.pointer (some ⟨id, o, none⟩)] => match cellAt h id o with
    | some (.pointer none) => match putCell h id o (.pointer (some ⟨id, o, none⟩)) with | some h' => some (.tuple #[], h') | none => none
    | some (.pointer (some ⟨j, p, none⟩)) => bif Nat.beq id j && Nat.beq o p then some (.tuple #[], h) else none
    | _ => none
  | _ => none
def xBuilderString : Ext := fun args h => match args with
  | [.pointer (some ⟨id, o, none⟩)] => match cellAt h id (o + 1) with
    | some (.slice none 0 0) => some (.string (lb []), h)
    | some (.slice (some ⟨j, 0, none⟩) len _) => match rd h j with
      | some cs => match cut cs 0 len with
        | some r => match bytesOfCells r with | some l => some (.string (lb l), h.kill j) | none => none
        | none => none
      | none => none
    | _ => none
  | _ => none
def xGrow : Ext := fun args h => match args with
  | [.pointer (some ⟨id, o, none⟩), .int .i64 (.ofNat n)] => bif Nat.ble n 16777216 then (match xCopyCheck [.pointer (some ⟨id, o, none⟩)] h with
    | some (_, h1) => match cellAt h1 id (o + 1) with
      | some (.slice none 0 0) => match putCell (h1.new h1.next (.cells [] true)) id (o + 1) (.slice (some ⟨h1.next, 0, none⟩) 0 (CAPX + 1)) with
        | some h2 => some (.tuple #[], h2)
        | none => none
      | some (.slice (some ⟨j, 0, none⟩) len _) => match rd h1 j with
        | some cs => match cut cs 0 len with
          | some r => match putCell ((h1.kill j).new h1.next (.cells r true)) id (o + 1) (.slice (some ⟨h1.next, 0, none⟩) len (CAPX + 1)) with
            | some h2 => some (.tuple #[], h2)
            | none => none
          | none => none
        | none => none
      | _ => none
    | none => none) else none
  | _ => none
/-! ### strings.Join -/
def strsOf : List Value → Option (List (List UInt8))
  | [] => some []
  | .string s :: r => match strsOf r with | some l => some (bl s :: l) | none => none
  | _ => none
def joinL (sep : List UInt8) : List (List UInt8) → List UInt8
  | [] => []
  | [x] => x
  | x :: r => x ++ sep ++ joinL sep r
def xJoin : Ext := fun args h => match args with
  | [.slice none 0 0, .string sep] => some (.string (lb []), h)
  | [.slice (some ⟨id, o, none⟩) n _, .string sep] => match rd h id with
    | some cs => match cut cs o n with
      | some r => match strsOf r with | some l => bif Nat.ble n 16777216 && Nat.ble (joinL (bl sep) l).length 16777216 then some (.string (lb (joinL (bl sep) l)), h) else none | none => none
      | none => none
    | none => none
  | _ => none
/-! ### the keys of a map, in their order -/
def insI (x : Int) : List Int → List Int
  | [] => [x]
  | y :: r => bif decide (x ≤ y) then x :: y :: r else y :: insI x r
def sortI : List Int → List Int
  | [] => []
  | x :: r => insI x (sortI r)
def keysI : List (Value × Value) → Option (List Int)
  | [] => some []
  | (.int .i64 n, _) :: r => match keysI r with | some l => some (n :: l) | none => none
  | _ => none
def xSortedKeys (keys : Nat) : Ext := fun args h => match args with
  | [.func (.func f) _ cap] => bif Nat.beq f keys then (match cap.toList with
    | [.pointer (some ⟨id, o, none⟩)] => match cellAt h id o with
      | some (.map none) => some (.slice none 0 0, h)
      | some (.map (some m)) => match h.get m with
        | some (.map l) => match keysI l with
          | some [] => some (.slice none 0 0, h)
          | some ks => some (.slice (some ⟨h.next, 0, none⟩) ks.length (CAPX + 1), h.new h.next (.cells ((sortI ks).map (Value.int .i64)) false))
          | none => none
        | _ => none
      | _ => none
    | _ => none) else none
  | _ => none
end
end Go.Proofs.Ytffockklleanmaa.AM

/- Functions without a body: what the machine answers for them is what the program's entries answer. -/
namespace Go.Proofs.Ytffockklleanmaa.AM
open Go
variable [Tok]
set_option linter.unusedVariables false
set_option linter.unusedSectionVars false
set_option linter.unusedSimpArgs false
/-- the entry of a function without a body -/
def IsExt (P : Program) (k : Nat) (e : Array Value → Sem Value) : Prop := ∃ fn, P.funcs[k]? = some fn ∧ (fn.name == "runtime.NumGoroutine") = false ∧ fn.body.isNone = true ∧ Extern.findNext fn = none ∧ Extern.find fn = some e
section
variable {P : Program} {G N : Nat} {w : World} {π : Pi}
theorem cell_fact {h : AHeap} {nx : Nat} (hr : HR π N h.get nx w) {id o : Nat} {v : Value} (hc : cellAt h id o = some v) : ∃ L u, π id = some L ∧ w.cell? ⟨L.b, L.d + o, none⟩ = some u ∧ VR π v u := by
  unfold cellAt at hc
  split at hc
  · rename_i cs hcs
    obtain ⟨L, ds, ty, fr, h1, h2, h3⟩ := rd_spec hr hcs
    obtain ⟨u, h4, h5⟩ := h3 o v hc
    exact ⟨L, u, h1, by rw [cell_row h2]; exact h4, h5⟩
  · cases hc
theorem put_fact {h h' : AHeap} (hr : HR π N h.get h.next w) {id o : Nat} {v u : Value} (hp : putCell h id o v = some h') (hv : VR π v u) (nid : Nat) :
    ∃ L x, π id = some L ∧ w.cell? ⟨L.b, L.d + o, none⟩ = some x ∧ w.frozen? ⟨L.b, L.d + o, none⟩ = false ∧ Stp π N h.get h.next w π h'.get h'.next (w.setCell ⟨L.b, L.d + o, none⟩ u) nid := by
  obtain ⟨L, w', hL, hrun, hst⟩ := aput_sound (P := default) hr hp (.cons hv .nil) nid
  unfold putCell aput at hp
  split at hp
  · rename_i cs z hg
    rw [Bool.cond_eq_ite] at hp
    split at hp
    · rename_i hone
      split at hp
      · rename_i r hpa
        obtain ⟨hl, _⟩ := putAt_spec hpa
        obtain ⟨M, hM, h0, ds, ty, fr, h1, h2, h3, h4, h5⟩ := hr.obj id _ hg
        rw [hL] at hM; injection hM with hM; subst hM
        simp only [List.length_singleton] at hl
        obtain ⟨x, q1, q2⟩ := h5 o _ (List.getElem?_eq_getElem (by omega))
        have hcell : w.cell? ⟨L.b, L.d + o, none⟩ = some x := by rw [cell_row h1]; exact q1
        have hfr : w.frozen? ⟨L.b, L.d + o, none⟩ = false := by
          have := h4 (L.d + o) (Array.getElem?_eq_some_iff.1 q1).1
          obtain ⟨lo, hi⟩ := fr
          simp only [World.frozen?, h1]
          rw [Bool.eq_false_iff]
          intro hh
          simp only [Bool.and_eq_true, decide_eq_true_eq] at hh
          exact this hh
        have hone' : u.oneCell' = true := by
          rw [hv.one]
          unfold ones at hone
          simpa using hone
        refine ⟨L, x, hL, hcell, hfr, ?_⟩
        have hrun2 : (storeCells ⟨L.b, L.d + o, none⟩ [u]).run default w = .ok () (w.setCell ⟨L.b, L.d + o, none⟩ u) := by
          simp only [storeCells, Sem.run_bind]
          rw [add_none, Nat.add_zero, run_store default w _ u .plain hone', hcell]
          simp [hfr, Result.andThen, Sem.run_pure]
        rw [hrun2] at hrun
        injection hrun with _ hrun
        rw [hrun]; exact hst
      · cases hp
    · cases hp
  · cases hp
theorem cntB_spec {c : Nat} (hc : c < 256) : ∀ l : List UInt8, cntB c l = Lib.countByte l c.toUInt8
  | [] => rfl
  | x :: l => by
    have ih := cntB_spec hc l
    unfold Lib.countByte at *
    rw [List.count_cons, ← ih]
    simp only [cntB, beqd]
    have : (x == c.toUInt8) = decide (x.toNat = c) := by
      rw [Bool.eq_iff_iff, beq_iff_eq, decide_eq_true_iff, ← UInt8.toNat_inj]
      simp [Nat.mod_eq_of_lt hc]
    rw [this]
    by_cases e : x.toNat = c <;> simp [e]
theorem idxB_spec {c : Nat} (hc : c < 256) : ∀ (l : List UInt8) (k : Nat), idxV (idxB c l k) = .int .i64 (if Lib.indexByte l c.toUInt8 = -1 then -1 else Lib.indexByte l c.toUInt8 + k)
  | [], k => by simp [idxB, idxV, Lib.indexByte]
  | x :: l, k => by
    have ih := idxB_spec hc l (k + 1)
    have : (x == c.toUInt8) = decide (x.toNat = c) := by
      rw [Bool.eq_iff_iff, beq_iff_eq, decide_eq_true_iff, ← UInt8.toNat_inj]
      simp [Nat.mod_eq_of_lt hc]
    have hge := Lib.indexByte_ge l c.toUInt8
    simp only [idxB, Lib.indexByte, this, beqd]
    by_cases e : x.toNat = c
    · simp [e, idxV]
    · simp only [e, decide_false, cond_false, ih, Bool.false_eq_true, if_false, beq_iff_eq]
      by_cases e2 : Lib.indexByte l c.toUInt8 = -1
      · simp [e2]
      · rw [if_neg e2, if_neg e2, if_neg (by omega)]
        congr 1; omega
theorem VRs.one_inv {v : Value} {m : List Value} (h : VRs π [v] m) : ∃ u, m = [u] ∧ VR π v u := by
  cases h with
  | cons h t => cases t; exact ⟨_, rfl, h⟩
theorem VRs.two_inv {v x : Value} {m : List Value} (h : VRs π [v, x] m) : ∃ u y, m = [u, y] ∧ VR π v u ∧ VR π x y := by
  cases h with
  | cons h t => obtain ⟨y, rfl, hy⟩ := t.one_inv; exact ⟨_, _, rfl, h, hy⟩
theorem VRs.three_inv {v x z : Value} {m : List Value} (h : VRs π [v, x, z] m) : ∃ u y q, m = [u, y, q] ∧ VR π v u ∧ VR π x y ∧ VR π z q := by
  cases h with
  | cons h t => obtain ⟨y, q, rfl, hy, hq⟩ := t.two_inv; exact ⟨_, _, _, rfl, h, hy, hq⟩
theorem arr_of {cs : Array Value} {l : List Value} (h : cs.toList = l) : cs = ⟨l⟩ := by cases cs; simp_all
theorem yCountString_ok {k : Nat} (h : IsExt P k Extern.BytealgCount.count) : ExtOk P G N k yCountString := by
  obtain ⟨fn, h1, h2, h3, h4, h5⟩ := h
  intro args hh v h' hy π w cargs hg hr hargs
  unfold yCountString at hy
  split at hy
  · rename_i s c
    rw [Bool.cond_eq_ite] at hy
    split at hy
    · rename_i hc
      rw [bltd, decide_eq_true_eq] at hc
      simp only [Option.some.injEq, Prod.mk.injEq] at hy
      obtain ⟨rfl, rfl⟩ := hy
      obtain ⟨u, y, e, hu, hy⟩ := hargs.two_inv
      obtain rfl := arr_of e
      cases hu; cases hy
      have hrun := run_callFunc_extern h1 h2 h3 h4 h5 #[.string s, .int .u8 (c : Nat)] w
      rw [Lib.run_countString] at hrun
      refine ⟨π, .int .i64 (Lib.countByte (bl s) c.toUInt8 : Nat), w, hrun, ?_, Stp.refl hr _⟩
      rw [cntB_spec hc]
      exact .int _ _
    · cases hy
  · cases hy
theorem yIndexByteString_ok {k : Nat} (h : IsExt P k Extern.BytealgIndexByte.indexByte) : ExtOk P G N k yIndexByteString := by
  obtain ⟨fn, h1, h2, h3, h4, h5⟩ := h
  intro args hh v h' hy π w cargs hg hr hargs
  unfold yIndexByteString at hy
  split at hy
  · rename_i s c
    rw [Bool.cond_eq_ite] at hy
    split at hy
    · rename_i hc
      rw [bltd, decide_eq_true_eq] at hc
      simp only [Option.some.injEq, Prod.mk.injEq] at hy
      obtain ⟨rfl, rfl⟩ := hy
      obtain ⟨u, y, e, hu, hy⟩ := hargs.two_inv
      obtain rfl := arr_of e
      cases hu; cases hy
      have hrun := run_callFunc_extern h1 h2 h3 h4 h5 #[.string s, .int .u8 (c : Nat)] w
      rw [Lib.run_indexByteString] at hrun
      refine ⟨π, .int .i64 (Lib.indexByte (bl s) c.toUInt8), w, hrun, ?_, Stp.refl hr _⟩
      · rw [idxB_spec hc]
        have : (if Lib.indexByte (bl s) c.toUInt8 = -1 then -1 else Lib.indexByte (bl s) c.toUInt8 + ((0 : Nat) : Int)) = Lib.indexByte (bl s) c.toUInt8 := by
          split
          · rename_i e; exact e.symm
          · simp
        rw [this]
        exact .int _ _
    · cases hy
  · cases hy
theorem yAtLoad_ok {k : Nat} {K : IntKind} (h : IsExt P k (Extern.Atomic.loadT (.int K))) : ExtOk P G N k (yAtLoad K) := by
  obtain ⟨fn, h1, h2, h3, h4, h5⟩ := h
  intro args hh v h' hy π w cargs hg hr hargs
  unfold yAtLoad at hy
  split at hy
  · rename_i id o
    split at hy
    · rename_i j n hc
      rw [Bool.cond_eq_ite] at hy
      split at hy
      · rename_i hk
        rw [decide_eq_true_eq] at hk
        subst hk
        simp only [Option.some.injEq, Prod.mk.injEq] at hy
        obtain ⟨rfl, rfl⟩ := hy
        obtain ⟨u, e, hu⟩ := hargs.one_inv
        obtain rfl := arr_of e
        obtain ⟨L, x, g1, g2, g3⟩ := cell_fact hr hc
        cases hu with
        | ptr hL =>
          rw [g1] at hL; injection hL with hL; subst hL
          cases g3
          exact ⟨π, _, w, run_call_load h1 h2 h3 h4 _ h5 g2, .int _ _, Stp.refl hr _⟩
      · cases hy
    · cases hy
  · cases hy
theorem yAtStore_ok {k : Nat} (h : IsExt P k Extern.Atomic.storeT) : ExtOk P G N k yAtStore := by
  obtain ⟨fn, h1, h2, h3, h4, h5⟩ := h
  intro args hh v h' hy π w cargs hg hr hargs
  unfold yAtStore at hy
  split at hy
  · rename_i id o K n
    split at hy
    · rename_i h'' hp
      simp only [Option.some.injEq, Prod.mk.injEq] at hy
      obtain ⟨rfl, rfl⟩ := hy
      obtain ⟨u, y, e, hu, hy⟩ := hargs.two_inv
      obtain rfl := arr_of e
      obtain ⟨L, x, g1, g2, g3, g4⟩ := put_fact hr hp (.int K n) hh.next
      cases hy
      cases hu with
      | ptr hL =>
        rw [g1] at hL; injection hL with hL; subst hL
        exact ⟨π, _, _, run_call_store h1 h2 h3 h4 h5 g2 g3, .tuple .nil, g4⟩
    · cases hy
  · cases hy
theorem yAtCas_ok {k : Nat} {K : IntKind} (h : IsExt P k (Extern.Atomic.casT (.int K))) : ExtOk P G N k (yAtCas K) := by
  obtain ⟨fn, h1, h2, h3, h4, h5⟩ := h
  intro args hh v h' hy π w cargs hg hr hargs
  unfold yAtCas at hy
  split at hy
  · rename_i id o l old j new
    split at hy
    · rename_i i n hc
      rw [Bool.cond_eq_ite] at hy
      split at hy
      · rename_i hk
        simp only [Bool.and_eq_true, decide_eq_true_eq] at hk
        obtain ⟨⟨⟨rfl, rfl⟩, rfl⟩, hsome⟩ := hk
        obtain ⟨u, y, q, e, hu, hy2, hq⟩ := hargs.three_inv
        obtain rfl := arr_of e
        obtain ⟨h'', hp⟩ := Option.isSome_iff_exists.1 hsome
        obtain ⟨L, x, g1, g2, g3, g4⟩ := put_fact hr hp (.int K new) hh.next
        obtain ⟨L', x', f1, f2, f3⟩ := cell_fact hr hc
        rw [g1] at f1; injection f1 with f1; subst f1
        cases f3
        rw [g2] at f2; injection f2 with f2; subst f2
        cases hy2; cases hq
        cases hu with
        | ptr hL =>
          rw [g1] at hL; injection hL with hL; subst hL
          rw [Bool.cond_eq_ite] at hy
          split at hy
          · rename_i hn
            rw [decide_eq_true_eq] at hn
            subst hn
            rw [hp] at hy
            simp only [Option.some.injEq, Prod.mk.injEq] at hy
            obtain ⟨rfl, rfl⟩ := hy
            exact ⟨π, _, _, run_call_cas_hit h1 h2 h3 h4 _ h5 g2 g3, .bool _, g4⟩
          · rename_i hn
            rw [decide_eq_true_eq] at hn
            simp only [Option.some.injEq, Prod.mk.injEq] at hy
            obtain ⟨rfl, rfl⟩ := hy
            exact ⟨π, _, _, run_call_cas_miss h1 h2 h3 h4 _ h5 g2 g3 hn, .bool _, Stp.refl hr _⟩
      · cases hy
    · cases hy
  · cases hy
end
end Go.Proofs.Ytffockklleanmaa.AM

/- Calls that leave what there is as it is: strings.Join. -/
namespace Go.Proofs.Ytffockklleanmaa.AM
open Go Go.RowKit
variable [Tok]
set_option linter.unusedVariables false
set_option linter.unusedSectionVars false
set_option linter.unusedSimpArgs false
section
variable {P : Program} {G N : Nat} {w w' : World} {π : Pi}
theorem stp_below {g : AG} {nx nid : Nat} (hr : HR π N g nx w) (h : Below w.heap.size w w') : Stp π N g nx w π g nx w' nid :=
  ⟨Pi.le.refl π, fun _ h _ _ => h, ⟨fun id o ho => by
      obtain ⟨L, h1, h2⟩ := hr.obj id o ho
      exact ⟨L, h1, h2.mono (Pi.le.refl π) (h.block _ h2.lt)⟩, hr.sep, hr.lim, hr.base.step h.size (fun b hb => h.block b (Nat.lt_of_lt_of_le hb hr.base.le))⟩, Nat.le_refl _, h.os, h.tape, h.output, h.size, fun b hb _ => h.block b hb, fun _ h => .inl h, fun _ o h => .inl ⟨o, h⟩⟩
structure JoinOk (P : Program) (k : Nat) : Prop where
  body : Body P k
  none_ : ∀ (a : Option Addr) (c : Nat) (sep : ByteArray) (w : World), Calls P k #[.slice a 0 c, .string sep] w fun e w' => e = .returned (.string ⟨#[]⟩) ∧ w' = w
  one_ : ∀ (bk o c : Nat) (x sep : ByteArray) (w : World), w.cell? ⟨bk, o, none⟩ = some (.string x) → Calls P k #[.slice (some ⟨bk, o, none⟩) 1 c, .string sep] w fun e w' => e = .returned (.string x) ∧ w' = w
  many_ : ∀ (bk o c : Nat) (xs : List ByteArray) (sep : ByteArray) (w : World), (∀ (j : Nat) x, xs[j]? = some x → w.cell? ⟨bk, o + j, none⟩ = some (.string x)) → bk < w.heap.size → 2 ≤ xs.length → xs.length ≤ 140737488355328 → xs.length ≤ c →
    (Lib.join (xs.map (·.data.toList)) sep.data.toList).length ≤ 140737488355328 →
    Calls P k #[.slice (some ⟨bk, o, none⟩) xs.length c, .string sep] w fun e w' => e = .returned (.string ⟨(Lib.join (xs.map (·.data.toList)) sep.data.toList).toArray⟩) ∧ Below w.heap.size w w'
theorem joinL_eq (sep : List UInt8) : ∀ l : List (List UInt8), joinL sep l = Lib.join l sep
  | [] => by simp [joinL, Lib.join]
  | [x] => by simp [joinL, Lib.join]
  | x :: y :: r => by
    have := joinL_eq sep (y :: r)
    simp only [joinL, this]
    simp [Lib.join, List.intercalate, List.intersperse]
theorem strsOf_spec : ∀ {r : List Value} {l : List (List UInt8)}, strsOf r = some l → ∃ xs : List ByteArray, r = xs.map Value.string ∧ l = xs.map bl
  | [], l, h => by simp only [strsOf, Option.some.injEq] at h; subst h; exact ⟨[], rfl, rfl⟩
  | v :: r, l, h => by
    unfold strsOf at h
    split at h
    · rename_i e; cases e
    · rename_i s r' e
      injection e with e1 e2
      subst e1 e2
      split at h
      · rename_i l' h'
        simp only [Option.some.injEq] at h
        subst h
        obtain ⟨xs, e1, e2⟩ := strsOf_spec h'
        exact ⟨s :: xs, by simp [e1], by simp [e2]⟩
      · cases h
    · cases h
theorem xJoin_ok {k : Nat} (J : JoinOk P k) : ∀ args h v h', xJoin args h = some (v, h') → CallOk P G N k args h v h' := by
  intro args h v h' hx
  refine ⟨J.body, fun π w cargs hg hr hargs => ?_⟩
  unfold xJoin at hx
  split at hx
  · rename_i sep
    simp only [Option.some.injEq, Prod.mk.injEq] at hx
    obtain ⟨rfl, rfl⟩ := hx
    obtain ⟨u, y, e, hu, hy⟩ := hargs.two_inv
    obtain rfl := arr_of e
    cases hu; cases hy
    refine (J.none_ none 0 sep w).mono ?_
    rintro e w' ⟨rfl, rfl⟩
    exact ⟨π, _, rfl, .string _, Stp.refl hr _⟩
  · rename_i id o n cap sep
    split at hx
    · rename_i cs hcs
      split at hx
      · rename_i r hc
        split at hx
        · rename_i l hl
          rw [Bool.cond_eq_ite] at hx
          split at hx
          · rename_i hsmall
            simp only [Bool.and_eq_true, bled, decide_eq_true_eq] at hsmall
            simp only [Option.some.injEq, Prod.mk.injEq] at hx
            obtain ⟨rfl, rfl⟩ := hx
            obtain ⟨u, y, e, hu, hy⟩ := hargs.two_inv
            obtain rfl := arr_of e
            cases hy
            obtain ⟨xs, e1, e2⟩ := strsOf_spec hl
            obtain ⟨rfl, hlen, _⟩ := cut_spec hc
            have hxs : xs.length = n := by
              have := congrArg List.length e1
              simp at this
              omega
            obtain ⟨L, ds, ty, fr, g1, g2, g3⟩ := rd_spec hr hcs
            have hcell : ∀ (j : Nat) x, xs[j]? = some x → w.cell? ⟨L.b, L.d + o + j, none⟩ = some (.string x) := by
              intro j x hj
              have hjn : j < n := by rw [← hxs]; exact (List.getElem?_eq_some_iff.1 hj).1
              have h1 : ((cs.drop o).take n)[j]? = some (.string x) := by rw [e1, List.getElem?_map, hj]; rfl
              rw [List.getElem?_take_of_lt hjn, List.getElem?_drop] at h1
              obtain ⟨q, q1, q2⟩ := g3 (o + j) _ h1
              cases q2
              rw [cell_row g2, ← q1]
              congr 1; omega
            have hblt : L.b < w.heap.size := (Array.getElem?_eq_some_iff.1 g2).1
            rw [e2, joinL_eq] at hsmall
            rw [e2, joinL_eq]
            cases hu with
            | sliceE _ =>
              obtain rfl : xs = [] := List.length_eq_zero_iff.1 hxs
              refine (J.none_ _ _ sep w).mono ?_
              rintro e w' ⟨rfl, rfl⟩
              exact ⟨π, _, rfl, VR.string (lb []), Stp.refl hr _⟩
            | slice hL hcap =>
              rename_i cap' L'
              rw [g1] at hL; injection hL with hL; subst hL
              have hnc : n ≤ cap' := by rcases hcap with ⟨_, e1, e2⟩ | ⟨_, _, _, _, e2⟩ <;> omega
              match xs, hxs with
              | [], hxs =>
                simp only [List.length_nil] at hxs
                subst hxs
                refine (J.none_ _ _ sep w).mono ?_
                rintro e w' ⟨rfl, rfl⟩
                exact ⟨π, _, rfl, VR.string (lb []), Stp.refl hr _⟩
              | [x], hxs =>
                simp only [List.length_singleton] at hxs
                subst hxs
                refine (J.one_ _ _ _ x sep w (hcell 0 x rfl)).mono ?_
                rintro e w' ⟨rfl, rfl⟩
                refine ⟨π, _, rfl, ?_, Stp.refl hr _⟩
                have : lb (Lib.join ([x].map bl) (bl sep)) = x := by simp [Lib.join]; exact lb_bl x
                rw [this]; exact .string _
              | x :: y :: r, hxs =>
                subst hxs
                refine (J.many_ L.b (L.d + o) cap' (x :: y :: r) sep w hcell hblt (by simp) (by omega) hnc (by have := hsmall.2; exact Nat.le_trans this (by decide))).mono ?_
                rintro e w' ⟨rfl, hb⟩
                exact ⟨π, _, rfl, .string _, stp_below hr hb⟩
          · cases hx
        · cases hx
      · cases hx
    · cases hx
  · cases hx
end
end Go.Proofs.Ytffockklleanmaa.AM

/- Closed runs over laid tables. -/
namespace Go.Proofs.Ytffockklleanmaa.AM
open Go Go.RowKit
variable [Tok]
set_option linter.unusedVariables false
set_option linter.unusedSectionVars false
set_option linter.unusedSimpArgs false
/-- the laid tables -/
noncomputable def roTr : List (Nat × List Value) → Tr AObj
  | [] => .nil
  | (g, cs) :: r => (roTr r).put g (some (.ro cs))
noncomputable def roOk (ro : List (Nat × List Value)) (h : AHeap) : Bool := ro.all fun p => match h.get p.1 with | some (.ro ds) => veqs p.2 ds | _ => false
theorem roTr_get : ∀ (ro : List (Nat × List Value)) (id : Nat) (o : AObj), (roTr ro).get id = some o → ∃ cs, (id, cs) ∈ ro ∧ o = .ro cs
  | [], _, _, h => by cases h
  | (g, cs) :: r, id, o, h => by
    simp only [roTr, Tr.get_put] at h
    split at h
    · rename_i e
      subst e
      injection h with h
      exact ⟨cs, .head _, h.symm⟩
    · obtain ⟨cs', h1, h2⟩ := roTr_get r id o h
      exact ⟨cs', .tail _ h1, h2⟩
def Laid (ro : List (Nat × List Value)) (w : World) : Prop := ∀ g cs, (g, cs) ∈ ro → ∃ ds t fr, w.heap[g]? = some (.cells ds t fr) ∧ ∀ (j : Nat) v, cs[j]? = some v → ds[j]? = some v
def okRo (G : Nat) (ro : List (Nat × List Value)) : Bool := ro.all fun p => Nat.blt p.1 G && p.2.all pv1
section
variable {P : Program} {G N : Nat} {E : Env}
theorem own_ro {π : Pi} {ro : List (Nat × List Value)} {nx b : Nat} : ¬ Own π (AHeap.get ⟨roTr ro, nx⟩) b := by
  rintro ⟨id, o, L, h, h2, _⟩
  obtain ⟨cs, _, rfl⟩ := roTr_get ro id o h
  cases h2
theorem hr_ro {π : Pi} {ro : List (Nat × List Value)} {nx : Nat} {w : World} (ho : ∀ g cs, (g, cs) ∈ ro → ∃ L, π g = some L ∧ OR π N (.ro cs) L w) (hl : ∀ id, nx ≤ id → π id = none) (hN : BaseOk N w) : HR π N (AHeap.get ⟨roTr ro, nx⟩) nx w :=
  { obj := fun id o h => by
      obtain ⟨cs, h1, rfl⟩ := roTr_get ro id o h
      exact ho id cs h1
    sep := fun i j o p L M hi hj hor => by
      obtain ⟨cs, _, rfl⟩ := roTr_get ro i o hi
      cases hor
    lim := hl
    base := hN }
/-- a run from the laid tables alone, wherever they are -/
noncomputable def boolX (ro : List (Nat × List Value)) (b : Bool) : Ext := fun args h => match args with
  | [] => bif roOk ro h then some (.bool b, h) else none
  | _ => none
theorem ro_call {n f : Nat} {b : Bool} {h1 : AHeap} {ro : List (Nat × List Value)} (hro : okRo G ro = true) (hc : CallsOk P G N (acall E n)) (hrun : acall E n f [] ⟨roTr ro, G⟩ = some (.bool b, h1)) :
    ∀ args h v h', boolX ro b args h = some (v, h') → CallOk P G N f args h v h' := by
  intro args h v h' hx
  unfold boolX at hx
  split at hx
  · rw [Bool.cond_eq_ite] at hx
    split at hx
    · rename_i hok
      simp only [Option.some.injEq, Prod.mk.injEq] at hx
      obtain ⟨rfl, rfl⟩ := hx
      obtain ⟨hb, hcall⟩ := hc f [] ⟨roTr ro, G⟩ (.bool b) h1 hrun
      refine ⟨hb, fun π w cargs hg hr hargs => ?_⟩
      have hg0 : GR G (fun id => if id < G then π id else none) := fun g hgl => by
        obtain ⟨m, hm⟩ := hg g hgl
        exact ⟨m, by simp only [hgl, if_true]; exact hm⟩
      have hr0 : HR (fun id => if id < G then π id else none) N (AHeap.get ⟨roTr ro, G⟩) G w := by
        refine hr_ro (fun g cs hm => ?_) (fun id hid => if_neg (Nat.not_lt.2 hid)) hr.base
        have h2 := List.all_eq_true.1 hok _ hm
        have h3 := List.all_eq_true.1 hro _ hm
        simp only [Bool.and_eq_true, bltd, decide_eq_true_eq] at h3
        simp only at h2
        split at h2
        · rename_i ds hgd
          have := veqs_eq h2
          subst this
          obtain ⟨L, e1, e2⟩ := hr.obj g _ hgd
          obtain ⟨e0, ds, t, fr, q1, q2⟩ := e2
          refine ⟨L, by simp only [h3.1, if_true]; exact e1, e0, ds, t, fr, q1, fun j v hj => ?_⟩
          obtain ⟨u, u1, u2⟩ := q2 j v hj
          have hpv : pv1 v = true := List.all_eq_true.1 h3.2 v (List.mem_of_getElem? hj)
          refine ⟨u, u1, ?_⟩
          cases u2 <;> first | exact .bool _ | exact .int _ _ | exact .string _ | exact .nilP | exact .slice0 _ _ | exact .map0 | exact .nilFunc | exact .nilIface | (simp [pv1] at hpv; done) | skip
          rename_i fs gs cs' ds' k1 k2
          simp only [pv1, Bool.and_eq_true, List.isEmpty_iff] at hpv
          rw [hpv.1] at k1
          rw [hpv.2] at k2
          refine .func ?_ ?_
          · rw [hpv.1]; generalize gs.toList = z at k1; cases k1; exact .nil
          · rw [hpv.2]; generalize ds'.toList = z at k2; cases k2; exact .nil
        · cases h2
      refine (hcall (fun id => if id < G then π id else none) w cargs hg0 hr0 ?_).mono ?_
      · generalize cargs.toList = l at hargs
        cases hargs; exact .nil
      · rintro e w' ⟨π', v', rfl, hv, hst⟩
        have := hv.bool_inv
        subst this
        exact ⟨π, _, rfl, .bool b, stp_below hr ⟨hst.os, hst.tape, hst.output, hst.size, fun b hb => hst.blk b hb own_ro⟩⟩
    · cases hx
  · cases hx
/-- a law's run over laid tables -/
theorem law_calls_ro {n f : Nat} {args : List Value} {cargs : Array Value} {h' : AHeap} {W : World} {ro : List (Nat × List Value)} (hro : okRo G ro = true) (hG : G ≤ W.heap.size) (hW : Laid ro W) (hc : CallsOk P G W.heap.size (acall E n)) (hrun : acall E n f args ⟨roTr ro, G⟩ = some (.bool true, h')) (hargs : VRs (piG G) args cargs.toList) (hlow : ∀ b, b < W.heap.size → W.heap[b]? = Tok.low b) :
    Calls P f cargs W fun e W' => e = .returned (.bool true) ∧ Below W.heap.size W W' := by
  obtain ⟨_, hcall⟩ := hc f args ⟨roTr ro, G⟩ (.bool true) h' hrun
  have hr0 : HR (piG G) W.heap.size (AHeap.get ⟨roTr ro, G⟩) G W := by
    refine hr_ro (fun g cs hm => ?_) (fun id hid => if_neg (Nat.not_lt.2 hid)) ⟨Nat.le_refl _, hlow⟩
    have h3 := List.all_eq_true.1 hro _ hm
    simp only [Bool.and_eq_true, bltd, decide_eq_true_eq] at h3
    obtain ⟨ds, t, fr, q1, q2⟩ := hW g cs hm
    refine ⟨⟨g, 0, 0⟩, by simp [piG, h3.1], by show g < W.heap.size; omega, ds, t, fr, q1, fun j v hj => ⟨v, by rw [Nat.zero_add]; exact q2 j v hj, .of_pv1 (List.all_eq_true.1 h3.2 v (List.mem_of_getElem? hj))⟩⟩
  refine (hcall (piG G) W cargs piG_gr hr0 hargs).mono ?_
  rintro e w' ⟨π', v', rfl, hv, hst⟩
  have := hv.bool_inv
  subst this
  exact ⟨rfl, hst.os, hst.tape, hst.output, hst.size, fun b hb => hst.blk b hb own_ro⟩
end
end Go.Proofs.Ytffockklleanmaa.AM

/- The machine once more, told so that the kernel reckons it fast; it is the same machine. -/
namespace Go.Proofs.Ytffockklleanmaa.AM
open Go
set_option linter.unusedVariables false
set_option linter.unusedSectionVars false
set_option linter.unusedSimpArgs false
noncomputable section
abbrev R1 := Option (Value × AHeap)
abbrev StepF := Env → CallF → AAct → AHeap → Nat → R1
def rv (r : Option Value) (h : AHeap) : R1 := Option.rec (motive := fun _ => R1) none (fun x => some (x, h)) r
def ru (r : Option AHeap) : R1 := Option.rec (motive := fun _ => R1) none (fun h' => some (undef, h')) r
theorem rv_eq (r : Option Value) (h : AHeap) : rv r h = match r with | some x => some (x, h) | none => none := by cases r <;> rfl
theorem ru_eq (r : Option AHeap) : ru r = match r with | some h' => some (undef, h') | none => none := by cases r <;> rfl
def aevT (t : Nat) (a : AAct) : Value := a.at t
def aevC (v : Value) (_ : AAct) : Value := v
def aevG (g : Nat) (_ : AAct) : Value := .pointer (some ⟨g, 0, none⟩)
def aevU (f : Nat) (_ : AAct) : Value := .func (.func f) #[] #[]
def aevF (x : Operand) : AAct → Value := Operand.rec (motive := fun _ => AAct → Value) aevT aevC aevG aevU x
theorem aevF_eq (x : Operand) (a : AAct) : aevF x a = aev a x := by cases x <;> rfl
def fNone : StepF := fun _ _ _ _ _ => none
def fMove (x : Operand) : StepF := fun E _ a h nid => some (aevF x a, h)
def fPick (c x y : Operand) : StepF := fun E _ a h nid => match aevF c a with | .bool true => some (aevF x a, h) | .bool false => some (aevF y a, h) | _ => none
def fAlloc (e : Nat) : StepF := fun E _ a h nid => match E.T.get e with | some i => aneu h nid i.zero | none => none
def fBox (_ : Nat) (x : Operand) : StepF := fun E _ a h nid => aneu h nid (aevF x a)
def fBuild (t : Nat) (ps : Array (Nat × Operand)) : StepF := fun E _ a h nid => rv (abuild E.T t (ps.toList.map fun p => (p.1, aevF p.2 a))) h
def fBuildSlice (t len : Nat) (ps : Array (Nat × Operand)) : StepF := fun E _ a h nid => abuildSlice E.T h nid t len (ps.toList.map fun p => (p.1, aevF p.2 a))
def fInsert (t : Nat) (m k x : Operand) : StepF := fun E _ a h nid => ru (amapUpdate E.T h t (aevF m a) (aevF k a) (aevF x a))
def fLoad (t : Nat) (x : Operand) : StepF := fun E _ a h nid => rv (aload E.T h t (aevF x a)) h
def fStore (t : Nat) (x y : Operand) : StepF := fun E _ a h nid => ru (astore E.T h t (aevF x a) (aevF y a))
def fNone1 (_ : Nat) : StepF := fNone
def nilc (y : Value) (h : AHeap) : R1 := match y with
  | .pointer none | .nilIface | .nilFunc => none
  | .func (.method _) _ _ => none
  | .chan _ => none
  | y => some (y, h)
def fNilCheck (x : Operand) : StepF := fun E _ a h nid => nilc (aevF x a) h
def fBinOp (op : BinOp) (t : Nat) (x y : Operand) (_ : Nat) : StepF := fun E _ a h nid => rv (abin E.T h op t (aevF x a) (aevF y a)) h
def fUnOp (op : UnOp) (_ : Nat) (x : Operand) : StepF := fun E _ a h nid => rv (aun op (aevF x a)) h
def fConvert (s d : Nat) (x : Operand) : StepF := fun E _ a h nid => aconv E.T h nid s d (aevF x a)
def fNone2 (_ : Nat) (_ : Operand) : StepF := fNone
def fMkIface (t : Nat) (x : Operand) : StepF := fun E _ a h nid => match E.T.get t with
  | some ⟨.iface, _, _, _⟩ => none
  | some _ => some (.iface t (aevF x a), h)
  | none => none
def fMkFunc (fn : Fn) (first cap : Array Operand) : StepF := fun E _ a h nid => some (.func fn (first.map fun x => aevF x a) (cap.map fun x => aevF x a), h)
def fMkMap (_ : Nat) (r : Option Operand) : StepF := Option.rec (motive := fun _ => StepF) (fun E _ a h nid => some (.map (some nid), h.new nid (.map []))) (fun _ => fNone) r
def fMkSlice (t : Nat) (l c : Operand) : StepF := fun E _ a h nid => match E.T.get t, nat? (aevF l a), nat? (aevF c a) with
    | some ⟨.slice e, _, _, _⟩, some l, some c => match E.T.get e with
      | some i => bif Nat.ble l c && Nat.ble (c * (i.bytes + 1)) 281474976710656 && Nat.beq i.zero.cells.toList.length i.size then some (.slice (some ⟨nid, 0, none⟩) l c, h.new nid (.cells (reps i.zero.cells.toList c) true)) else none
      | none => none
    | _, _, _ => none
def fSlice (t : Nat) (x : Operand) (lo hi mx : Option Operand) : StepF := fun E _ a h nid => rv (aslice E.T h t (aevF x a) (lo.map fun x => aevF x a) (hi.map fun x => aevF x a) (mx.map fun x => aevF x a)) h
def fFieldAddr (s : Nat) (x : Operand) (f : Nat) : StepF := fun E _ a h nid => rv (afieldAddr E.T s (aevF x a) f) h
def fField (s : Nat) (x : Operand) (f : Nat) : StepF := fun E _ a h nid => rv (afield E.T s (aevF x a) f) h
def fIndexAddr (t : Nat) (x i : Operand) : StepF := fun E _ a h nid => rv (aindexAddr E.T t (aevF x a) (aevF i a)) h
def fIndex (t : Nat) (x i : Operand) : StepF := fun E _ a h nid => rv (aindex E.T t (aevF x a) (aevF i a)) h
def fLookup (t : Nat) (m k : Operand) (ok : Bool) : StepF := fun E _ a h nid => rv (alookup E.T h t (aevF m a) (aevF k a) ok) h
def fNone3 (_ : Nat) (_ _ : Operand) : StepF := fNone
def fNone4 (_ : Nat) (_ _ _ : Operand) : StepF := fNone
def fRange (t : Nat) (x : Operand) : StepF := fun E _ a h nid => match E.T.get t, aevF x a with
    | some ⟨.string, _, _, _⟩, .string s => some (.pointer (some ⟨nid, 0, none⟩), h.new nid (.siter s 0))
    | _, _ => none
def fNextT (it : Operand) : StepF := fun E _ a h nid => match aevF it a with
    | .pointer (some ⟨r, 0, none⟩) => match h.get r with
      | some (.siter s pos) => bif Nat.blt pos (bl s).length then
          some (.tuple #[.bool true, .int .i64 pos, .int .i32 (Utf8.decode s pos).1], h.set r (.siter s (pos + (Utf8.decode s pos).2)))
        else some (.tuple #[.bool false], h)
      | _ => none
    | _ => none
def fNext (it : Operand) (b : Bool) : StepF := Bool.rec (motive := fun _ => StepF) fNone (fNextT it) b
def fNoneO (_ : Operand) : StepF := fNone
def fAssert (x : Operand) (_ t : Nat) (ok : Bool) : StepF := fun E _ a h nid => match E.T.get t, aevF x a with
    | some ⟨.iface, _, _, _⟩, _ => none
    | some i, .iface u y => if u = t then some (bif ok then .tuple #[y, .bool true] else y, h) else bif ok then some (.tuple #[i.zero, .bool false], h) else none
    | _, _ => none
def fExtract (x : Operand) (i : Nat) : StepF := fun E _ a h nid => match aevF x a with | .tuple vs => rv vs.toList[i]? h | _ => none
def argsF (c : Call) (a : AAct) : List Value := c.args.toList.map fun x => aevF x a
def callG (E : Env) (callf : CallF) (g : Nat) (l : List Value) (h : AHeap) : R1 := Option.rec (motive := fun _ => R1) (callf g l h) (fun y => y l h) (E.Y g)
def fCallV (c : Call) (f : Operand) : StepF := Operand.rec (motive := fun _ => StepF)
  (fun t E callf a h nid => match a.at t with | .func (.func g) first cap => callG E callf g (first.toList ++ argsF c a ++ cap.toList) h | _ => none)
  (fun v E callf a h nid => match v with | .func (.func g) first cap => callG E callf g (first.toList ++ argsF c a ++ cap.toList) h | _ => none)
  (fun _ => fNone) (fun g E callf a h nid => callG E callf g (argsF c a) h) f
def fInvoke (c : Call) (r : Operand) (m : String) : StepF := fun E callf a h nid => match aevF r a with
      | .iface t v => match methodOf E.M t m with
        | some (g, none) => callf g (v :: argsF c a) h
        | some (g, some e) => match aload E.T h e v with
          | some x => callf g (x :: argsF c a) h
          | none => none
        | none => none
      | _ => none
def fBuiltin (c : Call) (b : Builtin) : StepF := fun E callf a h nid => abuiltin E.T h nid b c.argTypes.toList (argsF c a)
def fCall (c : Call) : StepF := Callee.rec (motive := fun _ => StepF) (fCallV c) (fInvoke c) (fBuiltin c) c.callee
def fNoneC (_ : Call) : StepF := fNone
def fNoneOO (_ _ : Operand) : StepF := fNone
def fNoneR (_ : Nat) (_ : Operand) (_ : Bool) : StepF := fNone
def fNoneS (_ : Array SelectCase) (_ : Bool) : StepF := fNone
def step0F (op : Op) : StepF := Op.rec (motive := fun _ => StepF) fMove fMove fPick fAlloc fBox fBuild fBuildSlice fInsert fLoad fStore fNone1 fNone1 fNilCheck fBinOp fUnOp fConvert fNone2 fMkIface fMkFunc fMkMap fNone2 fMkSlice fSlice fFieldAddr fField fIndexAddr fIndex fLookup fInsert fNone3 fNone4 fRange fNext fNoneO fAssert fExtract fCall fNoneC fNoneC fNoneO fNoneOO fNoneR fNoneS op
theorem map_aev (l : List Operand) (a : AAct) : (l.map fun x => aevF x a) = l.map (aev a) := by
  have hf : (fun x => aevF x a) = aev a := by funext x; exact aevF_eq x a
  rw [hf]
theorem argsF_eq (c : Call) (a : AAct) : argsF c a = c.args.toList.map (aev a) := map_aev _ a
theorem step0F_eq (E : Env) (callf : CallF) (a : AAct) (h : AHeap) (nid : Nat) (o : Oper) : step0F o.op E callf a h nid = astep0 E callf a h nid o := by
  have hf : (fun x => aevF x a) = aev a := by funext x; exact aevF_eq x a
  have hp : (fun p : Nat × Operand => (p.1, aevF p.2 a)) = fun p => (p.1, aev a p.2) := by funext p; rw [aevF_eq]
  obtain ⟨dst, op, ty, pos, after, guard⟩ := o
  cases op
  case call c =>
    obtain ⟨callee, args, argTypes⟩ := c
    cases callee with
    | value f =>
      cases f with
      | tmp t =>
        show (match a.at t with | .func (.func g) first cap => callG E callf g (first.toList ++ argsF _ a ++ cap.toList) h | _ => none) = _
        rw [argsF_eq]
        simp only [astep0, aev]
        cases a.at t <;> first | rfl | skip
        rename_i fn first cap
        cases fn <;> first | rfl | skip
        rename_i g
        simp only [callG]
        cases E.Y g <;> rfl
      | const v =>
        show (match v with | .func (.func g) first cap => callG E callf g (first.toList ++ argsF _ a ++ cap.toList) h | _ => none) = _
        rw [argsF_eq]
        simp only [astep0, aev]
        cases v <;> first | rfl | skip
        rename_i fn first cap
        cases fn <;> first | rfl | skip
        rename_i g
        simp only [callG]
        cases E.Y g <;> rfl
      | global g => rfl
      | func g =>
        show callG E callf g (argsF _ a) h = _
        rw [argsF_eq]
        simp only [astep0, aev, List.nil_append, List.append_nil, callG]
        cases E.Y g <;> rfl
    | invoke r m =>
      show fInvoke _ r m E callf a h nid = _
      simp only [fInvoke, argsF_eq, aevF_eq, astep0]
      rfl
    | builtin b =>
      show fBuiltin _ b E callf a h nid = _
      simp only [fBuiltin, argsF_eq, astep0]
  case move x =>
    show fMove x E callf a h nid = aop E.T (aev a) h nid (.move x)
    simp only [fMove, aop, aevF_eq, hp, hf, rv_eq, ru_eq]
    try rfl
  case assign x =>
    show fMove x E callf a h nid = aop E.T (aev a) h nid (.assign x)
    simp only [fMove, aop, aevF_eq, hp, hf, rv_eq, ru_eq]
    try rfl
  case pick c x y =>
    show fPick c x y E callf a h nid = aop E.T (aev a) h nid (.pick c x y)
    simp only [fPick, aop, aevF_eq, hp, hf, rv_eq, ru_eq]
    try rfl
  case box e x =>
    show fBox e x E callf a h nid = aop E.T (aev a) h nid (.box e x)
    simp only [fBox, aop, aevF_eq, hp, hf, rv_eq, ru_eq]
    try rfl
  case build t ps =>
    show fBuild t ps E callf a h nid = aop E.T (aev a) h nid (.build t ps)
    simp only [fBuild, aop, aevF_eq, hp, hf, rv_eq, ru_eq]
    try rfl
  case buildSlice t n ps =>
    show fBuildSlice t n ps E callf a h nid = aop E.T (aev a) h nid (.buildSlice t n ps)
    simp only [fBuildSlice, aop, aevF_eq, hp, hf, rv_eq, ru_eq]
    try rfl
  case insert t m k x =>
    show fInsert t m k x E callf a h nid = aop E.T (aev a) h nid (.insert t m k x)
    simp only [fInsert, aop, aevF_eq, hp, hf, rv_eq, ru_eq]
    try rfl
  case load t x =>
    show fLoad t x E callf a h nid = aop E.T (aev a) h nid (.load t x)
    simp only [fLoad, aop, aevF_eq, hp, hf, rv_eq, ru_eq]
    try rfl
  case store t x y =>
    show fStore t x y E callf a h nid = aop E.T (aev a) h nid (.store t x y)
    simp only [fStore, aop, aevF_eq, hp, hf, rv_eq, ru_eq]
    try rfl
  case nilCheck x =>
    show fNilCheck x E callf a h nid = aop E.T (aev a) h nid (.nilCheck x)
    simp only [fNilCheck, nilc, aop, aevF_eq, hp, hf, rv_eq, ru_eq]
    try rfl
  case binOp op t x y u =>
    show fBinOp op t x y u E callf a h nid = aop E.T (aev a) h nid (.binOp op t x y u)
    simp only [fBinOp, aop, aevF_eq, hp, hf, rv_eq, ru_eq]
    try rfl
  case unOp op t x =>
    show fUnOp op t x E callf a h nid = aop E.T (aev a) h nid (.unOp op t x)
    simp only [fUnOp, aop, aevF_eq, hp, hf, rv_eq, ru_eq]
    try rfl
  case convert s d x =>
    show fConvert s d x E callf a h nid = aop E.T (aev a) h nid (.convert s d x)
    simp only [fConvert, aop, aevF_eq, hp, hf, rv_eq, ru_eq]
    try rfl
  case makeInterface t x =>
    show fMkIface t x E callf a h nid = aop E.T (aev a) h nid (.makeInterface t x)
    simp only [fMkIface, aop, aevF_eq, hp, hf, rv_eq, ru_eq]
    try rfl
  case makeFunc fn f c =>
    show fMkFunc fn f c E callf a h nid = aop E.T (aev a) h nid (.makeFunc fn f c)
    simp only [fMkFunc, aop, aevF_eq, hp, hf, rv_eq, ru_eq]
    try rfl
  case makeSlice t l c =>
    show fMkSlice t l c E callf a h nid = aop E.T (aev a) h nid (.makeSlice t l c)
    simp only [fMkSlice, aop, aevF_eq, hp, hf, rv_eq, ru_eq]
    try rfl
  case slice t x lo hi mx =>
    show fSlice t x lo hi mx E callf a h nid = aop E.T (aev a) h nid (.slice t x lo hi mx)
    simp only [fSlice, aop, aevF_eq, hp, hf, rv_eq, ru_eq]
    try rfl
  case fieldAddr s x f =>
    show fFieldAddr s x f E callf a h nid = aop E.T (aev a) h nid (.fieldAddr s x f)
    simp only [fFieldAddr, aop, aevF_eq, hp, hf, rv_eq, ru_eq]
    try rfl
  case field s x f =>
    show fField s x f E callf a h nid = aop E.T (aev a) h nid (.field s x f)
    simp only [fField, aop, aevF_eq, hp, hf, rv_eq, ru_eq]
    try rfl
  case indexAddr t x i =>
    show fIndexAddr t x i E callf a h nid = aop E.T (aev a) h nid (.indexAddr t x i)
    simp only [fIndexAddr, aop, aevF_eq, hp, hf, rv_eq, ru_eq]
    try rfl
  case index t x i =>
    show fIndex t x i E callf a h nid = aop E.T (aev a) h nid (.index t x i)
    simp only [fIndex, aop, aevF_eq, hp, hf, rv_eq, ru_eq]
    try rfl
  case lookup t m k ok =>
    show fLookup t m k ok E callf a h nid = aop E.T (aev a) h nid (.lookup t m k ok)
    simp only [fLookup, aop, aevF_eq, hp, hf, rv_eq, ru_eq]
    try rfl
  case mapUpdate t m k x =>
    show fInsert t m k x E callf a h nid = aop E.T (aev a) h nid (.mapUpdate t m k x)
    simp only [fInsert, aop, aevF_eq, hp, hf, rv_eq, ru_eq]
    try rfl
  case range t x =>
    show fRange t x E callf a h nid = aop E.T (aev a) h nid (.range t x)
    simp only [fRange, aop, aevF_eq, hp, hf, rv_eq, ru_eq]
    try rfl
  case typeAssert x u t ok =>
    show fAssert x u t ok E callf a h nid = aop E.T (aev a) h nid (.typeAssert x u t ok)
    simp only [fAssert, aop, aevF_eq, hp, hf, rv_eq, ru_eq]
    try rfl
  case extract x i =>
    show fExtract x i E callf a h nid = aop E.T (aev a) h nid (.extract x i)
    simp only [fExtract, aop, aevF_eq, hp, hf, rv_eq, ru_eq]
    try rfl
  case makeMap t r => cases r <;> rfl
  case next it b =>
    cases b with
    | false => rfl
    | true =>
      show fNextT it E callf a h nid = aop E.T (aev a) h nid (.next it true)
      simp only [fNextT, aop, aevF_eq]
      rfl
  all_goals rfl
/-! ### operations, regions -/
def stepF (E : Env) (callf : CallF) (a : AAct) (h : AHeap) (nid : Nat) (o : Oper) : R1 :=
  Option.rec (motive := fun _ => R1) (bif Nat.beq (kindOf o.op) 0 && noDefer o.op then (match E.Tb o.op (o.op.operands.toList.map (aev a)) with
    | some v => some (v, h)
    | none => none) else none) (fun r => some r) (step0F o.op E callf a h nid)
theorem stepF_eq : stepF = astep := by
  funext E callf a h nid o
  unfold stepF astep
  rw [step0F_eq]
  cases astep0 E callf a h nid o <;> rfl
abbrev SeqF := AAct → AHeap → Option (AAct × AHeap)
def seqRun (E : Env) (callf : CallF) (o : Oper) (ih : SeqF) (a : AAct) (h : AHeap) : Option (AAct × AHeap) :=
  Option.rec (motive := fun _ => Option (AAct × AHeap)) none (fun r => ih (a.put o.dst r.1) r.2) (stepF E callf a h h.next o)
def seqStep (E : Env) (callf : CallF) (ops : Array Oper) (o : Oper) (ih : SeqF) (a : AAct) (h : AHeap) : Option (AAct × AHeap) :=
  Option.rec (motive := fun _ => Option (AAct × AHeap)) (seqRun E callf o ih a h) (fun _ => bif awants ops a o then seqRun E callf o ih a h else ih (a.put o.dst undef) h) o.guard
def seqF (E : Env) (callf : CallF) (ops : Array Oper) (os : List Oper) : SeqF :=
  List.rec (motive := fun _ => SeqF) (fun a h => some (a, h)) (fun o _ ih => seqStep E callf ops o ih) os
theorem seqF_eq (E : Env) (callf : CallF) (ops : Array Oper) : ∀ (os : List Oper) (a : AAct) (h : AHeap), seqF E callf ops os a h = aseq E callf ops os a h
  | [], a, h => rfl
  | o :: os, a, h => by
    have ih : seqF E callf ops os = aseq E callf ops os := by funext a h; exact seqF_eq E callf ops os a h
    show seqStep E callf ops o (seqF E callf ops os) a h = _
    rw [ih]
    have hrun : seqRun E callf o (aseq E callf ops os) a h = (match astep E callf a h h.next o with
      | some (v, h') => aseq E callf ops os (a.put o.dst v) h'
      | none => none) := by
      unfold seqRun
      rw [stepF_eq]
      cases astep E callf a h h.next o with
      | none => rfl
      | some r => obtain ⟨v, h'⟩ := r; rfl
    unfold seqStep
    rw [hrun]
    simp only [aseq]
    cases hg : o.guard with
    | none =>
      have : awants ops a o = true := by unfold awants; rw [hg]
      rw [this]; rfl
    | some jw => rfl
def dstepF (E : Env) (callf : CallF) (ops : Array Oper) (b : Array Nat) (base : Nat) (o : Oper) (i : Nat) (s : DSt) : Option DSt :=
  bif !(awants ops s.a o) then some { s with a := s.a.put o.dst undef }
  else match kindOf o.op with
    | 0 => match stepF E callf s.a (vis b base i s.g s.p) (base + i) o with
      | some (v, _) => some { s with a := s.a.put o.dst v, rs := bif pureOp o.op then s.rs else ⟨i, o, s.a, v⟩ :: s.rs }
      | none => none
    | 1 => match stepF E callf s.a ⟨.nil, base + i⟩ (base + i) o with
      | some (v, h) => match h.get (base + i) with
        | some x => some { s with a := s.a.put o.dst v, p := (i, x) :: s.p }
        | none => none
      | none => none
    | _ => bif (match s.ws with | [] => true | (j, _) :: _ => isIn b j i) then
        (match stepF E callf s.a (vis b base i s.g s.p) (base + i) o with
        | some (v, g') => some { s with a := s.a.put o.dst v, g := g', p := s.p.filter (fun q => !(isIn b q.1 i)), ws := (i, s.g, s.p) :: s.ws }
        | none => none) else none
theorem dstepF_eq : dstepF = dstep := by
  funext E callf ops b base o i s
  unfold dstepF dstep
  rw [stepF_eq]
  rfl
def dgoF (E : Env) (callf : CallF) (ops : Array Oper) (b : Array Nat) (base : Nat) : List (Oper × Nat) → DSt → Option DSt
  | [], s => some s
  | q :: r, s => match dstepF E callf ops b base q.1 q.2 s with
    | some s' => dgoF E callf ops b base r s'
    | none => none
theorem dgoF_eq (E : Env) (callf : CallF) (ops : Array Oper) (b : Array Nat) (base : Nat) : ∀ (l : List (Oper × Nat)) (s : DSt), dgoF E callf ops b base l s = dgo E callf ops b base l s
  | [], s => rfl
  | (o, i) :: r, s => by
    simp only [dgoF, dgo, dstepF_eq]
    cases dstep E callf ops b base o i s with
    | none => rfl
    | some s' => exact dgoF_eq E callf ops b base r s'
def readsF (E : Env) (callf : CallF) (b : Array Nat) (base : Nat) (d : DRec) : AHeap → Pend → List (Nat × AHeap × Pend) → Bool
  | g, p, ws =>
    let here : Bool := match stepF E callf d.a (vis b base d.i g p) (base + d.i) d.o with | some (v, _) => veq v d.v | none => false
    match ws with
    | [] => here
    | (j, g', p') :: r =>
      (isIn b d.i j || here) && (isIn b j d.i || readsF E callf b base d g' p' r)
theorem readsF_eq (E : Env) (callf : CallF) (b : Array Nat) (base : Nat) (d : DRec) : ∀ (ws : List (Nat × AHeap × Pend)) (g : AHeap) (p : Pend), readsF E callf b base d g p ws = reads E callf b base d g p ws
  | [], g, p => by simp only [readsF, reads, stepF_eq]; rfl
  | (j, g', p') :: r, g, p => by simp only [readsF, reads, stepF_eq, readsF_eq E callf b base d r g' p']; rfl
def drawF (E : Env) (callf : CallF) (ops : Array Oper) (a : AAct) (h : AHeap) : Option (AAct × AHeap) :=
  let b := Region.before ops
  let base := h.next
  let l := ops.toList.zipIdx
  bif tmpsOk ops b l && l.all (fun q => q.1.after.all fun e => !(Region.binds .any e) || Nat.blt e.on q.2) then
    match dgoF E callf ops b base l ⟨a, ⟨h.t, base + ops.size⟩, [], [], []⟩ with
    | some s => bif s.rs.all (fun d => readsF E callf b base d s.g s.p s.ws) then some (s.a, s.p.foldr (fun q h => ⟨h.t.put (base + q.1) (some q.2), h.next⟩) s.g) else none
    | none => none
  else none
theorem drawF_eq (E : Env) (callf : CallF) (ops : Array Oper) (a : AAct) (h : AHeap) : drawF E callf ops a h = adraw0 E callf ops a h := by
  simp only [drawF, adraw0, dgoF_eq, readsF_eq]
  rfl
def anyDrawF (E : Env) (callf : CallF) (ops : Array Oper) (a : AAct) (h : AHeap) : Option (AAct × AHeap) :=
  bif ops.toList.any (fun o => isInsert o.op) then adrawM E callf ops a h else drawF E callf ops a h
/-! ### code -/
abbrev R2 := Option (Exit × AAct × AHeap)
abbrev CodeF := AAct → AHeap → R2
def cSkip : CodeF := fun a h => some (.normal, a, h)
def normF (r : Option (AAct × AHeap)) : R2 := Option.rec (motive := fun _ => R2) none (fun q => some (.normal, q.1, q.2)) r
def cRegion (E : Env) (callf : CallF) (ops : Array Oper) (draw : Bool) : CodeF := fun a h => normF (Bool.rec (motive := fun _ => Option (AAct × AHeap)) (seqF E callf ops ops.toList a h) (anyDrawF E callf ops a h) draw)
def cSeqK (g : CodeF) (q : Exit × AAct × AHeap) : R2 := match q.1 with | .normal => g q.2.1 q.2.2 | _ => some q
def cSeq (f g : CodeF) : CodeF := fun a h => Option.rec (motive := fun _ => R2) none (cSeqK g) (f a h)
def cCond (c : Operand) (f g : CodeF) : CodeF := fun a h => match aevF c a with | .bool b => Bool.rec (motive := fun _ => R2) (g a h) (f a h) b | _ => none
def cBlockK (id : Nat) (q : Exit × AAct × AHeap) : R2 := match q.1 with | .exit j => some (Bool.rec (motive := fun _ => Exit) (.exit j) .normal (Nat.beq j id), q.2.1, q.2.2) | _ => some q
def cBlock (id : Nat) (f : CodeF) : CodeF := fun a h => Option.rec (motive := fun _ => R2) none (cBlockK id) (f a h)
def loopF (f : CodeF) (n : Nat) : CodeF := Nat.rec (motive := fun _ => CodeF) (fun _ _ => none) (fun _ ih a h => Option.rec (motive := fun _ => R2) none (cSeqK ih) (f a h)) n
def cRange (E : Env) (callf : CallF) (n : Nat) (f : Operand) (ps : Array Tmp) (x y : CodeF) : CodeF := fun a h => match aev a f with
    | .func (.func g) first cap => match first.toList, cap.toList with
      | [], [.pointer (some ⟨bx, o, none⟩)] => bif E.R g && Nat.beq ps.size 2 then (match backList h bx o with
        | some vs => match arange y x a ps.toList bx o vs vs.length h with
          | some (e, h') => some (e, a, h')
          | none => none
        | none => none) else none
      | _, _ => none
    | _ => none
def cNone : CodeF := fun _ _ => none
def codeF (E : Env) (callf : CallF) (n : Nat) (c : Code) : CodeF := Code.rec (motive := fun _ => CodeF) cSkip (fun _ ops draw => cRegion E callf ops draw) (fun _ _ f g => cSeq f g) (fun c _ _ f g => cCond c f g) (fun id _ f => cBlock id f) (fun _ f => loopF f n) (fun f ps _ _ x y => cRange E callf n f ps x y) (fun id a h => some (.exit id, a, h)) (fun _ _ => cNone) (fun _ => cSkip) (fun _ => cNone) (fun a h => some (.ret, a, h)) (fun _ => cNone) c
theorem loopF_eq (f : CodeF) : ∀ (n : Nat) (a : AAct) (h : AHeap), loopF f n a h = aloop f n a h
  | 0, a, h => rfl
  | n + 1, a, h => by
    have ih : loopF f n = aloop f n := by funext a h; exact loopF_eq f n a h
    show Option.rec (motive := fun _ => R2) none (cSeqK (loopF f n)) (f a h) = _
    rw [ih]
    simp only [aloop]
    cases f a h with
    | none => rfl
    | some q => obtain ⟨e, a', h'⟩ := q; cases e <;> rfl
theorem codeF_eq (E : Env) (callf : CallF) (n : Nat) : ∀ (c : Code) (a : AAct) (h : AHeap), codeF E callf n c a h = acode E callf n c a h := by
  intro c
  induction c with
  | skip => intro a h; rfl
  | region id ops draw =>
    intro a h
    show normF (Bool.rec (motive := fun _ => Option (AAct × AHeap)) (seqF E callf ops ops.toList a h) (anyDrawF E callf ops a h) draw) = _
    simp only [acode]
    cases draw with
    | false =>
      simp only [cond_false]
      rw [seqF_eq]
      cases aseq E callf ops ops.toList a h with
      | none => rfl
      | some q => rfl
    | true =>
      simp only [cond_true]
      have : anyDrawF E callf ops a h = adraw E callf ops a h := by unfold anyDrawF adraw; rw [drawF_eq]
      rw [this]
      cases adraw E callf ops a h with
      | none => rfl
      | some q => rfl
  | seq x y ihx ihy =>
    intro a h
    have hy : codeF E callf n y = acode E callf n y := by funext a h; exact ihy a h
    show Option.rec (motive := fun _ => R2) none (cSeqK (codeF E callf n y)) (codeF E callf n x a h) = _
    rw [hy, ihx]
    simp only [acode]
    cases acode E callf n x a h with
    | none => rfl
    | some q => obtain ⟨e, a', h'⟩ := q; cases e <;> rfl
  | cond c x y ihx ihy =>
    intro a h
    show (match aevF c a with | .bool b => Bool.rec (motive := fun _ => R2) (codeF E callf n y a h) (codeF E callf n x a h) b | _ => none) = _
    rw [aevF_eq, ihx, ihy]
    simp only [acode]
    cases aev a c <;> first | rfl | skip
    rename_i b
    cases b <;> rfl
  | block id x ih =>
    intro a h
    show Option.rec (motive := fun _ => R2) none (cBlockK id) (codeF E callf n x a h) = _
    rw [ih]
    simp only [acode]
    cases acode E callf n x a h with
    | none => rfl
    | some q =>
      obtain ⟨e, a', h'⟩ := q
      cases e <;> first | rfl | skip
      rename_i j
      simp only [cBlockK]
      cases Nat.beq j id <;> rfl
  | loop x ih =>
    intro a h
    have hx : codeF E callf n x = acode E callf n x := by funext a h; exact ih a h
    show loopF (codeF E callf n x) n a h = _
    rw [hx, loopF_eq]
    rfl
  | rangeFunc f ps x y ihx ihy =>
    intro a h
    have hx : codeF E callf n x = acode E callf n x := by funext a h; exact ihx a h
    have hy : codeF E callf n y = acode E callf n y := by funext a h; exact ihy a h
    show cRange E callf n f ps (codeF E callf n x) (codeF E callf n y) a h = _
    rw [hx, hy]
    simp only [cRange, acode]
    rfl
  | exit id => intro a h; rfl
  | scope x => intro a h; rfl
  | label l => intro a h; rfl
  | goto l => intro a h; rfl
  | ret => intro a h; rfl
  | refuse s => intro a h; rfl
/-! ### calls -/
def endF (T : Tr TI) (fn : Func) (q : Exit × AAct × AHeap) : R1 :=
  match q.1 with
  | .normal => (match aresults T q.2.2 q.2.1 fn.results.toList with | some l => some (oneOf l, q.2.2) | none => none)
  | .ret => (match aresults T q.2.2 q.2.1 fn.results.toList with | some l => some (oneOf l, q.2.2) | none => none)
  | _ => none
def bodyF (E : Env) (callf : CallF) (n : Nat) (fn : Func) (args : List Value) (h : AHeap) : R1 :=
  Option.rec (motive := fun _ => R1) none (fun c => Option.rec (motive := fun _ => R1) none (endF E.T fn) (codeF E callf n c ⟨args.length + (fn.ntmps - args.length), Tr.ofList args 0 .nil⟩ h)) fn.body
def callF1 (E : Env) (n : Nat) (ih : CallF) (f : Nat) (args : List Value) (h : AHeap) : R1 :=
  Option.rec (motive := fun _ => R1) (Option.rec (motive := fun _ => R1) none (fun fn => bodyF E ih n fn args h) (E.F.get f)) (fun x => x args h) (E.X f)
def callF (E : Env) (n : Nat) : CallF := Nat.rec (motive := fun _ => CallF) (fun _ _ _ => none) (fun n ih => callF1 E n ih) n
theorem callF_eq (E : Env) : ∀ (n f : Nat) (args : List Value) (h : AHeap), callF E n f args h = acall E n f args h
  | 0, f, args, h => rfl
  | n + 1, f, args, h => by
    have ih : callF E n = acall E n := by funext f args h; exact callF_eq E n f args h
    show callF1 E n (callF E n) f args h = _
    rw [ih]
    unfold callF1
    simp only [acall]
    cases E.X f with
    | some x => rfl
    | none =>
      cases E.F.get f with
      | none => rfl
      | some fn =>
        show bodyF E (acall E n) n fn args h = _
        unfold bodyF
        simp only
        cases fn.body with
        | none => rfl
        | some c =>
          simp only [codeF_eq]
          cases acode E (acall E n) n c ⟨args.length + (fn.ntmps - args.length), Tr.ofList args 0 .nil⟩ h with
          | none => rfl
          | some q =>
            obtain ⟨e, a', h'⟩ := q
            cases e <;> rfl
end
end Go.Proofs.Ytffockklleanmaa.AM

/- slices.Backward over numbers: its iterator hands over the slice's numbers from the end on. -/
namespace Go.Proofs.Ytffockklleanmaa.AM
open Go Go.RowKit Go.Shelf
variable [Tok]
set_option linter.unusedVariables false
set_option linter.unusedSectionVars false
set_option linter.unusedSimpArgs false
attribute [local go_sem] Oper.semAt_some
set_option maxRecDepth 100000 in
set_option maxHeartbeats 2000000 in
theorem back_ok : BackOk Try.prog 45 := by
  refine ⟨enters_of Try.func45 (by kernel_rfl) rfl, ?_⟩
  intro n bx vs hlen l J Jx W hH hY h0
  obtain ⟨A, cap, hc, he⟩ := hH 0 W (.inr rfl) h0
  refine callsIn_of_wp Try.func45 rfl trivial ?_ rfl
  simp only [Try.ntmps45, List.size_toArray, List.length_cons, List.length_nil, Nat.reduceAdd, Nat.reduceSub, Array.replicate_succ, Array.replicate_zero, List.push_toArray, List.append_toArray, List.nil_append, List.cons_append]
  gi_wp2
  gi_loopw [3] (fun i wr => ∃ m : Nat, m ≤ vs.length ∧ i = .int .i64 ((m : Int) - 1) ∧ J (vs.length - m) wr) (fun i _ => (intOf i + 1).toNat)
  case atStart => exact ⟨vs.length, Nat.le_refl _, by go_num, by rw [Nat.sub_self]; exact h0⟩
  case round =>
    obtain ⟨m, hm, rfl, hJ⟩ := hrel
    cases m with
    | zero =>
      gi_wp2
      go_end0
      exact ⟨⟨_, rfl⟩, .inl (by simpa using hJ)⟩
    | succ m =>
      have e1 : ((m + 1 : Nat) : Int) - 1 = (m : Int) := by omega
      rw [e1]
      have e2 : vs.length - 1 - (vs.length - (m + 1)) = m := by omega
      obtain ⟨A1, cap1, hc1, he1⟩ := hH _ wr (.inl (by omega)) hJ
      obtain ⟨b, o, rfl, hcs⟩ := he1 (by intro e; rw [e] at hm; simp at hm)
      have hx := hcs m (vs.getD m 0) (by rw [List.getD_eq_getElem?_getD, List.getElem?_eq_getElem (by omega)]; rfl)
      obtain ⟨fn, tmps, assign, body, hy, hR⟩ := hY (vs.length - (m + 1)) wr (by omega) hJ
      rw [e2] at hy
      generalize vs.getD m 0 = x at *
      gi_wp2
      refine ⟨by simp [Fence.wide], hR.mono ?_⟩
      rintro e W3 (⟨rfl, hJ3⟩ | ⟨rfl, hJx3⟩)
      · gi_wp2
        go_roundw
        case rel => exact ⟨m, by omega, by go_num, by rw [show vs.length - m = vs.length - (m + 1) + 1 by omega]; exact hJ3⟩
        case measure => simp [intOf]
      · gi_wp2
        refine bodyPost_ret (results_none rfl _ _ _) rfl ?_
        exact ⟨⟨_, rfl⟩, .inr ⟨_, by omega, hJx3⟩⟩
end Go.Proofs.Ytffockklleanmaa.AM

/- The machine at the pool's translation, and PoolReuses' numbers by token. -/
namespace Go.Proofs.Ytffockklleanmaa.AM
open Go Go.RowKit Go.Proofs
set_option linter.unusedVariables false
set_option linter.unusedSectionVars false
set_option linter.unusedSimpArgs false
def RE : Nat → Bool := fun k => Nat.beq k 45
def noX : Nat → Option Ext := fun _ => none
noncomputable def env (X : Nat → Option Ext) (Tb : Op → List Value → Option Value) : Env := mk Try.prog X noX [] RE Tb
theorem okT_ : okT Try.prog = true := by kernel_rfl
theorem okF_ : okF Try.prog 0 = true := by kernel_rfl
theorem mixed_ : Try.prog.follows .mixedOrders = true := by kernel_rfl
section
variable [Tok]
def TbOk (P : Program) (G N : Nat) (Tb : Op → List Value → Option Value) : Prop := ∀ op vs v, Tb op vs = some v → ∀ (o : Oper) (π : Pi) (g : AG) (nx : Nat) (w : World) (ρ : Operand → Value), o.op = op → GR G π → HR π N g nx w → VRs π vs (op.operands.toList.map ρ) → ∃ v', (execOp ρ o).run P w = .ok (.value v') w ∧ VR π v v'
theorem eok {N : Nat} {X : Nat → Option Ext} {Tb : Op → List Value → Option Value} (hX : ∀ k x, X k = some x → ∀ args h v h', x args h = some (v, h') → CallOk Try.prog 0 N k args h v h') (hT : TbOk Try.prog 0 N Tb) : EOk Try.prog 0 N (env X Tb) :=
  { t := mk_t okT_
    f := mk_f okF_
    x := hX
    y := fun k y h => by cases h
    m := fun t n f hm => by cases hm
    md := fun t n f e hm => by cases hm
    r := by
      intro g hg
      have hg : Nat.beq g 45 = true := hg
      rw [beqd, decide_eq_true_eq] at hg
      subst hg
      exact back_ok
    tb := hT }
theorem sound {N : Nat} {X : Nat → Option Ext} {Tb : Op → List Value → Option Value} (hX : ∀ k x, X k = some x → ∀ args h v h', x args h = some (v, h') → CallOk Try.prog 0 N k args h v h') (hT : TbOk Try.prog 0 N Tb) (n : Nat) : CallsOk Try.prog 0 N (acall (env X Tb) n) := machine_sound mixed_ (eok hX hT) n
def noTb : Op → List Value → Option Value := fun _ _ => none
theorem noTb_ok {N : Nat} : TbOk Try.prog 0 N noTb := fun _ _ _ h => by cases h
theorem noX_ok {N : Nat} : ∀ k x, noX k = some x → ∀ args h v h', x args h = some (v, h') → CallOk Try.prog 0 N k args h v h' := fun _ _ h => by cases h
theorem tok_inv {π : Pi} {i : Nat} {u : Value} (h : VR π (.chan (some i)) u) : u = Tok.val i := by cases h; rfl
theorem int_inv {π : Pi} {k : IntKind} {n : Int} {u : Value} (h : VR π (.int k n) u) : u = .int k n := by cases h; rfl
theorem two_inv {π : Pi} {a b u v : Value} (h : VRs π [a, b] [u, v]) : VR π a u ∧ VR π b v := by
  cases h with
  | cons h1 h2 => cases h2 with
    | cons h3 h4 => exact ⟨h1, h3⟩
theorem int_vr {π : Pi} {n : Int} : VR π (.int .i64 n) (.int .i64 n) := .int _ _
end
def resB (r : Option (Value × AHeap)) : Option Bool := match r with | some (.bool b, _) => some b | _ => none
theorem resB_some {r : Option (Value × AHeap)} {b : Bool} (h : resB r = some b) : ∃ h', r = some (.bool b, h') := by
  unfold resB at h
  split at h
  · simp only [Option.some.injEq] at h; subst h; exact ⟨_, rfl⟩
  · cases h
/-- PoolReuses' numbers: most is token 0, order is token 1, order&1023 is token 2, that and n is token n + 3 -/
def tbP (m k : Nat) (op : Op) (vs : List Value) : Option Value :=
  match op with
  | .binOp b _ _ _ _ =>
    match b, vs with
    | .and, [.chan (some 0), .int .i64 x] => bif decide (x = 7) then some (.int .i64 m) else none
    | .and, [.chan (some 1), .int .i64 x] => bif decide (x = 1023) then some (.chan (some 2)) else none
    | .add, [.chan (some i), .int .i64 (.ofNat x)] => bif Nat.beq i 2 && Nat.blt x 100 then some (.chan (some (x + 3))) else none
    | .rem, [.chan (some i), .int .i64 x] => bif Nat.blt 2 i && (Nat.blt i 103 && decide (x = ((m + 2 : Nat) : Int))) then some (.int .i64 ((((k + (i - 3)) % (m + 2) : Nat)) : Int)) else none
    | _, _ => none
  | _ => none
def valP (most order : Int) : Nat → Value
  | 0 => .int .i64 most
  | 1 => .int .i64 order
  | n + 2 => .int .i64 (order % 1024 + ((n - 1 : Nat) : Int))
@[reducible] def tokP (most order : Int) (low : Nat → Option Obj) : Tok where
  val := valP most order
  one := fun i => by unfold valP; split <;> rfl
  nb := fun i b => by unfold valP; split <;> simp
  low := low
theorem run_and {P : Program} {w : World} {ρ : Operand → Value} {o : Oper} {t : TypeId} {x y : Operand} {r : TypeId} {a b : Int} (ho : o.op = .binOp .and t x y r) (hx : ρ x = .int .i64 a) (hy : ρ y = .int .i64 b) : (execOp ρ o).run P w = .ok (.value (.int .i64 (Go.bits .and .i64 a b))) w := by
  simp only [execOp, ho, hx, hy]
  rfl
theorem run_add {P : Program} {w : World} {ρ : Operand → Value} {o : Oper} {t : TypeId} {x y : Operand} {r : TypeId} {a b : Int} (ho : o.op = .binOp .add t x y r) (hx : ρ x = .int .i64 a) (hy : ρ y = .int .i64 b) : (execOp ρ o).run P w = .ok (.value (.int .i64 (IntKind.i64.wrap (a + b)))) w := by
  simp only [execOp, ho, hx, hy]
  rfl
theorem run_rem {P : Program} {w : World} {ρ : Operand → Value} {o : Oper} {t : TypeId} {x y : Operand} {r : TypeId} {a b : Int} (ho : o.op = .binOp .rem t x y r) (hx : ρ x = .int .i64 a) (hy : ρ y = .int .i64 b) (hb : b ≠ 0) : (execOp ρ o).run P w = .ok (.value (.int .i64 (a.tmod b))) w := by
  simp only [execOp, ho, hx, hy]
  show (Sem.run P ((do eqGuard .rem t x y (.int .i64 a) (.int .i64 b); Op.intDiv .rem .i64 a b) >>= fun v => pure (Next.value v)) w) = _
  unfold Op.intDiv
  rw [if_neg hb]
  rfl
end Go.Proofs.Ytffockklleanmaa.AM

/- PoolReuses by closed runs. -/
namespace Go.Proofs.Ytffockklleanmaa.AM
open Go Go.RowKit Go.Proofs
set_option linter.unusedVariables false
set_option linter.unusedSectionVars false
set_option linter.unusedSimpArgs false
theorem tbP_ok {N m k : Nat} {most order : Int} {low : Nat → Option Obj} (hm : most % 8 = m) (hk : (order % 1024) % ((m + 2 : Nat) : Int) = k) : @TbOk (tokP most order low) Try.prog 0 N (tbP m k) := by
  letI := tokP most order low
  have hr0 : 0 ≤ order % 1024 := Int.emod_nonneg _ (by decide)
  have hr1 : order % 1024 < 1024 := Int.emod_lt_of_pos _ (by decide)
  intro op vs v h o π g nx w ρ he hg hr hvs
  unfold tbP at h
  split at h
  · rename_i b t x y r
    have ho : o.op = .binOp b t x y r := he
    have hops : (Op.binOp b t x y r).operands.toList.map ρ = [ρ x, ρ y] := rfl
    rw [hops] at hvs
    split at h
    · rename_i z
      rw [Bool.cond_eq_ite] at h
      split at h
      · rename_i hz
        have hz : z = 7 := by simpa using hz
        subst hz
        simp only [Option.some.injEq] at h
        subst h
        obtain ⟨h1, h2⟩ := two_inv hvs
        refine ⟨_, run_and ho (tok_inv h1) (int_inv h2), ?_⟩
        rw [X.and7, hm]
        exact int_vr
      · cases h
    · rename_i z
      rw [Bool.cond_eq_ite] at h
      split at h
      · rename_i hz
        have hz : z = 1023 := by simpa using hz
        subst hz
        simp only [Option.some.injEq] at h
        subst h
        obtain ⟨h1, h2⟩ := two_inv hvs
        refine ⟨_, run_and ho (tok_inv h1) (int_inv h2), ?_⟩
        rw [X.and1023]
        have := VR.tok (π := π) 2
        have e : (Tok.val 2 : Value) = .int .i64 (order % 1024) := by
          show Value.int .i64 (order % 1024 + ((0 - 1 : Nat) : Int)) = _
          simp
        rw [e] at this
        exact this
      · cases h
    · rename_i i z
      rw [Bool.cond_eq_ite] at h
      split at h
      · rename_i hz
        simp only [Bool.and_eq_true, beqd, bltd, decide_eq_true_eq] at hz
        obtain ⟨hi, hz⟩ := hz
        subst hi
        simp only [Option.some.injEq] at h
        subst h
        obtain ⟨h1, h2⟩ := two_inv hvs
        have e : (Tok.val 2 : Value) = .int .i64 (order % 1024) := by
          show Value.int .i64 (order % 1024 + ((0 - 1 : Nat) : Int)) = _
          simp
        refine ⟨_, run_add ho ((tok_inv h1).trans e) (int_inv h2), ?_⟩
        have := VR.tok (π := π) (z + 3)
        have e2 : (Tok.val (z + 3) : Value) = .int .i64 (order % 1024 + (z : Int)) := by
          show Value.int .i64 (order % 1024 + ((z + 1 - 1 : Nat) : Int)) = _
          simp
        rw [e2] at this
        have e3 : IntKind.i64.wrap (order % 1024 + Int.ofNat z) = order % 1024 + (z : Int) := by
          rw [IntKind.wrap_i64]
          show _ = order % 1024 + (z : Int)
          have : Int.ofNat z = (z : Int) := rfl
          omega
        rw [e3]
        exact this
      · cases h
    · rename_i i z
      rw [Bool.cond_eq_ite] at h
      split at h
      · rename_i hz
        simp only [Bool.and_eq_true, beqd, bltd, decide_eq_true_eq] at hz
        obtain ⟨hi, hi2, hz⟩ := hz
        subst hz
        simp only [Option.some.injEq] at h
        subst h
        obtain ⟨h1, h2⟩ := two_inv hvs
        obtain ⟨n, rfl⟩ : ∃ n, i = n + 3 := ⟨i - 3, by omega⟩
        have e2 : (Tok.val (n + 3) : Value) = .int .i64 (order % 1024 + (n : Int)) := by
          show Value.int .i64 (order % 1024 + ((n + 1 - 1 : Nat) : Int)) = _
          simp
        refine ⟨_, run_rem ho ((tok_inv h1).trans e2) (int_inv h2) (by omega), ?_⟩
        have e4 : (order % 1024 + (n : Int)).tmod ((m + 2 : Nat) : Int) = (((k + (n + 3 - 3)) % (m + 2) : Nat) : Int) := by
          rw [Int.tmod_eq_emod_of_nonneg (by omega), Int.natCast_emod]
          rw [show n + 3 - 3 = n by omega]
          push_cast
          rw [← hk]
          push_cast
          rw [Int.emod_add_emod]
        rw [e4]
        exact int_vr
      · cases h
    · cases h
  · cases h
end Go.Proofs.Ytffockklleanmaa.AM

/- lending: a closed run. -/
namespace Go.Proofs.Ytffockklleanmaa.AM
open Go Go.RowKit Go.Proofs
set_option maxRecDepth 1000000
theorem lending_run : resB (callF (env noX noTb) 1000 20 [] ⟨.nil, 0⟩) = some true := by kernel_rfl
theorem lending_calls (W : World) : Calls Try.prog 20 #[] W fun e W' => e = .returned (.bool true) ∧ Below W.heap.size W W' := by
  letI := tokP 0 0 (fun b => W.heap[b]?)
  obtain ⟨h', hrun⟩ := resB_some lending_run
  rw [callF_eq] at hrun
  exact law_calls (args := []) (sound noX_ok noTb_ok 1000) hrun .nil (fun b _ => rfl)
end Go.Proofs.Ytffockklleanmaa.AM
