import Derived.Test.YteffhomollmpdaaQZ1
import Derived.Test.YteffhomollmpdaaXChg
/- A law over a number and a row of flows: from the machine's run to the program's. -/
namespace Go.Proofs.Yteffhomollmpdaa.X
open Go Go.RowKit Go.Proofs.YteffhomollmpdaaW.PrintWords Go.Proofs.YteffhomollmpdaaW.PrintMore
set_option linter.unusedVariables false
theorem C_map {α β : Type} {d : Kd α} {d' : Kd β} (f : α → β) (hs : d.sz = d'.sz) (hK : ∀ w x cs, d.K w x cs → d'.K w (f x) cs) {w : World} {A : Option Addr} {n : Nat} {xs : List α} (h : Kd.C d w A n xs) : Kd.C d' w A n (xs.map f) := by
  obtain ⟨h1, h2, h3⟩ := h
  refine ⟨by rw [List.length_map]; exact h1, h2, fun hn => ?_⟩
  obtain ⟨ad, e, hc⟩ := h3 hn
  refine ⟨ad, e, fun j p hj => ?_⟩
  rw [List.getElem?_map] at hj
  obtain ⟨q, hq, rfl⟩ := Option.map_eq_some_iff.1 hj
  obtain ⟨c, c1, c2, c3⟩ := hc j q hq
  exact ⟨c, by rw [c1, hs], hK _ _ _ c2, by rw [← hs]; exact c3⟩
def kP : Kd (Int × Int) := Kd.pair (Kd.int .i64) (Kd.int .i64)
theorem kP_open {w : World} {x : Int × Int} {cs : List Value} (h : kP.K w x cs) : cs = [.int .i64 x.1, .int .i64 x.2] := by
  obtain ⟨_, _, rfl, rfl, rfl⟩ := h
  rfl
end Go.Proofs.Yteffhomollmpdaa.X
namespace Go.Proofs.Yteffhomollmpdaa.AM.SX
open Go Go.RowKit Go.Proofs Go.Proofs.Yteffhomollmpdaa.X Go.Proofs.YteffhomollmpdaaW.PrintWords
set_option linter.unusedVariables false
set_option linter.unusedSimpArgs false
set_option maxRecDepth 100000
/-- a law's row of flows as the machine has it -/
def FlowsAt (h : AHeap) (l : List Fl) (sv : Value) (ids : List Nat) : Prop :=
  (l = [] ∧ sv = .chan (some 0) ∧ ids = []) ∨ ∃ b, sv = .slice (some ⟨b, 0, none⟩) l.length (CAPX + 1) ∧ h.get b = some (.ro (kF.fl l)) ∧ ids = [b]
theorem FlowsAt.keep {h h' : AHeap} {l : List Fl} {sv : Value} {ids : List Nat} (hs : FlowsAt h l sv ids) (hk : ∀ i ∈ ids, h'.get i = h.get i) : FlowsAt h' l sv ids := by
  rcases hs with hs | ⟨b, h1, h2, rfl⟩
  · exact .inl hs
  · exact .inr ⟨b, h1, by rw [hk b (.head _)]; exact h2, rfl⟩
@[reducible] def tokL (v : Value) (hv : v.oneCell' = true ∧ ∀ b, v ≠ .bool b) (low : Nat → Option Obj) : Tok where
  val := fun _ => v
  one := fun _ => hv.1
  nb := fun _ b => hv.2 b
  low := low
theorem X_ok [Tok] {N : Nat} : ∀ k x, XL k = some x → ∀ args h v h', x args h = some (v, h') → CallOk Try.prog 0 N k args h v h' := by
  refine trueX_ok (fun f hf h => ?_)
  obtain rfl := List.mem_singleton.1 hf
  obtain ⟨h', hrun⟩ := resB_some alive_run
  rw [callF_eq] at hrun
  exact closed_call (sound noX_ok noTb_ok 1000) hrun h
/-- a law's run from what the world holds -/
theorem law_calls_from [Tok] {n f : Nat} {args : List Value} {cargs : Array Value} {h0 h' : AHeap} {W : World} {π : Pi} (hc : CallsOk Try.prog 0 W.heap.size (acall EE n)) (hrun : acall EE n f args h0 = some (.bool true, h')) (hg : GR 0 π) (hr : HR π W.heap.size h0.get h0.next W) (hargs : VRs π args cargs.toList) (hown : ∀ b, ¬ Own π h0.get b) :
    Calls Try.prog f cargs W fun e W' => e = .returned (.bool true) ∧ Below W.heap.size W W' := by
  obtain ⟨_, hcall⟩ := hc f args h0 (.bool true) h' hrun
  refine (hcall π W cargs hg hr hargs).mono ?_
  rintro e w' ⟨π', v', rfl, hv, hst⟩
  have := hv.bool_inv
  subst this
  exact ⟨rfl, hst.os, hst.tape, hst.output, hst.size, fun b hb => hst.blk b hb (hown b)⟩
theorem flows_cells {W : World} {A : Option Addr} {l : List Fl} (hr : Kd.C kP W A l.length l) (h0 : 0 < l.length) : ∃ bk of ds t fr, A = some ⟨bk, of, none⟩ ∧ W.heap[bk]? = some (.cells ds t fr) ∧ ∀ (i : Nat) (hi : i < l.length), ∀ j u, (kF.enc l[i])[j]? = some u → ds[of + (i * 2 + j)]? = some u := by
  have key : ∀ (i : Nat) (hi : i < l.length), ∃ ad, A = some ad ∧ ∀ j u, (kF.enc l[i])[j]? = some u → W.cell? (ad.add (i * 2 + j)) = some u := by
    intro i hi
    obtain ⟨ad, c, e, _, hK, hc0⟩ := Kd.C_get hr ((0, 0) : Fl) (i : Int) (by omega) (by omega)
    have hg : l.getD (i : Int).toNat (0, 0) = l[i] := by simp [List.getD, hi]
    rw [hg] at hK
    obtain rfl := kP_open hK
    exact ⟨ad, e, fun j u hj => hc0 j u hj⟩
  obtain ⟨ad, e, h1⟩ := key 0 h0
  have h2 := h1 0 _ rfl
  have h3 : W.cell? ad = some (.int .i64 (l[0]'h0).1) := h2
  obtain ⟨bk, of, sp⟩ := ad
  unfold World.cell? at h3
  split at h3
  · rename_i ds t fr hb
    have hsp : sp = none := by
      cases sp with
      | none => rfl
      | some q => simp at h3
    subst hsp
    refine ⟨bk, of, ds, t, fr, e, hb, fun i hi j u hj => ?_⟩
    obtain ⟨ad', e', h4⟩ := key i hi
    rw [e] at e'
    obtain rfl := Option.some.inj e'
    have h5 := h4 j u hj
    have hadd : (⟨bk, of, none⟩ : Addr).add (i * 2 + j) = ⟨bk, of + (i * 2 + j), none⟩ := by
      unfold Addr.add
      split
      · rename_i hz; rw [hz]; rfl
      · rfl
    rw [hadd] at h5
    unfold World.cell? at h5
    simpa [hb] using h5
  · cases h3
theorem fl_at {l : List Fl} {j : Nat} {v : Value} (h : (kF.fl l)[j]? = some v) : ∃ hi : j / 2 < l.length, (kF.enc l[j / 2])[j % 2]? = some v := by
  have hlt := (List.getElem?_eq_some_iff.1 h).1
  rw [kF.fl_len] at hlt
  have hlt : j < l.length * 2 := hlt
  have hi : j / 2 < l.length := by omega
  refine ⟨hi, ?_⟩
  have := kF.fl_get hi (j := j % 2) (show j % 2 < 2 by omega)
  rw [← this, ← h]
  congr 1
  show j / 2 * 2 + j % 2 = j
  omega
/-- a law's row of numbers as the machine has it -/
def NumsAt (h : AHeap) (l : List Int) (sv : Value) (ids : List Nat) : Prop :=
  (l = [] ∧ sv = .chan (some 0) ∧ ids = []) ∨ ∃ b, sv = .slice (some ⟨b, 0, none⟩) l.length (CAPX + 1) ∧ h.get b = some (.ro (ints l)) ∧ ids = [b]
theorem NumsAt.keep {h h' : AHeap} {l : List Int} {sv : Value} {ids : List Nat} (hs : NumsAt h l sv ids) (hk : ∀ i ∈ ids, h'.get i = h.get i) : NumsAt h' l sv ids := by
  rcases hs with hs | ⟨b, h1, h2, rfl⟩
  · exact .inl hs
  · exact .inr ⟨b, h1, by rw [hk b (.head _)]; exact h2, rfl⟩
end Go.Proofs.Yteffhomollmpdaa.AM.SX

/- Robin: what stays true of flows and of a round. -/
namespace Go.Proofs.Yteffhomollmpdaa.AM.SX
open Go Go.Proofs.Yteffhomollmpdaa.X
set_option linter.unusedVariables false
set_option linter.unusedSimpArgs false
set_option maxRecDepth 100000
set_option maxHeartbeats 4000000
theorem insF_mem {S : List Fl} {x y : Fl} (h : y ∈ insF S x) : y = x ∨ y ∈ S := by
  unfold insF at h
  rcases List.mem_append.1 h with h1 | h1
  · exact .inr (List.mem_of_mem_take h1)
  · rcases List.mem_cons.1 h1 with h2 | h2
    · exact .inl h2
    · exact .inr (List.mem_of_mem_drop h2)
theorem foldl_mem : ∀ {l S : List Fl} {y : Fl}, y ∈ l.foldl insF S → y ∈ l ∨ y ∈ S
  | [], S, y, h => .inr h
  | x :: l, S, y, h => by
    rw [List.foldl_cons] at h
    rcases foldl_mem h with h1 | h1
    · exact .inl (.tail _ h1)
    · rcases insF_mem h1 with rfl | h2
      · exact .inl (.head _)
      · exact .inr h2
theorem sortF_mem {l : List Fl} {y : Fl} (h : y ∈ sortF l) : y ∈ l := by
  rcases foldl_mem h with h1 | h1
  · exact h1
  · cases h1
theorem compN_mem {l : List Fl} {y : Fl} : ∀ {k : Nat}, k ≤ l.length → y ∈ compN l k → y ∈ l
  | 0, _, h => by cases h
  | k + 1, hk, h => by
    have h : y ∈ compN l k ++ (if 0 < k ∧ (l.getD k (0, 0)).1 = (l.getD (k - 1) (0, 0)).1 then [] else [l.getD k (0, 0)]) := h
    rcases List.mem_append.1 h with h1 | h1
    · exact compN_mem (by omega) h1
    · split at h1
      · cases h1
      · rw [List.mem_singleton.1 h1, getD_at hk]
        exact List.getElem_mem _
theorem flowsF_mem {l : List Fl} {y : Fl} (h : y ∈ flowsF l) : y ∈ l ∧ 0 < y.2 := by
  unfold flowsF delF at h
  obtain ⟨h1, h2⟩ := List.mem_filter.1 h
  exact ⟨sortF_mem (compN_mem (Nat.le_refl _) h1), by simpa using h2⟩
theorem flowsF_len (l : List Fl) : (flowsF l).length ≤ l.length := by
  refine Nat.le_trans (List.length_filter_le _ _) (Nat.le_trans (compF_len _) ?_)
  rw [sortF_len]; exact Nat.le_refl _
theorem flowsF_wok {l : List Fl} (hb : ∀ x ∈ l, x.2 ≤ 1099511627776) : WOk (flowsF l) := fun x hx => ⟨(flowsF_mem hx).2, hb x (flowsF_mem hx).1⟩
theorem roundL_c : ∀ (k : Nat) (c la : Int) (any : Bool) (lf out : List Fl), 0 ≤ c → WOk lf → 0 ≤ (roundL k c la any lf out).1 ∧ (roundL k c la any lf out).1 ≤ c
  | 0, c, la, any, lf, out, hc, hw => ⟨hc, Int.le_refl _⟩
  | k + 1, c, la, any, lf, out, hc, hw => by
    unfold roundL
    by_cases h0 : lf.length = 0
    · rw [if_pos h0]; exact ⟨Int.le_refl _, hc⟩
    · rw [if_neg h0]
      have hil := pickI_lt (la := la) (any := any) (lf := lf) (by omega)
      have hgd := getD_at hil
      have hx := hw _ (List.getElem_mem hil)
      rw [hgd]
      generalize lf[pickI la any lf] = x at *
      by_cases hcg : c < min x.2 64
      · rw [if_pos hcg]; exact ⟨hc, Int.le_refl _⟩
      · rw [if_neg hcg]
        have hw' : WOk (if x.2 - min x.2 64 = 0 then lf.eraseIdx (pickI la any lf) else lf.set (pickI la any lf) (x.1, x.2 - min x.2 64)) := by
          split
          · exact fun z hz => hw z (List.mem_of_mem_eraseIdx hz)
          · intro z hz
            rcases List.mem_or_eq_of_mem_set hz with h3 | h3
            · exact hw z h3
            · rw [h3]; exact ⟨by show 0 < x.2 - min x.2 64; omega, by show x.2 - min x.2 64 ≤ _; omega⟩
        have := roundL_c k (c - min x.2 64) x.1 true _ (out ++ [(x.1, min x.2 64)]) (by omega) hw'
        omega
end Go.Proofs.Yteffhomollmpdaa.AM.SX

/- RobinOrder: the order in which flows are told doesn't matter. -/
namespace Go.Proofs.Yteffhomollmpdaa.AM.SX
open Go Go.Proofs.Yteffhomollmpdaa.X
set_option linter.unusedVariables false
set_option linter.unusedSimpArgs false
theorem insF_perm (S : List Fl) (x : Fl) : (insF S x).Perm (x :: S) := by
  unfold insF
  have h := List.perm_middle (a := x) (l₁ := S.take (insAt S x S.length)) (l₂ := S.drop (insAt S x S.length))
  rwa [List.take_append_drop] at h
theorem foldl_perm : ∀ (l S : List Fl), (l.foldl insF S).Perm (l ++ S)
  | [], S => .refl _
  | x :: l, S => by
    rw [List.foldl_cons]
    refine (foldl_perm l _).trans ?_
    refine ((insF_perm S x).append_left l).trans ?_
    exact List.perm_middle
theorem sortF_perm (l : List Fl) : (sortF l).Perm l := by
  have := foldl_perm l []
  rwa [List.append_nil] at this
/-- by rising connections -/
def Up (l : List Fl) : Prop := l.Pairwise fun a b => a.1 ≤ b.1
theorem insAt_spec {S : List Fl} (hS : Up S) (x : Fl) : ∀ j, j ≤ S.length → (∀ (q : Nat) (hq : q < S.length), j ≤ q → x.1 ≤ S[q].1) → (∀ (q : Nat) (hq : q < S.length), insAt S x j ≤ q → x.1 ≤ S[q].1) ∧ (∀ (q : Nat) (hq : q < S.length), q < insAt S x j → S[q].1 ≤ x.1) ∧ insAt S x j ≤ j
  | 0, _, h => ⟨h, fun q _ h => absurd h (Nat.not_lt_zero _), Nat.le_refl _⟩
  | j + 1, hj, h => by
    have hjl : j < S.length := hj
    unfold insAt
    rw [getD_at hjl]
    by_cases hx : x.1 < S[j].1
    · rw [if_pos hx]
      obtain ⟨h1, h2, h3⟩ := insAt_spec hS x j (by omega) (fun q hq hjq => by
        rcases Nat.lt_or_ge j q with h4 | h4
        · exact h q hq h4
        · obtain rfl : q = j := by omega
          omega)
      exact ⟨h1, h2, by omega⟩
    · rw [if_neg hx]
      refine ⟨h, fun q hq hqj => ?_, Nat.le_refl _⟩
      rcases Nat.lt_or_ge q j with h4 | h4
      · have := List.pairwise_iff_getElem.1 hS q j hq hjl h4
        omega
      · obtain rfl : q = j := by omega
        omega
theorem insF_up {S : List Fl} (hS : Up S) (x : Fl) : Up (insF S x) := by
  obtain ⟨h1, h2, h3⟩ := insAt_spec hS x S.length (Nat.le_refl _) (fun q hq h => absurd hq (by omega))
  unfold insF Up
  generalize insAt S x S.length = p at *
  have hta : ∀ a ∈ S.take p, a.1 ≤ x.1 := fun a ha => by
    obtain ⟨i, hi, rfl⟩ := List.mem_iff_getElem.1 ha
    rw [List.length_take] at hi
    rw [List.getElem_take]
    exact h2 i (by omega) (by omega)
  have htb : ∀ b ∈ S.drop p, x.1 ≤ b.1 := fun b hb => by
    obtain ⟨i, hi, rfl⟩ := List.mem_iff_getElem.1 hb
    rw [List.length_drop] at hi
    rw [List.getElem_drop]
    exact h1 _ (by omega) (by omega)
  refine List.pairwise_append.2 ⟨hS.sublist (List.take_sublist _ _), List.pairwise_cons.2 ⟨htb, hS.sublist (List.drop_sublist _ _)⟩, fun a ha b hb => ?_⟩
  rcases List.mem_cons.1 hb with rfl | hb
  · exact hta a ha
  · have := hta a ha; have := htb b hb; omega
theorem foldl_up : ∀ (l S : List Fl), Up S → Up (l.foldl insF S)
  | [], S, h => h
  | x :: l, S, h => foldl_up l _ (insF_up h x)
theorem sortF_up (l : List Fl) : Up (sortF l) := foldl_up l [] .nil
/-- unlike connections -/
def Di (l : List Fl) : Prop := (l.map (·.1)).Nodup
theorem Di.perm {l m : List Fl} (h : Di l) (hp : l.Perm m) : Di m := (hp.map (fun x : Fl => x.1)).nodup_iff.1 h
theorem compF_di {l : List Fl} (h : Di l) : compF l = l := by
  unfold compF
  rw [compN_take (Nat.le_refl _) (fun q hq _ e => ?_), List.take_length]
  have := List.pairwise_iff_getElem.1 h q (q + 1) (by simp; omega) (by simpa using hq) (by omega)
  simp only [List.getElem_map] at this
  exact this e.symm
/-- rows by rising, unlike connections that hold the same are the same -/
theorem up_eq : ∀ {l m : List Fl}, Up l → Up m → Di l → Di m → l.Perm m → l = m
  | [], m, _, _, _, _, hp => (List.Perm.nil_eq hp)
  | x :: l, [], _, _, _, _, hp => absurd hp.symm.nil_eq (by simp)
  | x :: l, y :: m, hl, hm, dl, dm, hp => by
    have hxy : x = y := by
      have hx : x ∈ y :: m := hp.subset (.head _)
      have hy : y ∈ x :: l := hp.symm.subset (.head _)
      rcases List.mem_cons.1 hx with h | hx
      · exact h
      · rcases List.mem_cons.1 hy with h | hy
        · exact h.symm
        · have h1 := (List.pairwise_cons.1 hm).1 x hx
          have h2 := (List.pairwise_cons.1 hl).1 y hy
          have h3 : y.1 ∉ m.map (·.1) := (List.nodup_cons.1 dm).1
          exact absurd (List.mem_map_of_mem (f := (·.1)) hx) (by rw [show x.1 = y.1 by omega]; exact h3)
    subst hxy
    rw [up_eq (List.pairwise_cons.1 hl).2 (List.pairwise_cons.1 hm).2 (List.nodup_cons.1 dl).2 (List.nodup_cons.1 dm).2 (List.Perm.cons_inv hp)]
theorem delF_sub (l : List Fl) : (delF l).Sublist l := List.filter_sublist
theorem flowsF_di {l : List Fl} (h : Di l) : flowsF l = delF (sortF l) := by
  unfold flowsF; rw [compF_di (h.perm (sortF_perm l).symm)]
/-- of unlike connections the flows that count are the same, in whatever order they are told -/
theorem flowsF_order {l m : List Fl} (dl : Di l) (dm : Di m) (hp : (delF l).Perm (delF m)) : flowsF l = flowsF m := by
  rw [flowsF_di dl, flowsF_di dm]
  have hs : ∀ {l : List Fl}, Di l → Up (delF (sortF l)) ∧ Di (delF (sortF l)) ∧ (delF (sortF l)).Perm (delF l) := fun {l} d =>
    ⟨(sortF_up l).sublist (delF_sub _), (d.perm (sortF_perm l).symm).sublist ((delF_sub _).map _), (sortF_perm l).filter _⟩
  obtain ⟨a1, a2, a3⟩ := hs dl
  obtain ⟨b1, b2, b3⟩ := hs dm
  exact up_eq a1 b1 a2 b2 (a3.trans (hp.trans b3.symm))
end Go.Proofs.Yteffhomollmpdaa.AM.SX

/- RobinOrder: rows of parts; what a round grants, and to whom. -/
namespace Go.Proofs.Yteffhomollmpdaa.AM.SX
open Go Go.Proofs.Yteffhomollmpdaa.X
set_option linter.unusedVariables false
set_option linter.unusedSimpArgs false
set_option maxRecDepth 100000
section
variable {α : Type} {K : Enc α} {T : Tr TI} {st e sz b : Nat} {z : Value} {ei : TI} {h : AHeap}
end
/-- the connections of a row -/
theorem roundL_out : ∀ (k : Nat) (c la : Int) (any : Bool) (lf out : List Fl) (P : Int → Prop), WOk lf → (∀ x ∈ lf, P x.1) → (∀ g ∈ out, P g.1 ∧ 1 ≤ g.2 ∧ g.2 ≤ 64) → (∀ g ∈ (roundL k c la any lf out).2.2.2, P g.1 ∧ 1 ≤ g.2 ∧ g.2 ≤ 64) ∧ (roundL k c la any lf out).2.2.2.length ≤ out.length + k
  | 0, c, la, any, lf, out, P, hw, hl, ho => ⟨ho, Nat.le_refl _⟩
  | k + 1, c, la, any, lf, out, P, hw, hl, ho => by
    unfold roundL
    by_cases h0 : lf.length = 0
    · rw [if_pos h0]; exact ⟨ho, by show out.length ≤ _; omega⟩
    · rw [if_neg h0]
      have hil := pickI_lt (la := la) (any := any) (lf := lf) (by omega)
      have hgd := getD_at hil
      have hx := hw _ (List.getElem_mem hil)
      have hxP := hl _ (List.getElem_mem hil)
      rw [hgd]
      generalize lf[pickI la any lf] = x at *
      by_cases hcg : c < min x.2 64
      · rw [if_pos hcg]; exact ⟨ho, by show out.length ≤ _; omega⟩
      · rw [if_neg hcg]
        have hm : ∀ z ∈ (if x.2 - min x.2 64 = 0 then lf.eraseIdx (pickI la any lf) else lf.set (pickI la any lf) (x.1, x.2 - min x.2 64)), (0 < z.2 ∧ z.2 ≤ 1099511627776) ∧ P z.1 := by
          intro z hz
          split at hz
          · exact ⟨hw z (List.mem_of_mem_eraseIdx hz), hl z (List.mem_of_mem_eraseIdx hz)⟩
          · rcases List.mem_or_eq_of_mem_set hz with h3 | h3
            · exact ⟨hw z h3, hl z h3⟩
            · rw [h3]; exact ⟨⟨by show 0 < x.2 - min x.2 64; omega, by show x.2 - min x.2 64 ≤ _; omega⟩, hxP⟩
        have := roundL_out k (c - min x.2 64) x.1 true _ (out ++ [(x.1, min x.2 64)]) P (fun z hz => (hm z hz).1) (fun z hz => (hm z hz).2) (fun g hg => by
          rcases List.mem_append.1 hg with h | h
          · exact ho g h
          · rw [List.mem_singleton.1 h]; exact ⟨hxP, by show 1 ≤ min x.2 64; omega, by show min x.2 64 ≤ 64; omega⟩)
        refine ⟨this.1, ?_⟩
        have h2 := this.2
        rw [List.length_append, List.length_singleton] at h2
        omega
/-! ### the flows of RobinOrder -/
/-- connections 0, 3, 6, ..; wants within bounds -/
structure OF (lo : Int) (l : List Fl) : Prop where
  conn : ∀ (i : Nat) (hi : i < l.length), l[i].1 = 3 * (i : Int)
  want : ∀ (i : Nat) (hi : i < l.length), lo ≤ l[i].2 ∧ l[i].2 ≤ 1023
theorem OF.up {lo : Int} {l : List Fl} (h : OF lo l) : Up l := List.pairwise_iff_getElem.2 fun i j hi hj hij => by
  rw [h.conn i hi, h.conn j hj]; omega
theorem OF.di {lo : Int} {l : List Fl} (h : OF lo l) : Di l := List.pairwise_iff_getElem.2 fun i j hi hj hij => by
  rw [List.getElem_map, List.getElem_map, h.conn i (by simpa using hi), h.conn j (by simpa using hj)]; omega
theorem OF.mem {lo : Int} {l : List Fl} (h : OF lo l) {x : Fl} (hx : x ∈ l) : ∃ i, i < l.length ∧ x.1 = 3 * (i : Int) ∧ lo ≤ x.2 ∧ x.2 ≤ 1023 := by
  obtain ⟨i, hi, rfl⟩ := List.mem_iff_getElem.1 hx
  exact ⟨i, hi, h.conn i hi, (h.want i hi).1, (h.want i hi).2⟩
def otherF (l : List Fl) (k : Nat) : List Fl := [(1, 0), (-7, -5)] ++ l.drop k ++ l.take k
theorem rot_perm (l : List Fl) (k : Nat) : (l.drop k ++ l.take k).Perm l := by
  refine List.perm_append_comm.trans ?_
  rw [List.take_append_drop]
theorem OF.other {lo : Int} {l : List Fl} (h : OF lo l) (k : Nat) : flowsF (otherF l k) = flowsF l := by
  have hd : Di (otherF l k) := by
    unfold otherF Di
    rw [List.append_assoc, List.map_append]
    refine List.nodup_append.2 ⟨by decide, (h.di.perm (rot_perm l k).symm), fun a ha b hb => ?_⟩
    obtain ⟨x, hx, rfl⟩ := List.mem_map.1 hb
    obtain ⟨i, _, hi, _⟩ := h.mem ((rot_perm l k).subset hx)
    have ha2 : a = 1 ∨ a = -7 := by simpa using ha
    rcases ha2 with rfl | rfl <;> omega
  refine flowsF_order hd h.di ?_
  have : delF (otherF l k) = delF (l.drop k ++ l.take k) := by
    unfold otherF delF
    rw [List.append_assoc, List.filter_append]
    rfl
  rw [this]
  exact (rot_perm l k).filter _
/-- of a row the part that a grant takes -/
def subF (l : List Fl) (g : Fl) : List Fl := l.set (g.1 / 3).toNat (g.1, (l.getD (g.1 / 3).toNat (0, 0)).2 - g.2)
theorem OF.sub {lo : Int} {l : List Fl} (h : OF lo l) {g : Fl} {i : Nat} (hi : i < l.length) (hg : g.1 = 3 * (i : Int)) (hn : 1 ≤ g.2 ∧ g.2 ≤ 64) : OF (lo - 64) (subF l g) ∧ (subF l g).length = l.length ∧ (g.1 / 3).toNat = i := by
  have hgi : (g.1 / 3).toNat = i := by rw [hg]; omega
  have hs : subF l g = l.set i (3 * (i : Int), l[i].2 - g.2) := by unfold subF; rw [hgi, getD_at hi, hg]
  refine ⟨⟨fun j hj => ?_, fun j hj => ?_⟩, by unfold subF; rw [List.length_set], hgi⟩
  · simp only [hs, List.length_set] at hj
    simp only [hs, List.getElem_set]
    split
    · rename_i e; subst e; rfl
    · exact h.conn j hj
  · simp only [hs, List.length_set] at hj
    simp only [hs, List.getElem_set]
    have h1 := h.want j hj
    split
    · rename_i e; subst e
      show lo - 64 ≤ l[i].2 - g.2 ∧ l[i].2 - g.2 ≤ 1023
      omega
    · omega
end Go.Proofs.Yteffhomollmpdaa.AM.SX

/- RobinOrder on the machine. -/
namespace Go.Proofs.Yteffhomollmpdaa.AM.SX
open Go Go.Proofs.Yteffhomollmpdaa.X
set_option linter.unusedVariables false
set_option linter.unusedSimpArgs false
set_option maxRecDepth 100000
set_option maxHeartbeats 8000000
attribute [local irreducible] astep0 aev awants abin abuild
end Go.Proofs.Yteffhomollmpdaa.AM.SX

/- RobinOrder on the machine: the run. -/
namespace Go.Proofs.Yteffhomollmpdaa.AM.SX
open Go Go.Proofs.Yteffhomollmpdaa.X
set_option linter.unusedVariables false
set_option linter.unusedSimpArgs false
set_option maxRecDepth 100000
set_option maxHeartbeats 8000000
attribute [local irreducible] astep0 aev awants abin abuild
theorem roundL_lt64 : ∀ (k : Nat) (c la : Int) (any : Bool) (lf out : List Fl), 0 ≤ c → c < k → WOk lf → (roundL k c la any lf out).1 < 64
  | 0, c, la, any, lf, out, h0, hk, hw => by omega
  | k + 1, c, la, any, lf, out, h0, hk, hw => by
    unfold roundL
    by_cases hl : lf.length = 0
    · rw [if_pos hl]; show (0 : Int) < 64; decide
    · rw [if_neg hl]
      have hil := pickI_lt (la := la) (any := any) (lf := lf) (by omega)
      have hgd := getD_at hil
      have hx := hw _ (List.getElem_mem hil)
      rw [hgd]
      generalize lf[pickI la any lf] = x at *
      by_cases hcg : c < min x.2 64
      · rw [if_pos hcg]; show c < 64; omega
      · rw [if_neg hcg]
        refine roundL_lt64 k _ _ _ _ _ (by omega) (by omega) fun z hz => ?_
        split at hz
        · exact hw z (List.mem_of_mem_eraseIdx hz)
        · rcases List.mem_or_eq_of_mem_set hz with h3 | h3
          · exact hw z h3
          · rw [h3]; exact ⟨by show 0 < x.2 - min x.2 64; omega, by show x.2 - min x.2 64 ≤ _; omega⟩
end Go.Proofs.Yteffhomollmpdaa.AM.SX

/- RobinPlays: the flows of a round. -/
namespace Go.Proofs.Yteffhomollmpdaa.AM.SX
open Go Go.Proofs.Yteffhomollmpdaa.X
set_option linter.unusedVariables false
set_option linter.unusedSimpArgs false
set_option maxRecDepth 100000
set_option maxHeartbeats 8000000
attribute [local irreducible] astep0 aev awants abin abuild
section
variable {α : Type} {K : Enc α} {h h' : AHeap} {l : List α} {v : Value} {O : List Nat}
/-- a row that has something in it: where it lies -/
theorem RowAt.rows (hv : RowAt K h l v O) (hl : 0 < l.length) : ∃ bk cs c, v = .slice (some ⟨bk, 0, none⟩) l.length c ∧ h.get bk = some (.cells cs true) ∧ O = [bk] ∧ ∀ (i : Nat) (hi : i < l.length), cut cs (i * K.sz) K.sz = some (K.enc (l[i]'hi)) ∧ ∀ j, j < K.sz → cs[i * K.sz + j]? = (K.enc (l[i]'hi))[j]? := by
  rcases hv with ⟨rfl, _, _⟩ | ⟨bk, rfl, hb, rfl, _⟩ | ⟨bk, js, rfl, hb, rfl⟩
  · exact absurd hl (Nat.lt_irrefl _)
  · exact ⟨bk, _, _, rfl, hb, rfl, fun i hi => ⟨K.fl_cut hi, fun j hj => K.fl_get hi hj⟩⟩
  · refine ⟨bk, _, _, rfl, hb, rfl, fun i hi => ?_⟩
    have hi' : i < (l ++ js).length := by rw [List.length_append]; omega
    have e : (l ++ js)[i] = l[i] := List.getElem_append_left hi
    exact ⟨by rw [K.fl_cut hi', e], fun j hj => by rw [K.fl_get hi' hj, e]⟩
end
/-- a row of flows of the input, or of nothing -/
def FlowsAt2 (h : AHeap) (l : List Fl) (sv : Value) (ids : List Nat) : Prop :=
  (l = [] ∧ (∃ k, sv = .chan (some k)) ∧ ids = []) ∨ ∃ b, sv = .slice (some ⟨b, 0, none⟩) l.length (CAPX + 1) ∧ h.get b = some (.ro (kF.fl l)) ∧ ids = [b]
theorem FlowsAt2.keep {h h' : AHeap} {l : List Fl} {sv : Value} {ids : List Nat} (hs : FlowsAt2 h l sv ids) (hk : ∀ i ∈ ids, h'.get i = h.get i) : FlowsAt2 h' l sv ids := by
  rcases hs with hs | ⟨b, h1, h2, rfl⟩
  · exact .inl hs
  · exact .inr ⟨b, h1, by rw [hk b (.head _)]; exact h2, rfl⟩
theorem len_flows2 {n : Nat} {ops : Array Oper} {os : List Oper} {a : AAct} {h : AHeap} {Q : AAct → AHeap → Prop} {dst : Option Nat} {ty : Nat} {pos : String} {aft : Array Edge} {args : Array Operand} {l : List Fl} {sv : Value} {ids : List Nat} (hs : FlowsAt2 h l sv ids) (hl : args.toList.map (aev a) = [sv]) (hh : S EE (acall EE n) ops os (a.put dst (.int .i64 (l.length : Int))) h Q) : S EE (acall EE n) ops (⟨dst, .call ⟨.builtin .len, args, #[29]⟩, ty, pos, aft, none⟩ :: os) a h Q := by
  rcases hs with ⟨rfl, ⟨k, rfl⟩, _⟩ | ⟨b, rfl, _, _⟩
  · refine S_tb wants0 ?_ rfl (l := [.chan (some k)]) ?_ rfl hh
    · have hT : EE.T.get 29 = _ := TL rfl
      simp only [astep0, hl]
      simp only [abuiltin, alen, hT]
    · simpa [Op.operands, Call.operands] using hl
  · exact S_step wants0 (o_builtin hl (lenS (TL rfl))) hh
def smallF (most : Int) (l : List Fl) : List Fl := (l.take 20).map fun x => (x.1, min x.2 most)
theorem smallF_take {most : Int} {l : List Fl} {i : Nat} (hi : i < l.length) : smallF most (l.take (i + 1)) = if i < 20 then smallF most (l.take i) ++ [(l[i].1, min l[i].2 most)] else smallF most (l.take i) := by
  unfold smallF
  split
  · rename_i h
    rw [List.take_take, List.take_take, Nat.min_eq_right (by omega), Nat.min_eq_right (by omega), List.take_succ_eq_append_getElem hi, List.map_append]; rfl
  · rename_i h
    rw [List.take_take, List.take_take, Nat.min_eq_left (by omega), Nat.min_eq_left (by omega)]
theorem smallF_len (most : Int) (l : List Fl) : (smallF most l).length ≤ 20 := by unfold smallF; rw [List.length_map, List.length_take]; omega
theorem smallF_le {most : Int} {l : List Fl} : ∀ x ∈ smallF most l, x.2 ≤ most := fun x hx => by
  obtain ⟨y, _, rfl⟩ := List.mem_map.1 hx
  show min y.2 most ≤ most
  omega
section
variable {n : Nat} {h : AHeap}
theorem small_spec {l : List Fl} {sv : Value} {ids : List Nat} (most : Int) (hs : FlowsAt2 h l sv ids) (hlt : ∀ i ∈ ids, i < h.next) (hlb : l.length ≤ 9223372036854775807) (hn : l.length + 10 ≤ n) : C EE (n + 1) 11 [sv, .int .i64 most] h fun r h' => ∃ O, RowAt kF h' (smallF most l) r O ∧ (∀ w ∈ O, h.next ≤ w ∧ w < h'.next) ∧ Keep h h' [] := by
  refine C_in (E_X _) F_small rfl rfl rfl ?_
  intro a hna hat
  have e0 := hat 0 _ rfl
  have e1 := hat 1 _ rfl
  replace hna : a.n = 29 := hna
  clear hat
  repeat first | refine G_seq ?_ | refine G_reg ?_ | refine N_seq ?_ | refine N_block ?_ | refine G_block ?_ | refine G_skip ?_ | refine G_cT ?_ | refine G_cF ?_ | refine G_ret ?_ | refine U_seq_ret ?_ | refine U_block_ret ?_ | refine U_nil ?_ | refine S_nil ?_ | refine S_auto ?_
  refine S_step wants0 (o_buildSlice (by simp only [List.map, aev_tmp, aev_const, aev_func, aev_global, at_put, at_none, n_put, reduceIte, Nat.reduceEqDiff, Nat.reduceLT, zq, *]; first | done | rfl) (bs_row0 (K := kF) (TL rfl) (TL rfl) ⟨rfl, rfl, by decide⟩)) ?_
  repeat first | refine G_seq ?_ | refine G_reg ?_ | refine N_seq ?_ | refine N_block ?_ | refine G_block ?_ | refine G_skip ?_ | refine G_cT ?_ | refine G_cF ?_ | refine G_ret ?_ | refine U_seq_ret ?_ | refine U_block_ret ?_ | refine U_nil ?_ | refine S_nil ?_ | refine S_auto ?_
  have hs3 : FlowsAt2 (h.new h.next (.cells [] true)) l sv ids := hs.keep fun i hi => get_new_ne (by have := hlt i hi; omega)
  refine len_flows2 hs3 (by simp only [List.map, aev_tmp, aev_const, aev_func, aev_global, at_put, at_none, n_put, reduceIte, Nat.reduceEqDiff, Nat.reduceLT, zq, *]; first | done | rfl) ?_
  repeat first | refine G_seq ?_ | refine G_reg ?_ | refine N_seq ?_ | refine N_block ?_ | refine G_block ?_ | refine G_skip ?_ | refine G_cT ?_ | refine G_cF ?_ | refine G_ret ?_ | refine U_seq_ret ?_ | refine U_block_ret ?_ | refine U_nil ?_ | refine S_nil ?_ | refine S_auto ?_
  refine G_loop (fun j a h' => ∃ (i : Nat) (rv : Value) (Or : List Nat), i + j = l.length ∧ a.n = 29 ∧ a.at 1 = .int .i64 most ∧ a.at 5 = rv ∧ a.at 9 = sv ∧ a.at 10 = .int .i64 (l.length : Int) ∧ a.at 11 = .int .i64 (i : Int) ∧ FlowsAt2 h' l sv ids ∧ RowAt kF h' (smallF most (l.take i)) rv Or ∧ (∀ q ∈ Or, h.next ≤ q ∧ q < h'.next) ∧ Keep h h' []) l.length (by omega) ⟨0, .slice (some ⟨h.next, 0, none⟩) 0 0, [h.next], by omega, by simp only [at_put, at_none, n_put, reduceIte, Nat.reduceEqDiff, Nat.reduceLT, zq, *]; first | done | rfl, by simp only [at_put, at_none, n_put, reduceIte, Nat.reduceEqDiff, Nat.reduceLT, zq, *]; first | done | rfl, by simp (disch := omega) only [at_put, at_none, n_put, reduceIte, Nat.reduceEqDiff, Nat.reduceLT, get_set_self, get_new_self, get_set_ne, get_new_ne, get_bump, next_set, next_new, Nat.lt_irrefl, next_kill, next_bump, cond_true, cond_false, *]; first | done | rfl, by simp only [at_put, at_none, n_put, reduceIte, Nat.reduceEqDiff, Nat.reduceLT, zq, *]; first | done | rfl, by simp only [at_put, at_none, n_put, reduceIte, Nat.reduceEqDiff, Nat.reduceLT, zq, *]; first | done | rfl, by simp only [at_put, at_none, n_put, reduceIte, Nat.reduceEqDiff, Nat.reduceLT, zq, *]; first | done | rfl, hs3, row0 (get_new_self _ _ _), fun i hi => by rw [List.mem_singleton.1 hi, next_new_self]; omega, Keep.new _ _ _⟩ ?_
  clear e0 e1 hna hs3
  rintro j a h3 ⟨i, rv, Or, hij, hna, e1, e5, e9, e10, e11, hs, hrow, hOr, hk⟩
  have hkn := hk.1
  by_cases hil : i < l.length
  · have hil' : ((i : Int) < (l.length : Int)) = True := eq_true (by omega)
    obtain ⟨b, rfl, hgb, rfl⟩ : ∃ b, sv = .slice (some ⟨b, 0, none⟩) l.length (CAPX + 1) ∧ h3.get b = some (.ro (kF.fl l)) ∧ ids = [b] := by
      rcases hs with ⟨rfl, _, _⟩ | hh
      · exact absurd hil (Nat.not_lt_zero _)
      · exact hh
    have hbl : b < h.next := hlt b (.head _)
    have i1 : aindexAddr EE.T 29 (.slice (some ⟨b, 0, none⟩) l.length (CAPX + 1)) (.int .i64 (i : Int)) = some (.pointer (some ⟨b, i * kF.sz, none⟩)) := ix_row0 (TL rfl) (TL rfl) ⟨rfl, rfl, by decide⟩ hil
    have hcut := kF.fl_cut hil
    have hnt := smallF_take (most := most) hil
    have hlen20 := smallF_len most (l.take i)
    obtain ⟨xc, xw, hxe⟩ : ∃ xc xw, l[i] = (xc, xw) := ⟨_, _, rfl⟩
    rw [hxe] at hcut hnt
    repeat first | refine G_seq ?_ | refine G_reg ?_ | refine N_seq ?_ | refine N_block ?_ | refine G_block ?_ | refine G_skip ?_ | refine G_cT ?_ | refine G_cF ?_ | refine G_ret ?_ | refine U_seq_ret ?_ | refine U_block_ret ?_ | refine U_nil ?_ | refine S_nil ?_ | refine S_auto ?_
    refine S_step wants0 (o_indexAddr (by simp only [aev_tmp, aev_const, aev_func, aev_global, at_put, at_none, n_put, reduceIte, Nat.reduceEqDiff, Nat.reduceLT, zq, *]; first | done | rfl) (by simp only [aev_tmp, aev_const, aev_func, aev_global, at_put, at_none, n_put, reduceIte, Nat.reduceEqDiff, Nat.reduceLT, zq, *]; first | done | rfl) i1) ?_
    refine S_step wants0 (o_ldA (by simp only [aev_tmp, aev_const, aev_func, aev_global, at_put, at_none, n_put, reduceIte, Nat.reduceEqDiff, Nat.reduceLT, zq, *]; first | done | rfl) (TL rfl) rfl (rd_ro hgb) (hcut.trans rfl)) ?_
    clear i1 hcut
    by_cases h20 : i < 20
    · have c20 : ((i : Int) < 20) = True := eq_true (by omega)
      rw [if_pos h20] at hnt
      clear h20
      repeat first | refine G_seq ?_ | refine G_reg ?_ | refine N_seq ?_ | refine N_block ?_ | refine G_block ?_ | refine G_skip ?_ | refine G_cT ?_ | refine G_cF ?_ | refine G_ret ?_ | refine U_seq_ret ?_ | refine U_block_ret ?_ | refine U_nil ?_ | refine S_nil ?_ | refine S_auto ?_
      refine S_step wants0 (o_builtin (by simp only [List.map, aev_tmp, aev_const, aev_func, aev_global, at_put, at_none, n_put, reduceIte, Nat.reduceEqDiff, Nat.reduceLT, zq, *]; first | done | rfl) bi_min) ?_
      repeat first | refine G_seq ?_ | refine G_reg ?_ | refine N_seq ?_ | refine N_block ?_ | refine G_block ?_ | refine G_skip ?_ | refine G_cT ?_ | refine G_cF ?_ | refine G_ret ?_ | refine U_seq_ret ?_ | refine U_block_ret ?_ | refine U_nil ?_ | refine S_nil ?_ | refine S_auto ?_
      obtain ⟨hh, hhe⟩ : ∃ hh, hh = ((h3.new h3.next (.cells [.int .i64 0, .int .i64 0] true)).set h3.next (.cells (kF.enc (xc, xw)) true)).set h3.next (.cells (kF.enc (xc, min xw most)) true) := ⟨_, rfl⟩
      have hhn : hh.next = h3.next + 1 := by rw [hhe, next_set, next_set, next_new_self]
      have hhg : ∀ q, q ≠ h3.next → hh.get q = h3.get q := fun q hq => by rw [hhe, get_set_ne hq, get_set_ne hq, get_new_ne hq]
      obtain ⟨v3, h5, O3, q1, q2, q3, q4, q5⟩ := app_row (K := kF) (T := EE.T) (h := hh.new hh.next (.cells (kF.enc (xc, min xw most)) true)) (st := 29) (xt := 29) (news := [((xc, min xw most) : Fl)]) (x := .slice (some ⟨hh.next, 0, none⟩) 1 1) (TL rfl) (TL rfl) ⟨rfl, rfl, by decide⟩ (TL rfl) (hrow.keep fun q hq => by have := hOr q hq; rw [get_new_ne (by omega), hhg q (by omega)]) (by simp) (src_row1 (K := kF) (get_new_self _ _ _)) (by simp; omega) (fun q hq => by have := hOr q hq; rw [next_new_self]; omega)
      have hnx5 := q3.1
      rw [next_new_self] at hnx5
      have hk5 : ∀ q, q < h.next → h5.get q = h3.get q := fun q hq => by
        rw [q3.2 q (by rw [next_new_self]; omega) (fun hm => by have := hOr q hm; omega), get_new_ne (by omega), hhg q (by omega)]
      have hO3 : ∀ q ∈ O3, h.next ≤ q ∧ q < h5.next := fun q hq => ⟨by
        rcases q4 with rfl | rfl
        · exact (hOr q hq).1
        · rw [List.mem_singleton, next_new_self] at hq; omega, q5 q hq⟩
      have hkk : Keep h h5 [] := ⟨by omega, fun q hq hn => (hk5 q hq).trans (hk.2 q hq hn)⟩
      have hs5 : FlowsAt2 h5 l (.slice (some ⟨b, 0, none⟩) l.length (CAPX + 1)) [b] := .inr ⟨b, rfl, (hk5 b (by omega)).trans hgb, rfl⟩
      rw [← hnt] at q2
      clear hnt hrow hOr q3 q4 q5 hk5 hs hhn hhg hnx5 hk
      subst hhe
      refine S_step wants0 (o_buildSlice (by simp only [List.map, aev_tmp, aev_const, aev_func, aev_global, at_put, at_none, n_put, reduceIte, Nat.reduceEqDiff, Nat.reduceLT, zq, *]; first | done | rfl) (bs_row1 (K := kF) (x := ((xc, min xw most) : Fl)) (TL rfl) (TL rfl) ⟨rfl, rfl, by decide⟩ (by decide) rfl)) ?_
      refine S_step wants0 (o_builtin (by simp only [List.map, aev_tmp, aev_const, aev_func, aev_global, at_put, at_none, n_put, reduceIte, Nat.reduceEqDiff, Nat.reduceLT, zq, *]; first | done | rfl) (bi_app q1)) ?_
      clear q1 hgb
      repeat first | refine G_seq ?_ | refine G_reg ?_ | refine N_seq ?_ | refine N_block ?_ | refine G_block ?_ | refine G_skip ?_ | refine G_cT ?_ | refine G_cF ?_ | refine G_ret ?_ | refine U_seq_ret ?_ | refine U_block_ret ?_ | refine U_nil ?_ | refine S_nil ?_ | refine S_auto ?_
      refine N_nil ?_
      exact LQ_n (j - 1) (by omega) ⟨i + 1, v3, O3, by omega, by simp only [at_put, at_none, n_put, reduceIte, Nat.reduceEqDiff, Nat.reduceLT, zq, *]; first | done | rfl, by simp only [at_put, at_none, n_put, reduceIte, Nat.reduceEqDiff, Nat.reduceLT, zq, *]; first | done | rfl, by simp only [at_put, at_none, n_put, reduceIte, Nat.reduceEqDiff, Nat.reduceLT, zq, *]; first | done | rfl, by simp only [at_put, at_none, n_put, reduceIte, Nat.reduceEqDiff, Nat.reduceLT, zq, *]; first | done | rfl, by simp only [at_put, at_none, n_put, reduceIte, Nat.reduceEqDiff, Nat.reduceLT, zq, *]; first | done | rfl, by rw [Int.natCast_add]; simp only [at_put, at_none, n_put, reduceIte, Nat.reduceEqDiff, Nat.reduceLT, zq, *]; first | done | rfl, hs5, q2, hO3, hkk⟩
    · have c20 : ((i : Int) < 20) = False := eq_false (by omega)
      rw [if_neg h20] at hnt
      rw [← hnt] at hrow
      clear h20 hnt
      repeat first | refine G_seq ?_ | refine G_reg ?_ | refine N_seq ?_ | refine N_block ?_ | refine G_block ?_ | refine G_skip ?_ | refine G_cT ?_ | refine G_cF ?_ | refine G_ret ?_ | refine U_seq_ret ?_ | refine U_block_ret ?_ | refine U_nil ?_ | refine S_nil ?_ | refine S_auto ?_
      refine N_nil ?_
      have hgg : ∀ q, q < h3.next → ((h3.new h3.next (.cells [.int .i64 0, .int .i64 0] true)).set h3.next (.cells (kF.enc (xc, xw)) true)).get q = h3.get q := fun q hq => by rw [get_set_ne (by omega), get_new_ne (by omega)]
      refine LQ_n (j - 1) (by omega) ⟨i + 1, rv, Or, by omega, by simp only [at_put, at_none, n_put, reduceIte, Nat.reduceEqDiff, Nat.reduceLT, zq, *]; first | done | rfl, by simp only [at_put, at_none, n_put, reduceIte, Nat.reduceEqDiff, Nat.reduceLT, zq, *]; first | done | rfl, by simp only [at_put, at_none, n_put, reduceIte, Nat.reduceEqDiff, Nat.reduceLT, zq, *]; first | done | rfl, by simp only [at_put, at_none, n_put, reduceIte, Nat.reduceEqDiff, Nat.reduceLT, zq, *]; first | done | rfl, by simp only [at_put, at_none, n_put, reduceIte, Nat.reduceEqDiff, Nat.reduceLT, zq, *]; first | done | rfl, by rw [Int.natCast_add]; simp only [at_put, at_none, n_put, reduceIte, Nat.reduceEqDiff, Nat.reduceLT, zq, *]; first | done | rfl, hs.keep fun q hq => hgg q (by rw [List.mem_singleton.1 hq]; omega), hrow.keep fun q hq => hgg q (hOr q hq).2, fun q hq => by have := hOr q hq; simp only [next_set, next_new, Nat.lt_irrefl, reduceIte]; omega, ⟨by simp only [next_set, next_new, Nat.lt_irrefl, reduceIte]; omega, fun q hq hn => (hgg q (by omega)).trans (hk.2 q hq hn)⟩⟩
  · have hil' : ((i : Int) < (l.length : Int)) = False := eq_false (by omega)
    obtain rfl : i = l.length := by omega
    rw [List.take_length] at hrow
    repeat first | refine G_seq ?_ | refine G_reg ?_ | refine N_seq ?_ | refine N_block ?_ | refine G_block ?_ | refine G_skip ?_ | refine G_cT ?_ | refine G_cF ?_ | refine G_ret ?_ | refine U_seq_ret ?_ | refine U_block_ret ?_ | refine U_nil ?_ | refine S_nil ?_ | refine S_auto ?_
    refine G_exit ?_
    repeat first | refine U_seq_exit ?_ | refine U_nil ?_ | refine LQ_exit ?_ | refine U_block_hit ?_
    repeat first | refine G_seq ?_ | refine G_reg ?_ | refine N_seq ?_ | refine N_block ?_ | refine G_block ?_ | refine G_skip ?_ | refine G_cT ?_ | refine G_cF ?_ | refine G_ret ?_ | refine U_seq_ret ?_ | refine U_block_ret ?_ | refine U_nil ?_ | refine S_nil ?_ | refine S_auto ?_
    refine FQ_in (by first | exact .inr rfl | exact .inl rfl) (by first | exact ares1 (by simp only [at_put, at_none, n_put, reduceIte, Nat.reduceEqDiff, Nat.reduceLT, zq, *]; first | done | rfl) | exact ares2 (by simp only [at_put, at_none, n_put, reduceIte, Nat.reduceEqDiff, Nat.reduceLT, zq, *]; first | done | rfl) (by simp only [at_put, at_none, n_put, reduceIte, Nat.reduceEqDiff, Nat.reduceLT, zq, *]; first | done | rfl)) ?_
    exact ⟨Or, hrow, hOr, hk⟩
theorem as_spec {l : List Fl} {v : Value} {O : List Nat} (hv : RowAt kF h l v O) (hO : ∀ i ∈ O, i < h.next) (hl : l.length ≤ 1000) (hn : l.length + 10 ≤ n) : C EE (n + 1) 13 [v] h fun r h' => ∃ O', RowAt kF h' l r O' ∧ (∀ w ∈ O', h.next ≤ w ∧ w < h'.next) ∧ Keep h h' [] := by
  refine C_in (E_X _) F_das rfl rfl rfl ?_
  intro a hna hat
  have e0 := hat 0 _ rfl
  replace hna : a.n = 23 := hna
  clear hat
  repeat first | refine G_seq ?_ | refine G_reg ?_ | refine N_seq ?_ | refine N_block ?_ | refine G_block ?_ | refine G_skip ?_ | refine G_cT ?_ | refine G_cF ?_ | refine G_ret ?_ | refine U_seq_ret ?_ | refine U_block_ret ?_ | refine U_nil ?_ | refine S_nil ?_ | refine S_auto ?_
  refine S_step wants0 (o_buildSlice (by simp only [List.map, aev_tmp, aev_const, aev_func, aev_global, at_put, at_none, n_put, reduceIte, Nat.reduceEqDiff, Nat.reduceLT, zq, *]; first | done | rfl) (bs_row0 (K := kF) (TL rfl) (TL rfl) ⟨rfl, rfl, by decide⟩)) ?_
  repeat first | refine G_seq ?_ | refine G_reg ?_ | refine N_seq ?_ | refine N_block ?_ | refine G_block ?_ | refine G_skip ?_ | refine G_cT ?_ | refine G_cF ?_ | refine G_ret ?_ | refine U_seq_ret ?_ | refine U_block_ret ?_ | refine U_nil ?_ | refine S_nil ?_ | refine S_auto ?_
  refine S_step wants0 (o_builtin (by simp only [List.map, aev_tmp, aev_const, aev_func, aev_global, at_put, at_none, n_put, reduceIte, Nat.reduceEqDiff, Nat.reduceLT, zq, *]; first | done | rfl) (hv.lenB (TL rfl))) ?_
  repeat first | refine G_seq ?_ | refine G_reg ?_ | refine N_seq ?_ | refine N_block ?_ | refine G_block ?_ | refine G_skip ?_ | refine G_cT ?_ | refine G_cF ?_ | refine G_ret ?_ | refine U_seq_ret ?_ | refine U_block_ret ?_ | refine U_nil ?_ | refine S_nil ?_ | refine S_auto ?_
  refine G_loop (fun j a h' => ∃ (i : Nat) (rv : Value) (Or : List Nat), i + j = l.length ∧ a.n = 23 ∧ a.at 3 = rv ∧ a.at 7 = v ∧ a.at 8 = .int .i64 (l.length : Int) ∧ a.at 9 = .int .i64 (i : Int) ∧ RowAt kF h' (l.take i) rv Or ∧ (∀ q ∈ Or, h.next ≤ q ∧ q < h'.next) ∧ Keep h h' []) l.length (by omega) ⟨0, .slice (some ⟨h.next, 0, none⟩) 0 0, [h.next], by omega, by simp only [at_put, at_none, n_put, reduceIte, Nat.reduceEqDiff, Nat.reduceLT, zq, *]; first | done | rfl, by simp only [at_put, at_none, n_put, reduceIte, Nat.reduceEqDiff, Nat.reduceLT, zq, *]; first | done | rfl, by simp only [at_put, at_none, n_put, reduceIte, Nat.reduceEqDiff, Nat.reduceLT, zq, *]; first | done | rfl, by simp only [at_put, at_none, n_put, reduceIte, Nat.reduceEqDiff, Nat.reduceLT, zq, *]; first | done | rfl, by simp only [at_put, at_none, n_put, reduceIte, Nat.reduceEqDiff, Nat.reduceLT, zq, *]; first | done | rfl, row0 (get_new_self _ _ _), fun i hi => by rw [List.mem_singleton.1 hi, next_new_self]; omega, Keep.new _ _ _⟩ ?_
  clear e0 hna
  rintro j a h3 ⟨i, rv, Or, hij, hna, e3, e7, e8, e9, hrow, hOr, hk⟩
  have hkn := hk.1
  by_cases hil : i < l.length
  · have hil' : ((i : Int) < (l.length : Int)) = True := eq_true (by omega)
    obtain ⟨bk, cs, c, rfl, hb, rfl, hcs⟩ := (hv.keep fun i hi => hk.2 i (hO i hi) (by simp)).rows (by omega)
    obtain ⟨hcut, -⟩ := hcs i hil
    have hbk : bk < h.next := hO bk (.head _)
    have i1 : aindexAddr EE.T 29 (.slice (some ⟨bk, 0, none⟩) l.length c) (.int .i64 (i : Int)) = some (.pointer (some ⟨bk, i * kF.sz, none⟩)) := ix_row0 (TL rfl) (TL rfl) ⟨rfl, rfl, by decide⟩ hil
    have hnt := List.take_succ_eq_append_getElem hil
    have hlt : (l.take i).length ≤ 1000 := by rw [List.length_take]; omega
    obtain ⟨xc, xw, hxe⟩ : ∃ xc xw, l[i] = (xc, xw) := ⟨_, _, rfl⟩
    rw [hxe] at hcut hnt
    clear hcs
    repeat first | refine G_seq ?_ | refine G_reg ?_ | refine N_seq ?_ | refine N_block ?_ | refine G_block ?_ | refine G_skip ?_ | refine G_cT ?_ | refine G_cF ?_ | refine G_ret ?_ | refine U_seq_ret ?_ | refine U_block_ret ?_ | refine U_nil ?_ | refine S_nil ?_ | refine S_auto ?_
    refine S_step wants0 (o_indexAddr (by simp only [aev_tmp, aev_const, aev_func, aev_global, at_put, at_none, n_put, reduceIte, Nat.reduceEqDiff, Nat.reduceLT, zq, *]; first | done | rfl) (by simp only [aev_tmp, aev_const, aev_func, aev_global, at_put, at_none, n_put, reduceIte, Nat.reduceEqDiff, Nat.reduceLT, zq, *]; first | done | rfl) i1) ?_
    refine S_step wants0 (o_ldA (by simp only [aev_tmp, aev_const, aev_func, aev_global, at_put, at_none, n_put, reduceIte, Nat.reduceEqDiff, Nat.reduceLT, zq, *]; first | done | rfl) (TL rfl) rfl (rd_cells hb) (hcut.trans rfl)) ?_
    clear i1 hcut hb
    repeat first | refine G_seq ?_ | refine G_reg ?_ | refine N_seq ?_ | refine N_block ?_ | refine G_block ?_ | refine G_skip ?_ | refine G_cT ?_ | refine G_cF ?_ | refine G_ret ?_ | refine U_seq_ret ?_ | refine U_block_ret ?_ | refine U_nil ?_ | refine S_nil ?_ | refine S_auto ?_
    obtain ⟨hh, hhe⟩ : ∃ hh, hh = (h3.new h3.next (.cells [.int .i64 0, .int .i64 0] true)).set h3.next (.cells (kF.enc (xc, xw)) true) := ⟨_, rfl⟩
    have hhn : hh.next = h3.next + 1 := by rw [hhe, next_set, next_new_self]
    have hhg : ∀ q, q ≠ h3.next → hh.get q = h3.get q := fun q hq => by rw [hhe, get_set_ne hq, get_new_ne hq]
    obtain ⟨v3, h5, O3, q1, q2, q3, q4, q5⟩ := app_row (K := kF) (T := EE.T) (h := hh.new hh.next (.cells (kF.enc (xc, xw)) true)) (st := 34) (xt := 34) (news := [((xc, xw) : Fl)]) (x := .slice (some ⟨hh.next, 0, none⟩) 1 1) (TL rfl) (TL rfl) ⟨rfl, rfl, by decide⟩ (TL rfl) (hrow.keep fun q hq => by have := hOr q hq; rw [get_new_ne (by omega), hhg q (by omega)]) (by simp) (src_row1 (K := kF) (get_new_self _ _ _)) (by simp; omega) (fun q hq => by have := hOr q hq; rw [next_new_self]; omega)
    have hnx5 := q3.1
    rw [next_new_self] at hnx5
    have hk5 : ∀ q, q < h.next → h5.get q = h3.get q := fun q hq => by
      rw [q3.2 q (by rw [next_new_self]; omega) (fun hm => by have := hOr q hm; omega), get_new_ne (by omega), hhg q (by omega)]
    have hO3 : ∀ q ∈ O3, h.next ≤ q ∧ q < h5.next := fun q hq => ⟨by
      rcases q4 with rfl | rfl
      · exact (hOr q hq).1
      · rw [List.mem_singleton, next_new_self] at hq; omega, q5 q hq⟩
    have hkk : Keep h h5 [] := ⟨by omega, fun q hq hn => (hk5 q hq).trans (hk.2 q hq hn)⟩
    rw [← hnt] at q2
    clear hnt hrow hOr q3 q4 q5 hk5 hhn hhg hnx5 hk hv
    subst hhe
    refine S_step wants0 (o_buildSlice (by simp only [List.map, aev_tmp, aev_const, aev_func, aev_global, at_put, at_none, n_put, reduceIte, Nat.reduceEqDiff, Nat.reduceLT, zq, *]; first | done | rfl) (bs_row1 (K := kF) (x := ((xc, xw) : Fl)) (TL rfl) (TL rfl) ⟨rfl, rfl, by decide⟩ (by decide) rfl)) ?_
    refine S_step wants0 (o_builtin (by simp only [List.map, aev_tmp, aev_const, aev_func, aev_global, at_put, at_none, n_put, reduceIte, Nat.reduceEqDiff, Nat.reduceLT, zq, *]; first | done | rfl) (bi_app q1)) ?_
    clear q1
    repeat first | refine G_seq ?_ | refine G_reg ?_ | refine N_seq ?_ | refine N_block ?_ | refine G_block ?_ | refine G_skip ?_ | refine G_cT ?_ | refine G_cF ?_ | refine G_ret ?_ | refine U_seq_ret ?_ | refine U_block_ret ?_ | refine U_nil ?_ | refine S_nil ?_ | refine S_auto ?_
    refine N_nil ?_
    exact LQ_n (j - 1) (by omega) ⟨i + 1, v3, O3, by omega, by simp only [at_put, at_none, n_put, reduceIte, Nat.reduceEqDiff, Nat.reduceLT, zq, *]; first | done | rfl, by simp only [at_put, at_none, n_put, reduceIte, Nat.reduceEqDiff, Nat.reduceLT, zq, *]; first | done | rfl, by simp only [at_put, at_none, n_put, reduceIte, Nat.reduceEqDiff, Nat.reduceLT, zq, *]; first | done | rfl, by simp only [at_put, at_none, n_put, reduceIte, Nat.reduceEqDiff, Nat.reduceLT, zq, *]; first | done | rfl, by rw [Int.natCast_add]; simp only [at_put, at_none, n_put, reduceIte, Nat.reduceEqDiff, Nat.reduceLT, zq, *]; first | done | rfl, q2, hO3, hkk⟩
  · have hil' : ((i : Int) < (l.length : Int)) = False := eq_false (by omega)
    obtain rfl : i = l.length := by omega
    rw [List.take_length] at hrow
    repeat first | refine G_seq ?_ | refine G_reg ?_ | refine N_seq ?_ | refine N_block ?_ | refine G_block ?_ | refine G_skip ?_ | refine G_cT ?_ | refine G_cF ?_ | refine G_ret ?_ | refine U_seq_ret ?_ | refine U_block_ret ?_ | refine U_nil ?_ | refine S_nil ?_ | refine S_auto ?_
    refine G_exit ?_
    repeat first | refine U_seq_exit ?_ | refine U_nil ?_ | refine LQ_exit ?_ | refine U_block_hit ?_
    repeat first | refine G_seq ?_ | refine G_reg ?_ | refine N_seq ?_ | refine N_block ?_ | refine G_block ?_ | refine G_skip ?_ | refine G_cT ?_ | refine G_cF ?_ | refine G_ret ?_ | refine U_seq_ret ?_ | refine U_block_ret ?_ | refine U_nil ?_ | refine S_nil ?_ | refine S_auto ?_
    refine FQ_in (by first | exact .inr rfl | exact .inl rfl) (by first | exact ares1 (by simp only [at_put, at_none, n_put, reduceIte, Nat.reduceEqDiff, Nat.reduceLT, zq, *]; first | done | rfl) | exact ares2 (by simp only [at_put, at_none, n_put, reduceIte, Nat.reduceEqDiff, Nat.reduceLT, zq, *]; first | done | rfl) (by simp only [at_put, at_none, n_put, reduceIte, Nat.reduceEqDiff, Nat.reduceLT, zq, *]; first | done | rfl)) ?_
    exact ⟨Or, hrow, hOr, hk⟩
theorem between_spec (x lo hi : Int) : C EE (n + 1) 16 [.int .i64 x, .int .i64 lo, .int .i64 hi] h fun r h' => r = .int .i64 (if x < lo then lo else if hi < x then hi else x) ∧ h' = h := by
  refine C_in (E_X _) F_between rfl rfl rfl ?_
  intro a hna hat
  have e0 := hat 0 _ rfl
  have e1 := hat 1 _ rfl
  have e2 := hat 2 _ rfl
  replace hna : a.n = 16 := hna
  clear hat
  by_cases c1 : x < lo
  · rw [if_pos c1]
    repeat first | refine G_seq ?_ | refine G_reg ?_ | refine N_seq ?_ | refine N_block ?_ | refine G_block ?_ | refine G_skip ?_ | refine G_cT ?_ | refine G_cF ?_ | refine G_ret ?_ | refine U_seq_ret ?_ | refine U_block_ret ?_ | refine U_nil ?_ | refine S_nil ?_ | refine S_auto ?_
    refine FQ_in (by first | exact .inr rfl | exact .inl rfl) (by first | exact ares1 (by simp only [at_put, at_none, n_put, reduceIte, Nat.reduceEqDiff, Nat.reduceLT, zq, *]; first | done | rfl) | exact ares2 (by simp only [at_put, at_none, n_put, reduceIte, Nat.reduceEqDiff, Nat.reduceLT, zq, *]; first | done | rfl) (by simp only [at_put, at_none, n_put, reduceIte, Nat.reduceEqDiff, Nat.reduceLT, zq, *]; first | done | rfl)) ?_
    exact ⟨rfl, rfl⟩
  · rw [if_neg c1]
    by_cases c2 : hi < x
    · rw [if_pos c2]
      repeat first | refine G_seq ?_ | refine G_reg ?_ | refine N_seq ?_ | refine N_block ?_ | refine G_block ?_ | refine G_skip ?_ | refine G_cT ?_ | refine G_cF ?_ | refine G_ret ?_ | refine U_seq_ret ?_ | refine U_block_ret ?_ | refine U_nil ?_ | refine S_nil ?_ | refine S_auto ?_
      refine FQ_in (by first | exact .inr rfl | exact .inl rfl) (by first | exact ares1 (by simp only [at_put, at_none, n_put, reduceIte, Nat.reduceEqDiff, Nat.reduceLT, zq, *]; first | done | rfl) | exact ares2 (by simp only [at_put, at_none, n_put, reduceIte, Nat.reduceEqDiff, Nat.reduceLT, zq, *]; first | done | rfl) (by simp only [at_put, at_none, n_put, reduceIte, Nat.reduceEqDiff, Nat.reduceLT, zq, *]; first | done | rfl)) ?_
      exact ⟨rfl, rfl⟩
    · rw [if_neg c2]
      repeat first | refine G_seq ?_ | refine G_reg ?_ | refine N_seq ?_ | refine N_block ?_ | refine G_block ?_ | refine G_skip ?_ | refine G_cT ?_ | refine G_cF ?_ | refine G_ret ?_ | refine U_seq_ret ?_ | refine U_block_ret ?_ | refine U_nil ?_ | refine S_nil ?_ | refine S_auto ?_
      refine FQ_in (by first | exact .inr rfl | exact .inl rfl) (by first | exact ares1 (by simp only [at_put, at_none, n_put, reduceIte, Nat.reduceEqDiff, Nat.reduceLT, zq, *]; first | done | rfl) | exact ares2 (by simp only [at_put, at_none, n_put, reduceIte, Nat.reduceEqDiff, Nat.reduceLT, zq, *]; first | done | rfl) (by simp only [at_put, at_none, n_put, reduceIte, Nat.reduceEqDiff, Nat.reduceLT, zq, *]; first | done | rfl)) ?_
      exact ⟨rfl, rfl⟩
theorem dnew_spec (q : Int) : C EE (n + 2) 10 [.int .i64 q] h fun r h' => r = .agg #[.int .i64 (min (max q 1) 1048576), .int .i64 0, .int .i64 0, .bool false] ∧ Keep h h' [] := by
  refine C_in (E_X _) F_dnew rfl rfl rfl ?_
  intro a hna hat
  have e0 := hat 0 _ rfl
  replace hna : a.n = 6 := hna
  clear hat
  repeat first | refine G_seq ?_ | refine G_reg ?_ | refine N_seq ?_ | refine N_block ?_ | refine G_block ?_ | refine G_skip ?_ | refine G_cT ?_ | refine G_cF ?_ | refine G_ret ?_ | refine U_seq_ret ?_ | refine U_block_ret ?_ | refine U_nil ?_ | refine S_nil ?_ | refine S_auto ?_
  refine S_call wants0 (by simp only [aev_tmp, aev_const, aev_func, aev_global, at_put, at_none, n_put, reduceIte, Nat.reduceEqDiff, Nat.reduceLT, zq, *]; first | done | rfl) (E_Y _) (by simp only [List.map, aev_tmp, aev_const, aev_func, aev_global, at_put, at_none, n_put, reduceIte, Nat.reduceEqDiff, Nat.reduceLT, zq, *]; first | done | rfl) ?_
  refine (between_spec q 1 1048576).mono ?_
  rintro r h9 ⟨rfl, he9⟩
  rw [he9]
  clear he9 h9
  have hq : (if q < 1 then 1 else if 1048576 < q then 1048576 else q) = min (max q 1) 1048576 := by split <;> (try split) <;> omega
  rw [hq]
  clear hq
  generalize min (max q 1) 1048576 = q at *
  repeat first | refine G_seq ?_ | refine G_reg ?_ | refine N_seq ?_ | refine N_block ?_ | refine G_block ?_ | refine G_skip ?_ | refine G_cT ?_ | refine G_cF ?_ | refine G_ret ?_ | refine U_seq_ret ?_ | refine U_block_ret ?_ | refine U_nil ?_ | refine S_nil ?_ | refine S_auto ?_
  refine FQ_in (by first | exact .inr rfl | exact .inl rfl) (aresC1 (by simp only [at_put, at_none, n_put, reduceIte, Nat.reduceEqDiff, Nat.reduceLT, zq, *]; first | done | rfl) (ldA (TL rfl) rfl (rd_cells (by simp (disch := omega) only [get_set_self, get_new_self, get_set_ne, get_new_ne, get_bump, next_set, next_new, Nat.lt_irrefl, reduceIte, next_kill, next_bump, *]; first | done | rfl)) rfl)) ?_
  exact ⟨rfl, by simp only [next_set, next_new, Nat.lt_irrefl, reduceIte]; omega, fun i hi hn => by rw [get_set_ne (by omega), get_new_ne (by omega)]⟩
end
end Go.Proofs.Yteffhomollmpdaa.AM.SX

/- RobinPlays: the document's counted and pick. -/
namespace Go.Proofs.Yteffhomollmpdaa.AM.SX
open Go Go.Proofs.Yteffhomollmpdaa.X
set_option linter.unusedVariables false
set_option linter.unusedSimpArgs false
set_option maxRecDepth 100000
set_option maxHeartbeats 8000000
attribute [local irreducible] astep0 aev awants abin abuild
def firstB (l : List Fl) (c : Int) (k : Nat) : Bool := (l.take k).all fun x => decide (x.1 ≠ c)
theorem firstB_succ {l : List Fl} {c : Int} {k : Nat} (hk : k < l.length) : firstB l c (k + 1) = (firstB l c k && decide (l[k].1 ≠ c)) := by
  unfold firstB; rw [List.take_succ_eq_append_getElem hk, List.all_append]; simp
def cntF (l : List Fl) : Nat → List Fl
  | 0 => []
  | k + 1 => if firstB l (l.getD k (0, 0)).1 k = true ∧ 0 < (l.getD k (0, 0)).2 then cntF l k ++ [l.getD k (0, 0)] else cntF l k
theorem cntF_len (l : List Fl) : ∀ k, (cntF l k).length ≤ k
  | 0 => Nat.le_refl _
  | k + 1 => by
    have := cntF_len l k
    unfold cntF; split
    · rw [List.length_append, List.length_singleton]; omega
    · omega
section
variable {n : Nat} {h : AHeap}
theorem counted_spec {l : List Fl} {v : Value} {O : List Nat} (hv : RowAt kF h l v O) (hO : ∀ i ∈ O, i < h.next) (hl : l.length ≤ 1000) (hn : l.length + 10 ≤ n) : C EE (n + 1) 17 [v] h fun r h' => ∃ O', RowAt kF h' (cntF l l.length) r O' ∧ (∀ w ∈ O', h.next ≤ w ∧ w < h'.next) ∧ Keep h h' [] := by
  refine C_in (E_X _) F_counted rfl rfl rfl ?_
  intro a hna hat
  have e0 := hat 0 _ rfl
  replace hna : a.n = 50 := hna
  clear hat
  repeat first | refine G_seq ?_ | refine G_reg ?_ | refine N_seq ?_ | refine N_block ?_ | refine G_block ?_ | refine G_skip ?_ | refine G_cT ?_ | refine G_cF ?_ | refine G_ret ?_ | refine U_seq_ret ?_ | refine U_block_ret ?_ | refine U_nil ?_ | refine S_nil ?_ | refine S_auto ?_
  refine S_step wants0 (o_buildSlice (by simp only [List.map, aev_tmp, aev_const, aev_func, aev_global, at_put, at_none, n_put, reduceIte, Nat.reduceEqDiff, Nat.reduceLT, zq, *]; first | done | rfl) (bs_row0 (K := kF) (TL rfl) (TL rfl) ⟨rfl, rfl, by decide⟩)) ?_
  repeat first | refine G_seq ?_ | refine G_reg ?_ | refine N_seq ?_ | refine N_block ?_ | refine G_block ?_ | refine G_skip ?_ | refine G_cT ?_ | refine G_cF ?_ | refine G_ret ?_ | refine U_seq_ret ?_ | refine U_block_ret ?_ | refine U_nil ?_ | refine S_nil ?_ | refine S_auto ?_
  refine G_loop (fun j a h' => ∃ (i : Nat) (rv : Value) (Or : List Nat), i + j = l.length ∧ a.n = 50 ∧ a.at 0 = v ∧ a.at 3 = rv ∧ a.at 4 = .int .i64 (i : Int) ∧ RowAt kF h' (cntF l i) rv Or ∧ (∀ q ∈ Or, h.next ≤ q ∧ q < h'.next) ∧ Keep h h' []) l.length (by omega) ⟨0, .slice (some ⟨h.next, 0, none⟩) 0 0, [h.next], by omega, by simp only [at_put, at_none, n_put, reduceIte, Nat.reduceEqDiff, Nat.reduceLT, zq, *]; first | done | rfl, by simp only [at_put, at_none, n_put, reduceIte, Nat.reduceEqDiff, Nat.reduceLT, zq, *]; first | done | rfl, by simp only [at_put, at_none, n_put, reduceIte, Nat.reduceEqDiff, Nat.reduceLT, zq, *]; first | done | rfl, by simp only [at_put, at_none, n_put, reduceIte, Nat.reduceEqDiff, Nat.reduceLT, zq, *]; first | done | rfl, row0 (get_new_self _ _ _), fun i hi => by rw [List.mem_singleton.1 hi, next_new_self]; omega, Keep.new _ _ _⟩ ?_
  clear e0 hna
  rintro j a h3 ⟨i, rv, Or, hij, hna, e0, e3, e4, hrow, hOr, hk⟩
  have hkn := hk.1
  have hv3 := hv.keep fun i hi => hk.2 i (hO i hi) (by simp)
  repeat first | refine G_seq ?_ | refine G_reg ?_ | refine N_seq ?_ | refine N_block ?_ | refine G_block ?_ | refine G_skip ?_ | refine G_cT ?_ | refine G_cF ?_ | refine G_ret ?_ | refine U_seq_ret ?_ | refine U_block_ret ?_ | refine U_nil ?_ | refine S_nil ?_ | refine S_auto ?_
  refine S_step wants0 (o_builtin (by simp only [List.map, aev_tmp, aev_const, aev_func, aev_global, at_put, at_none, n_put, reduceIte, Nat.reduceEqDiff, Nat.reduceLT, zq, *]; first | done | rfl) (hv3.lenB (TL rfl))) ?_
  by_cases hil : i < l.length
  · have hil' : ((i : Int) < (l.length : Int)) = True := eq_true (by omega)
    obtain ⟨bk, cs, c, rfl, hb, rfl, hcs⟩ := hv3.rows (by omega)
    have hbk : bk < h.next := hO bk (.head _)
    have ix : ∀ k, k < l.length → aindexAddr EE.T 34 (.slice (some ⟨bk, 0, none⟩) l.length c) (.int .i64 (k : Int)) = some (.pointer (some ⟨bk, k * kF.sz, none⟩)) := fun k hk => ix_row0 (TL rfl) (TL rfl) ⟨rfl, rfl, by decide⟩ hk
    have hgd : l.getD i (0, 0) = l[i] := getD_at hil
    obtain ⟨xc, xw, hxe⟩ : ∃ xc xw, l[i] = (xc, xw) := ⟨_, _, rfl⟩
    have hcn : cntF l (i + 1) = if firstB l xc i = true ∧ 0 < xw then cntF l i ++ [(xc, xw)] else cntF l i := by
      show (if firstB l (l.getD i (0, 0)).1 i = true ∧ 0 < (l.getD i (0, 0)).2 then cntF l i ++ [l.getD i (0, 0)] else cntF l i) = _
      rw [hgd, hxe]
    have hcl := cntF_len l i
    obtain ⟨hcut, hcw⟩ := hcs i hil
    have w0 := hcw 0 (by decide)
    have w1 := hcw 1 (by decide)
    rw [hxe] at hcut w0 w1
    replace w0 : cs[i * kF.sz + 0]? = some (.int .i64 xc) := w0
    replace w1 : cs[i * kF.sz + 1]? = some (.int .i64 xw) := w1
    have i1 := ix i hil
    have hcc : ∀ k, k < i → ∃ y : Int, cs[k * kF.sz + 0]? = some (.int .i64 y) ∧ firstB l xc (k + 1) = (firstB l xc k && decide (y ≠ xc)) := fun k hk => ⟨(l[k]'(by omega)).1, (hcs k (by omega)).2 0 (by decide), firstB_succ (by omega)⟩
    clear hgd hxe hcs hcw hv3
    repeat first | refine G_seq ?_ | refine G_reg ?_ | refine N_seq ?_ | refine N_block ?_ | refine G_block ?_ | refine G_skip ?_ | refine G_cT ?_ | refine G_cF ?_ | refine G_ret ?_ | refine U_seq_ret ?_ | refine U_block_ret ?_ | refine U_nil ?_ | refine S_nil ?_ | refine S_auto ?_
    refine G_loop (fun j2 a h' => ∃ k, k + j2 = i ∧ ((∀ q, h'.get q = h3.get q) ∧ h3.next ≤ h'.next) ∧ a.n = 50 ∧ a.at 0 = .slice (some ⟨bk, 0, none⟩) l.length c ∧ a.at 3 = rv ∧ a.at 4 = .int .i64 (i : Int) ∧ a.at 5 = .bool (firstB l xc k) ∧ a.at 6 = .int .i64 (k : Int)) i (by omega) ⟨0, by omega, ⟨fun _ => rfl, Nat.le_refl _⟩, by simp only [at_put, at_none, n_put, reduceIte, Nat.reduceEqDiff, Nat.reduceLT, zq, *]; first | done | rfl, by simp only [at_put, at_none, n_put, reduceIte, Nat.reduceEqDiff, Nat.reduceLT, zq, *]; first | done | rfl, by simp only [at_put, at_none, n_put, reduceIte, Nat.reduceEqDiff, Nat.reduceLT, zq, *]; first | done | rfl, by simp only [at_put, at_none, n_put, reduceIte, Nat.reduceEqDiff, Nat.reduceLT, zq, *]; first | done | rfl, by simp only [at_put, at_none, n_put, reduceIte, Nat.reduceEqDiff, Nat.reduceLT, zq, *]; first | done | rfl, by simp only [at_put, at_none, n_put, reduceIte, Nat.reduceEqDiff, Nat.reduceLT, zq, *]; first | done | rfl⟩ ?_
    clear e0 e3 e4 hna a
    rintro j2 a h4 ⟨k, hki, ⟨hsm, hsn⟩, hna, e0, e3, e4, e5, e6⟩
    have hb4 := (hsm bk).trans hb
    by_cases hkl : k < i
    · have hkl' : ((k : Int) < (i : Int)) = True := eq_true (by omega)
      obtain ⟨y, hy, hfs⟩ := hcc k hkl
      have i2 := ix k (by omega)
      clear hcc ix
      cases hfb : firstB l xc k with
      | false =>
        rw [hfb] at e5 hfs
        repeat first | refine G_seq ?_ | refine G_reg ?_ | refine N_seq ?_ | refine N_block ?_ | refine G_block ?_ | refine G_skip ?_ | refine G_cT ?_ | refine G_cF ?_ | refine G_ret ?_ | refine U_seq_ret ?_ | refine U_block_ret ?_ | refine U_nil ?_ | refine S_nil ?_ | refine S_auto ?_
        refine G_draw [] [] (by kernel_rfl) ?_
        repeat first | refine D1_nil0 ?_ | refine D2_nil ?_ | refine D_noG ?_ | refine D_pure ?_ | refine D_rd ?_ | refine D2_pure' ?_
        repeat first | refine G_seq ?_ | refine G_reg ?_ | refine N_seq ?_ | refine N_block ?_ | refine G_block ?_ | refine G_skip ?_ | refine G_cT ?_ | refine G_cF ?_ | refine G_ret ?_ | refine U_seq_ret ?_ | refine U_block_ret ?_ | refine U_nil ?_ | refine S_nil ?_ | refine S_auto ?_
        refine N_nil ?_
        exact LQ_n (j2 - 1) (by omega) ⟨k + 1, by omega, ⟨fun q => (get_bump _ _ _).trans (hsm q), by rw [next_bump]; omega⟩, by simp only [at_put, at_none, n_put, reduceIte, Nat.reduceEqDiff, Nat.reduceLT, zq, *]; first | done | rfl, by simp only [at_put, at_none, n_put, reduceIte, Nat.reduceEqDiff, Nat.reduceLT, zq, *]; first | done | rfl, by simp only [at_put, at_none, n_put, reduceIte, Nat.reduceEqDiff, Nat.reduceLT, zq, *]; first | done | rfl, by simp only [at_put, at_none, n_put, reduceIte, Nat.reduceEqDiff, Nat.reduceLT, zq, *]; first | done | rfl, by rw [hfs]; simp only [at_put, at_none, n_put, reduceIte, Nat.reduceEqDiff, Nat.reduceLT, zq, *]; first | done | rfl, by rw [Int.natCast_add]; simp only [at_put, at_none, n_put, reduceIte, Nat.reduceEqDiff, Nat.reduceLT, zq, *]; first | done | rfl⟩
      | true =>
        rw [hfb] at e5 hfs
        rw [Bool.true_and] at hfs
        repeat first | refine G_seq ?_ | refine G_reg ?_ | refine N_seq ?_ | refine N_block ?_ | refine G_block ?_ | refine G_skip ?_ | refine G_cT ?_ | refine G_cF ?_ | refine G_ret ?_ | refine U_seq_ret ?_ | refine U_block_ret ?_ | refine U_nil ?_ | refine S_nil ?_ | refine S_auto ?_
        refine G_draw [] [] (by kernel_rfl) ?_
        repeat first | refine D1_nil0 ?_ | refine D2_nil ?_ | refine D_noG ?_ | refine D_pure ?_ | refine D_rd ?_ | refine D2_pure' ?_
        refine D1_pure (by first | exact wants0 | exact (wantsG rfl rfl (by simp only [n_put, *]; decide) (by simp only [at_put, at_none, n_put, reduceIte, Nat.reduceEqDiff, Nat.reduceLT, cond_true, cond_false, ne_eq, not_true_eq_false, not_false_eq_true, decide_true, decide_false, Bool.not_true, Bool.not_false, eq_self, Int.lt_irrefl, Int.le_refl, *]; first | done | rfl)).trans rfl) rfl rfl (fun _ _ => o_indexAddr (by simp only [aev_tmp, aev_const, aev_func, aev_global, at_put, at_none, n_put, reduceIte, Nat.reduceEqDiff, Nat.reduceLT, zq, *]; first | done | rfl) (by simp only [aev_tmp, aev_const, aev_func, aev_global, at_put, at_none, n_put, reduceIte, Nat.reduceEqDiff, Nat.reduceLT, zq, *]; first | done | rfl) i2) ?_
        repeat first | refine D1_nil0 ?_ | refine D2_nil ?_ | refine D_noG ?_ | refine D_pure ?_ | refine D_rd ?_ | refine D2_pure' ?_
        refine D1_rd (by first | exact wants0 | exact (wantsG rfl rfl (by simp only [n_put, *]; decide) (by simp only [at_put, at_none, n_put, reduceIte, Nat.reduceEqDiff, Nat.reduceLT, cond_true, cond_false, ne_eq, not_true_eq_false, not_false_eq_true, decide_true, decide_false, Bool.not_true, Bool.not_false, eq_self, Int.lt_irrefl, Int.le_refl, *]; first | done | rfl)).trans rfl) (by rfl) (by rfl) (fun _ => o_ld (by simp only [aev_tmp, aev_const, aev_func, aev_global, at_put, at_none, n_put, reduceIte, Nat.reduceEqDiff, Nat.reduceLT, zq, *]; first | done | rfl) (by exact TL rfl) (by rfl) (rd_cells (by simp (disch := omega) only [get_set_self, get_new_self, get_set_ne, get_new_ne, get_bump, next_set, next_new, Nat.lt_irrefl, reduceIte, next_kill, next_bump, *]; first | done | rfl)) hy) (by first | exact veq_self rfl | assumption) ?_
        repeat first | refine D1_nil0 ?_ | refine D2_nil ?_ | refine D_noG ?_ | refine D_pure ?_ | refine D_rd ?_ | refine D2_pure' ?_
        refine D1_pure (by first | exact wants0 | exact (wantsG rfl rfl (by simp only [n_put, *]; decide) (by simp only [at_put, at_none, n_put, reduceIte, Nat.reduceEqDiff, Nat.reduceLT, cond_true, cond_false, ne_eq, not_true_eq_false, not_false_eq_true, decide_true, decide_false, Bool.not_true, Bool.not_false, eq_self, Int.lt_irrefl, Int.le_refl, *]; first | done | rfl)).trans rfl) rfl rfl (fun _ _ => o_indexAddr (by simp only [aev_tmp, aev_const, aev_func, aev_global, at_put, at_none, n_put, reduceIte, Nat.reduceEqDiff, Nat.reduceLT, zq, *]; first | done | rfl) (by simp only [aev_tmp, aev_const, aev_func, aev_global, at_put, at_none, n_put, reduceIte, Nat.reduceEqDiff, Nat.reduceLT, zq, *]; first | done | rfl) i1) ?_
        repeat first | refine D1_nil0 ?_ | refine D2_nil ?_ | refine D_noG ?_ | refine D_pure ?_ | refine D_rd ?_ | refine D2_pure' ?_
        refine D1_rd (by first | exact wants0 | exact (wantsG rfl rfl (by simp only [n_put, *]; decide) (by simp only [at_put, at_none, n_put, reduceIte, Nat.reduceEqDiff, Nat.reduceLT, cond_true, cond_false, ne_eq, not_true_eq_false, not_false_eq_true, decide_true, decide_false, Bool.not_true, Bool.not_false, eq_self, Int.lt_irrefl, Int.le_refl, *]; first | done | rfl)).trans rfl) (by rfl) (by rfl) (fun _ => o_ld (by simp only [aev_tmp, aev_const, aev_func, aev_global, at_put, at_none, n_put, reduceIte, Nat.reduceEqDiff, Nat.reduceLT, zq, *]; first | done | rfl) (by exact TL rfl) (by rfl) (rd_cells (by simp (disch := omega) only [get_set_self, get_new_self, get_set_ne, get_new_ne, get_bump, next_set, next_new, Nat.lt_irrefl, reduceIte, next_kill, next_bump, *]; first | done | rfl)) w0) (by first | exact veq_self rfl | assumption) ?_
        repeat first | refine D1_nil0 ?_ | refine D2_nil ?_ | refine D_noG ?_ | refine D_pure ?_ | refine D_rd ?_ | refine D2_pure' ?_
        repeat first | refine G_seq ?_ | refine G_reg ?_ | refine N_seq ?_ | refine N_block ?_ | refine G_block ?_ | refine G_skip ?_ | refine G_cT ?_ | refine G_cF ?_ | refine G_ret ?_ | refine U_seq_ret ?_ | refine U_block_ret ?_ | refine U_nil ?_ | refine S_nil ?_ | refine S_auto ?_
        refine N_nil ?_
        exact LQ_n (j2 - 1) (by omega) ⟨k + 1, by omega, ⟨fun q => (get_bump _ _ _).trans (hsm q), by rw [next_bump]; omega⟩, by simp only [at_put, at_none, n_put, reduceIte, Nat.reduceEqDiff, Nat.reduceLT, zq, *]; first | done | rfl, by simp only [at_put, at_none, n_put, reduceIte, Nat.reduceEqDiff, Nat.reduceLT, zq, *]; first | done | rfl, by simp only [at_put, at_none, n_put, reduceIte, Nat.reduceEqDiff, Nat.reduceLT, zq, *]; first | done | rfl, by simp only [at_put, at_none, n_put, reduceIte, Nat.reduceEqDiff, Nat.reduceLT, zq, *]; first | done | rfl, by rw [hfs]; simp only [at_put, at_none, n_put, reduceIte, Nat.reduceEqDiff, Nat.reduceLT, zq, *]; first | done | rfl, by rw [Int.natCast_add]; simp only [at_put, at_none, n_put, reduceIte, Nat.reduceEqDiff, Nat.reduceLT, zq, *]; first | done | rfl⟩
    · have hkl' : ((k : Int) < (i : Int)) = False := eq_false (by omega)
      obtain rfl : k = i := by omega
      clear hcc
      have hrow4 := hrow.keep fun q _ => hsm q
      have hOr4 : ∀ q ∈ Or, h.next ≤ q ∧ q < h4.next := fun q hq => ⟨(hOr q hq).1, Nat.lt_of_lt_of_le (hOr q hq).2 hsn⟩
      have hk4 : Keep h h4 [] := ⟨Nat.le_trans hkn hsn, fun q hq hn => (hsm q).trans (hk.2 q hq hn)⟩
      clear hrow hOr hk hb hsm
      have hkn4 := hk4.1
      repeat first | refine G_seq ?_ | refine G_reg ?_ | refine N_seq ?_ | refine N_block ?_ | refine G_block ?_ | refine G_skip ?_ | refine G_cT ?_ | refine G_cF ?_ | refine G_ret ?_ | refine U_seq_ret ?_ | refine U_block_ret ?_ | refine U_nil ?_ | refine S_nil ?_ | refine S_auto ?_
      refine G_exit ?_
      repeat first | refine U_seq_exit ?_ | refine U_nil ?_ | refine LQ_exit ?_ | refine U_block_hit ?_
      cases hfb : firstB l xc k with
      | false =>
        rw [hfb] at e5 hcn
        rw [if_neg (by simp)] at hcn
        rw [← hcn] at hrow4
        repeat first | refine G_seq ?_ | refine G_reg ?_ | refine N_seq ?_ | refine N_block ?_ | refine G_block ?_ | refine G_skip ?_ | refine G_cT ?_ | refine G_cF ?_ | refine G_ret ?_ | refine U_seq_ret ?_ | refine U_block_ret ?_ | refine U_nil ?_ | refine S_nil ?_ | refine S_auto ?_
        repeat first | refine G_seq ?_ | refine G_reg ?_ | refine N_seq ?_ | refine N_block ?_ | refine G_block ?_ | refine G_skip ?_ | refine G_cT ?_ | refine G_cF ?_ | refine G_ret ?_ | refine U_seq_ret ?_ | refine U_block_ret ?_ | refine U_nil ?_ | refine S_nil ?_ | refine S_noG ?_ | refine S_auto ?_
        refine N_nil ?_
        exact LQ_n (j - 1) (by omega) ⟨k + 1, rv, Or, by omega, by simp only [at_put, at_none, n_put, reduceIte, Nat.reduceEqDiff, Nat.reduceLT, zq, *]; first | done | rfl, by simp only [at_put, at_none, n_put, reduceIte, Nat.reduceEqDiff, Nat.reduceLT, zq, *]; first | done | rfl, by simp only [at_put, at_none, n_put, reduceIte, Nat.reduceEqDiff, Nat.reduceLT, zq, *]; first | done | rfl, by rw [Int.natCast_add]; simp only [at_put, at_none, n_put, reduceIte, Nat.reduceEqDiff, Nat.reduceLT, zq, *]; first | done | rfl, hrow4, hOr4, hk4⟩
      | true =>
        rw [hfb] at e5 hcn
        by_cases hw : 0 < xw
        · have hw' : (0 < xw) = True := eq_true hw
          rw [if_pos ⟨rfl, hw⟩] at hcn
          clear hw
          obtain ⟨v3, h5, O3, q1, q2, q3, q4, q5⟩ := app_row (K := kF) (T := EE.T) (h := h4.new h4.next (.cells (kF.enc (xc, xw)) true)) (st := 34) (xt := 34) (news := [((xc, xw) : Fl)]) (x := .slice (some ⟨h4.next, 0, none⟩) 1 1) (TL rfl) (TL rfl) ⟨rfl, rfl, by decide⟩ (TL rfl) (hrow4.keep fun q hq => by have := hOr4 q hq; rw [get_new_ne (by omega)]) (by simp) (src_row1 (K := kF) (get_new_self _ _ _)) (by simp; omega) (fun q hq => by have := hOr4 q hq; rw [next_new_self]; omega)
          have hnx5 := q3.1
          rw [next_new_self] at hnx5
          have hk5 : ∀ q, q < h.next → h5.get q = h4.get q := fun q hq => by
            rw [q3.2 q (by rw [next_new_self]; omega) (fun hm => by have := hOr4 q hm; omega), get_new_ne (by omega)]
          have hO3 : ∀ q ∈ O3, h.next ≤ q ∧ q < h5.next := fun q hq => ⟨by
            rcases q4 with rfl | rfl
            · exact (hOr4 q hq).1
            · rw [List.mem_singleton, next_new_self] at hq; omega, q5 q hq⟩
          have hkk : Keep h h5 [] := ⟨by omega, fun q hq hn => (hk5 q hq).trans (hk4.2 q hq hn)⟩
          rw [← hcn] at q2
          repeat first | refine G_seq ?_ | refine G_reg ?_ | refine N_seq ?_ | refine N_block ?_ | refine G_block ?_ | refine G_skip ?_ | refine G_cT ?_ | refine G_cF ?_ | refine G_ret ?_ | refine U_seq_ret ?_ | refine U_block_ret ?_ | refine U_nil ?_ | refine S_nil ?_ | refine S_auto ?_
          repeat first | refine G_seq ?_ | refine G_reg ?_ | refine N_seq ?_ | refine N_block ?_ | refine G_block ?_ | refine G_skip ?_ | refine G_cT ?_ | refine G_cF ?_ | refine G_ret ?_ | refine U_seq_ret ?_ | refine U_block_ret ?_ | refine U_nil ?_ | refine S_nil ?_ | refine S_noG ?_ | refine S_auto ?_
          refine S_step (by first | exact wants0 | exact (wantsG rfl rfl (by simp only [n_put, *]; decide) (by simp only [at_put, at_none, n_put, reduceIte, Nat.reduceEqDiff, Nat.reduceLT, cond_true, cond_false, ne_eq, not_true_eq_false, not_false_eq_true, decide_true, decide_false, Bool.not_true, Bool.not_false, eq_self, Int.lt_irrefl, Int.le_refl, *]; first | done | rfl)).trans rfl) (o_indexAddr (by simp only [aev_tmp, aev_const, aev_func, aev_global, at_put, at_none, n_put, reduceIte, Nat.reduceEqDiff, Nat.reduceLT, zq, *]; first | done | rfl) (by simp only [aev_tmp, aev_const, aev_func, aev_global, at_put, at_none, n_put, reduceIte, Nat.reduceEqDiff, Nat.reduceLT, zq, *]; first | done | rfl) i1) ?_
          repeat first | refine G_seq ?_ | refine G_reg ?_ | refine N_seq ?_ | refine N_block ?_ | refine G_block ?_ | refine G_skip ?_ | refine G_cT ?_ | refine G_cF ?_ | refine G_ret ?_ | refine U_seq_ret ?_ | refine U_block_ret ?_ | refine U_nil ?_ | refine S_nil ?_ | refine S_noG ?_ | refine S_auto ?_
          refine S_step (by first | exact wants0 | exact (wantsG rfl rfl (by simp only [n_put, *]; decide) (by simp only [at_put, at_none, n_put, reduceIte, Nat.reduceEqDiff, Nat.reduceLT, cond_true, cond_false, ne_eq, not_true_eq_false, not_false_eq_true, decide_true, decide_false, Bool.not_true, Bool.not_false, eq_self, Int.lt_irrefl, Int.le_refl, *]; first | done | rfl)).trans rfl) (o_ld (by simp only [aev_tmp, aev_const, aev_func, aev_global, at_put, at_none, n_put, reduceIte, Nat.reduceEqDiff, Nat.reduceLT, zq, *]; first | done | rfl) (by exact TL rfl) (by rfl) (rd_cells (by simp (disch := omega) only [get_set_self, get_new_self, get_set_ne, get_new_ne, get_bump, next_set, next_new, Nat.lt_irrefl, reduceIte, next_kill, next_bump, *]; first | done | rfl)) w1) ?_
          repeat first | refine G_seq ?_ | refine G_reg ?_ | refine N_seq ?_ | refine N_block ?_ | refine G_block ?_ | refine G_skip ?_ | refine G_cT ?_ | refine G_cF ?_ | refine G_ret ?_ | refine U_seq_ret ?_ | refine U_block_ret ?_ | refine U_nil ?_ | refine S_nil ?_ | refine S_noG ?_ | refine S_auto ?_
          refine S_step wants0 (o_indexAddr (by simp only [aev_tmp, aev_const, aev_func, aev_global, at_put, at_none, n_put, reduceIte, Nat.reduceEqDiff, Nat.reduceLT, zq, *]; first | done | rfl) (by simp only [aev_tmp, aev_const, aev_func, aev_global, at_put, at_none, n_put, reduceIte, Nat.reduceEqDiff, Nat.reduceLT, zq, *]; first | done | rfl) i1) ?_
          refine S_step wants0 (o_ldA (by simp only [aev_tmp, aev_const, aev_func, aev_global, at_put, at_none, n_put, reduceIte, Nat.reduceEqDiff, Nat.reduceLT, zq, *]; first | done | rfl) (TL rfl) rfl (rd_cells hb4) (hcut.trans rfl)) ?_
          refine S_step wants0 (o_buildSlice (by simp only [List.map, aev_tmp, aev_const, aev_func, aev_global, at_put, at_none, n_put, reduceIte, Nat.reduceEqDiff, Nat.reduceLT, zq, *]; first | done | rfl) (bs_row1 (K := kF) (x := ((xc, xw) : Fl)) (TL rfl) (TL rfl) ⟨rfl, rfl, by decide⟩ (by decide) rfl)) ?_
          refine S_step wants0 (o_builtin (by simp only [List.map, aev_tmp, aev_const, aev_func, aev_global, at_put, at_none, n_put, reduceIte, Nat.reduceEqDiff, Nat.reduceLT, zq, *]; first | done | rfl) (bi_app q1)) ?_
          repeat first | refine G_seq ?_ | refine G_reg ?_ | refine N_seq ?_ | refine N_block ?_ | refine G_block ?_ | refine G_skip ?_ | refine G_cT ?_ | refine G_cF ?_ | refine G_ret ?_ | refine U_seq_ret ?_ | refine U_block_ret ?_ | refine U_nil ?_ | refine S_nil ?_ | refine S_auto ?_
          refine N_nil ?_
          exact LQ_n (j - 1) (by omega) ⟨k + 1, v3, O3, by omega, by simp only [at_put, at_none, n_put, reduceIte, Nat.reduceEqDiff, Nat.reduceLT, zq, *]; first | done | rfl, by simp only [at_put, at_none, n_put, reduceIte, Nat.reduceEqDiff, Nat.reduceLT, zq, *]; first | done | rfl, by simp only [at_put, at_none, n_put, reduceIte, Nat.reduceEqDiff, Nat.reduceLT, zq, *]; first | done | rfl, by rw [Int.natCast_add]; simp only [at_put, at_none, n_put, reduceIte, Nat.reduceEqDiff, Nat.reduceLT, zq, *]; first | done | rfl, q2, hO3, hkk⟩
        · have hw' : (0 < xw) = False := eq_false hw
          rw [if_neg (fun h => hw h.2)] at hcn
          rw [← hcn] at hrow4
          clear hw
          repeat first | refine G_seq ?_ | refine G_reg ?_ | refine N_seq ?_ | refine N_block ?_ | refine G_block ?_ | refine G_skip ?_ | refine G_cT ?_ | refine G_cF ?_ | refine G_ret ?_ | refine U_seq_ret ?_ | refine U_block_ret ?_ | refine U_nil ?_ | refine S_nil ?_ | refine S_auto ?_
          repeat first | refine G_seq ?_ | refine G_reg ?_ | refine N_seq ?_ | refine N_block ?_ | refine G_block ?_ | refine G_skip ?_ | refine G_cT ?_ | refine G_cF ?_ | refine G_ret ?_ | refine U_seq_ret ?_ | refine U_block_ret ?_ | refine U_nil ?_ | refine S_nil ?_ | refine S_noG ?_ | refine S_auto ?_
          refine S_step (by first | exact wants0 | exact (wantsG rfl rfl (by simp only [n_put, *]; decide) (by simp only [at_put, at_none, n_put, reduceIte, Nat.reduceEqDiff, Nat.reduceLT, cond_true, cond_false, ne_eq, not_true_eq_false, not_false_eq_true, decide_true, decide_false, Bool.not_true, Bool.not_false, eq_self, Int.lt_irrefl, Int.le_refl, *]; first | done | rfl)).trans rfl) (o_indexAddr (by simp only [aev_tmp, aev_const, aev_func, aev_global, at_put, at_none, n_put, reduceIte, Nat.reduceEqDiff, Nat.reduceLT, zq, *]; first | done | rfl) (by simp only [aev_tmp, aev_const, aev_func, aev_global, at_put, at_none, n_put, reduceIte, Nat.reduceEqDiff, Nat.reduceLT, zq, *]; first | done | rfl) i1) ?_
          repeat first | refine G_seq ?_ | refine G_reg ?_ | refine N_seq ?_ | refine N_block ?_ | refine G_block ?_ | refine G_skip ?_ | refine G_cT ?_ | refine G_cF ?_ | refine G_ret ?_ | refine U_seq_ret ?_ | refine U_block_ret ?_ | refine U_nil ?_ | refine S_nil ?_ | refine S_noG ?_ | refine S_auto ?_
          refine S_step (by first | exact wants0 | exact (wantsG rfl rfl (by simp only [n_put, *]; decide) (by simp only [at_put, at_none, n_put, reduceIte, Nat.reduceEqDiff, Nat.reduceLT, cond_true, cond_false, ne_eq, not_true_eq_false, not_false_eq_true, decide_true, decide_false, Bool.not_true, Bool.not_false, eq_self, Int.lt_irrefl, Int.le_refl, *]; first | done | rfl)).trans rfl) (o_ld (by simp only [aev_tmp, aev_const, aev_func, aev_global, at_put, at_none, n_put, reduceIte, Nat.reduceEqDiff, Nat.reduceLT, zq, *]; first | done | rfl) (by exact TL rfl) (by rfl) (rd_cells (by simp (disch := omega) only [get_set_self, get_new_self, get_set_ne, get_new_ne, get_bump, next_set, next_new, Nat.lt_irrefl, reduceIte, next_kill, next_bump, *]; first | done | rfl)) w1) ?_
          repeat first | refine G_seq ?_ | refine G_reg ?_ | refine N_seq ?_ | refine N_block ?_ | refine G_block ?_ | refine G_skip ?_ | refine G_cT ?_ | refine G_cF ?_ | refine G_ret ?_ | refine U_seq_ret ?_ | refine U_block_ret ?_ | refine U_nil ?_ | refine S_nil ?_ | refine S_noG ?_ | refine S_auto ?_
          refine N_nil ?_
          exact LQ_n (j - 1) (by omega) ⟨k + 1, rv, Or, by omega, by simp only [at_put, at_none, n_put, reduceIte, Nat.reduceEqDiff, Nat.reduceLT, zq, *]; first | done | rfl, by simp only [at_put, at_none, n_put, reduceIte, Nat.reduceEqDiff, Nat.reduceLT, zq, *]; first | done | rfl, by simp only [at_put, at_none, n_put, reduceIte, Nat.reduceEqDiff, Nat.reduceLT, zq, *]; first | done | rfl, by rw [Int.natCast_add]; simp only [at_put, at_none, n_put, reduceIte, Nat.reduceEqDiff, Nat.reduceLT, zq, *]; first | done | rfl, hrow4, hOr4, hk4⟩
  · have hil' : ((i : Int) < (l.length : Int)) = False := eq_false (by omega)
    obtain rfl : i = l.length := by omega
    repeat first | refine G_seq ?_ | refine G_reg ?_ | refine N_seq ?_ | refine N_block ?_ | refine G_block ?_ | refine G_skip ?_ | refine G_cT ?_ | refine G_cF ?_ | refine G_ret ?_ | refine U_seq_ret ?_ | refine U_block_ret ?_ | refine U_nil ?_ | refine S_nil ?_ | refine S_auto ?_
    refine G_exit ?_
    repeat first | refine U_seq_exit ?_ | refine U_nil ?_ | refine LQ_exit ?_ | refine U_block_hit ?_
    repeat first | refine G_seq ?_ | refine G_reg ?_ | refine N_seq ?_ | refine N_block ?_ | refine G_block ?_ | refine G_skip ?_ | refine G_cT ?_ | refine G_cF ?_ | refine G_ret ?_ | refine U_seq_ret ?_ | refine U_block_ret ?_ | refine U_nil ?_ | refine S_nil ?_ | refine S_auto ?_
    refine FQ_in (by first | exact .inr rfl | exact .inl rfl) (by first | exact ares1 (by simp only [at_put, at_none, n_put, reduceIte, Nat.reduceEqDiff, Nat.reduceLT, zq, *]; first | done | rfl) | exact ares2 (by simp only [at_put, at_none, n_put, reduceIte, Nat.reduceEqDiff, Nat.reduceLT, zq, *]; first | done | rfl) (by simp only [at_put, at_none, n_put, reduceIte, Nat.reduceEqDiff, Nat.reduceLT, zq, *]; first | done | rfl)) ?_
    exact ⟨Or, hrow, hOr, hk⟩
end
end Go.Proofs.Yteffhomollmpdaa.AM.SX
