import Derived.Test.YtffockklleanmaaPS8
import Derived.Test.YtffockklleanmaaAMZ2
import Derived.Test.YtffockklleanmaaXChg
/- A law over a row of ops: from the machine's run to the program's. -/
namespace Go.Proofs.Ytffockklleanmaa.X
open Go Go.RowKit Go.Proofs.YtffockklleanmaaW.PrintWords Go.Proofs.YtffockklleanmaaW.PrintMore
set_option linter.unusedVariables false
theorem C_map {α β : Type} {d : Kd α} {d' : Kd β} (f : α → β) (hs : d.sz = d'.sz) (hK : ∀ w x cs, d.K w x cs → d'.K w (f x) cs) {w : World} {A : Option Addr} {n : Nat} {xs : List α} (h : Kd.C d w A n xs) : Kd.C d' w A n (xs.map f) := by
  obtain ⟨h1, h2, h3⟩ := h
  refine ⟨by rw [List.length_map]; exact h1, h2, fun hn => ?_⟩
  obtain ⟨ad, e, hc⟩ := h3 hn
  refine ⟨ad, e, fun j p hj => ?_⟩
  rw [List.getElem?_map] at hj
  obtain ⟨q, hq, rfl⟩ := Option.map_eq_some_iff.1 hj
  obtain ⟨c, c1, c2, c3⟩ := hc j q hq
  exact ⟨c, by rw [c1, hs], hK _ _ _ c2, by rw [← hs]; exact c3⟩
abbrev OpT := Int × Int × ByteArray × (ByteArray × List ByteArray) × Int × Int × Int
def kUp : Kd (ByteArray × List ByteArray) := Kd.pair Kd.string (Kd.slice 9 Kd.string)
def kO : Kd OpT := Kd.pair (Kd.int .i64) (Kd.pair (Kd.int .i64) (Kd.pair Kd.string (Kd.pair kUp (Kd.pair (Kd.int .i64) (Kd.pair (Kd.int .i64) (Kd.int .i64))))))
def zO : OpT := (0, 0, ⟨#[]⟩, (⟨#[]⟩, []), 0, 0, 0)
theorem kO_open {w : World} {x : OpT} {cs : List Value} (h : kO.K w x cs) : ∃ A1 c1, cs = [.int .i64 x.1, .int .i64 x.2.1, .string x.2.2.1, .string x.2.2.2.1.1, .slice A1 x.2.2.2.1.2.length c1, .int .i64 x.2.2.2.2.1, .int .i64 x.2.2.2.2.2.1, .int .i64 x.2.2.2.2.2.2] := by
  obtain ⟨_, _, rfl, rfl, ⟨_, _, rfl, rfl, ⟨_, _, rfl, rfl, ⟨_, _, rfl, ⟨_, _, rfl, rfl, ⟨A1, c1, rfl, l1, g1⟩⟩, ⟨_, _, rfl, rfl, ⟨_, _, rfl, rfl, rfl⟩⟩⟩⟩⟩⟩ := h
  exact ⟨A1, c1, rfl⟩
end Go.Proofs.Ytffockklleanmaa.X
namespace Go.Proofs.Ytffockklleanmaa.AM.SX
open Go Go.RowKit Go.Proofs Go.Proofs.Ytffockklleanmaa.X Go.Proofs.YtffockklleanmaaW.PrintWords
set_option linter.unusedVariables false
set_option linter.unusedSimpArgs false
set_option maxRecDepth 100000
def opC (o : OpT) : List Value := [.int .i64 o.1, .int .i64 o.2.1, .string o.2.2.1, .string o.2.2.2.1.1, .chan none, .int .i64 o.2.2.2.2.1, .int .i64 o.2.2.2.2.2.1, .int .i64 o.2.2.2.2.2.2]
def flat : List OpT → List Value
  | [] => []
  | o :: l => opC o ++ flat l
theorem flat_len : ∀ l : List OpT, (flat l).length = 8 * l.length
  | [] => rfl
  | o :: l => by simp only [flat, List.length_append, flat_len l, List.length_cons]; show 8 + _ = _; omega
theorem flat_drop : ∀ (l : List OpT) (i : Nat), (flat l).drop (i * 8) = flat (l.drop i)
  | l, 0 => by simp
  | [], i + 1 => by simp [flat]
  | o :: l, i + 1 => by
    have h : (i + 1) * 8 = 8 + i * 8 := by omega
    rw [h, ← List.drop_drop]
    have : (flat (o :: l)).drop 8 = flat l := rfl
    rw [this, flat_drop l i]; rfl
theorem flat_cut {l : List OpT} {i : Nat} (hi : i < l.length) : cut (flat l) (i * 8) 8 = some (opC l[i]) := by
  refine cut_len ?_ rfl
  rw [flat_drop, List.drop_eq_getElem_cons hi]
  rfl
theorem flat_get {l : List OpT} {j : Nat} {v : Value} (h : (flat l)[j]? = some v) : ∃ hi : j / 8 < l.length, (opC l[j / 8])[j % 8]? = some v := by
  have hlt := (List.getElem?_eq_some_iff.1 h).1
  rw [flat_len] at hlt
  have hi : j / 8 < l.length := by omega
  refine ⟨hi, ?_⟩
  have h1 := flat_drop l (j / 8)
  have h2 : ((flat l).drop (j / 8 * 8))[j % 8]? = some v := by rw [List.getElem?_drop]; rw [show j / 8 * 8 + j % 8 = j by omega]; exact h
  rw [h1, List.drop_eq_getElem_cons hi] at h2
  have h3 : (flat (l[j / 8] :: l.drop (j / 8 + 1)))[j % 8]? = (opC l[j / 8])[j % 8]? := by
    show (opC l[j / 8] ++ _)[j % 8]? = _
    rw [List.getElem?_append_left (by show j % 8 < 8; omega)]
  rw [h3] at h2
  exact h2
/-- the row as the machine has it -/
def ScriptAt (h : AHeap) (l : List OpT) (sv : Value) (ids : List Nat) : Prop :=
  (l = [] ∧ sv = .chan (some 0) ∧ ids = []) ∨ ∃ b, sv = .slice (some ⟨b, 0, none⟩) l.length (CAPX + 1) ∧ h.get b = some (.ro (flat l)) ∧ ids = [b]
@[reducible] def tokL (v : Value) (hv : v.oneCell' = true ∧ ∀ b, v ≠ .bool b) (low : Nat → Option Obj) : Tok where
  val := fun _ => v
  one := fun _ => hv.1
  nb := fun _ b => hv.2 b
  low := low
theorem slice_one {A : Option Addr} {n c : Nat} : (Value.slice A n c).oneCell' = true ∧ ∀ b, Value.slice A n c ≠ .bool b := ⟨rfl, fun b h => by cases h⟩
theorem tbL_ok {N c : Nat} {A : Option Addr} {low : Nat → Option Obj} : @TbOk (tokL (.slice A 0 c) slice_one low) Try.prog 0 N tbL := by
  letI := tokL (.slice A 0 c) slice_one low
  intro op vs v h o π g nx w ρ he hg hr hvs
  unfold tbL at h
  split at h
  · rename_i args ts
    cases hts : one22 ts with
    | false => rw [hts] at h; cases h
    | true =>
      rw [hts] at h
      have h : some (Value.int .i64 0) = some v := h
      obtain rfl := Option.some.inj h
      unfold one22 at hts
      have ho : o.op = .call ⟨.builtin .len, args, ts⟩ := he
      have hts' : ts[0]? = some 22 := by
        split at hts
        · rename_i t e
          rw [beqd, decide_eq_true_eq] at hts
          subst hts
          rw [← Array.getElem?_toList, e]; rfl
        · cases hts
      have hops : (Op.call ⟨.builtin .len, args, ts⟩).operands.toList.map ρ = args.toList.map ρ := by simp [Op.operands, Call.operands]
      rw [hops] at hvs
      have hx : args.map ρ = #[.slice A 0 c] := by
        have h1 : args.toList.map ρ = [.slice A 0 c] := by
          generalize args.toList.map ρ = z at hvs
          cases hvs with
          | cons h1 h2 =>
            cases h2
            have h3 := tok_inv h1
            rw [h3]; rfl
        apply Array.toList_inj.1
        simpa using h1
      refine ⟨.int .i64 0, ?_, .int _ _⟩
      have hexec : (execOp ρ o).run Try.prog w = (builtin .len ts o.type (args.map fun | .const _ => true | _ => false) (args.map ρ)).run Try.prog w := by
        unfold execOp
        rw [ho]
        rfl
      rw [hexec, hx]
      have hu : Try.prog.underlying 22 = some (.slice 34) := by kernel_rfl
      have hu2 := run_under (w := w) hu
      simp [builtin, Builtin.len_, hts', hu2, goInt, Sem.run_pure, Sem.run_bind, Result.andThen]
  · cases h
theorem X_ok [Tok] {N : Nat} : ∀ k x, XL k = some x → ∀ args h v h', x args h = some (v, h') → CallOk Try.prog 0 N k args h v h' := by
  refine trueX_ok (fun f hf h => ?_)
  obtain rfl := List.mem_singleton.1 hf
  obtain ⟨h', hrun⟩ := resB_some lending_run
  rw [callF_eq] at hrun
  exact closed_call (sound noX_ok noTb_ok 1000) hrun h
/-- a law's run from what the world holds -/
theorem law_calls_from [Tok] {n f : Nat} {args : List Value} {cargs : Array Value} {h0 h' : AHeap} {W : World} {π : Pi} (hc : CallsOk Try.prog 0 W.heap.size (acall EE n)) (hrun : acall EE n f args h0 = some (.bool true, h')) (hg : GR 0 π) (hr : HR π W.heap.size h0.get h0.next W) (hargs : VRs π args cargs.toList) (hown : ∀ b, ¬ Own π h0.get b) :
    Calls Try.prog f cargs W fun e W' => e = .returned (.bool true) ∧ Below W.heap.size W W' := by
  obtain ⟨_, hcall⟩ := hc f args h0 (.bool true) h' hrun
  refine (hcall π W cargs hg hr hargs).mono ?_
  rintro e w' ⟨π', v', rfl, hv, hst⟩
  have := hv.bool_inv
  subst this
  exact ⟨rfl, hst.os, hst.tape, hst.output, hst.size, fun b hb => hst.blk b hb (hown b)⟩
theorem script_cells {W : World} {A : Option Addr} {l : List OpT} (hr : Kd.C kO W A l.length l) (h0 : 0 < l.length) : ∃ bk of ds t fr, A = some ⟨bk, of, none⟩ ∧ W.heap[bk]? = some (.cells ds t fr) ∧ ∀ (i : Nat) (hi : i < l.length), ∃ A1 c1, ∀ j u, ([.int .i64 l[i].1, .int .i64 l[i].2.1, .string l[i].2.2.1, .string l[i].2.2.2.1.1, .slice A1 l[i].2.2.2.1.2.length c1, .int .i64 l[i].2.2.2.2.1, .int .i64 l[i].2.2.2.2.2.1, .int .i64 l[i].2.2.2.2.2.2] : List Value)[j]? = some u → ds[of + (i * 8 + j)]? = some u := by
  have key : ∀ (i : Nat) (hi : i < l.length), ∃ ad A1 c1, A = some ad ∧ ∀ j u, ([.int .i64 l[i].1, .int .i64 l[i].2.1, .string l[i].2.2.1, .string l[i].2.2.2.1.1, .slice A1 l[i].2.2.2.1.2.length c1, .int .i64 l[i].2.2.2.2.1, .int .i64 l[i].2.2.2.2.2.1, .int .i64 l[i].2.2.2.2.2.2] : List Value)[j]? = some u → W.cell? (ad.add (i * 8 + j)) = some u := by
    intro i hi
    obtain ⟨ad, c, e, _, hK, hc0⟩ := Kd.C_get hr zO (i : Int) (by omega) (by omega)
    have hg : l.getD (i : Int).toNat zO = l[i] := by simp [List.getD, hi]
    rw [hg] at hK
    obtain ⟨A1, c1, rfl⟩ := kO_open hK
    exact ⟨ad, A1, c1, e, fun j u hj => hc0 j u hj⟩
  obtain ⟨ad, A1, c1, e, h1⟩ := key 0 h0
  have h2 := h1 0 _ rfl
  have h3 : W.cell? ad = some (.int .i64 (l[0]'h0).1) := h2
  obtain ⟨bk, of, sp⟩ := ad
  unfold World.cell? at h3
  split at h3
  · rename_i ds t fr hb
    have hsp : sp = none := by
      cases sp with
      | none => rfl
      | some q => simp at h3
    subst hsp
    refine ⟨bk, of, ds, t, fr, e, hb, fun i hi => ?_⟩
    obtain ⟨ad', A2, c2, e', h4⟩ := key i hi
    rw [e] at e'
    obtain rfl := Option.some.inj e'
    refine ⟨A2, c2, fun j u hj => ?_⟩
    have h5 := h4 j u hj
    have hadd : (⟨bk, of, none⟩ : Addr).add (i * 8 + j) = ⟨bk, of + (i * 8 + j), none⟩ := by
      unfold Addr.add
      split
      · rename_i hz; rw [hz]; rfl
      · rfl
    rw [hadd] at h5
    unfold World.cell? at h5
    simpa [hb] using h5
  · cases h3
/-- the whole: a law over a number and a row of ops -/
theorem law_script {n f : Nat} {most : Int} {W : World} {A : Option Addr} {c : Nat} {l : List OpT} (hr : Kd.C kO W A l.length l) (hlc : l.length ≤ c)
    (run : ∀ (h0 : AHeap) (sv : Value) (ids : List Nat), ScriptAt h0 l sv ids → (∀ i ∈ ids, i < h0.next) → C EE n f [.int .i64 most, sv] h0 fun v _ => v = .bool true) :
    Calls Try.prog f #[.int .i64 most, .slice A l.length c] W fun e W' => e = .returned (.bool true) ∧ Below W.heap.size W W' := by
  by_cases hl : l.length = 0
  · have hnil := List.eq_nil_of_length_eq_zero hl
    subst hnil
    letI := tokL (.slice A 0 c) slice_one (fun b => W.heap[b]?)
    obtain ⟨v, h', h1, rfl⟩ := C_out (run ⟨.nil, 0⟩ (.chan (some 0)) [] (.inl ⟨rfl, rfl, rfl⟩) (fun i hi => by cases hi))
    refine law_calls_from (sound X_ok tbL_ok n) h1 piG_gr (hr_nil (fun id hid => if_neg (Nat.not_lt.2 hid)) ⟨Nat.le_refl _, fun b _ => rfl⟩) ?_ (fun b => own_nil)
    exact .cons (.int _ _) (.cons (VR.tok 0) .nil)
  · obtain ⟨bk, of, ds, t, fr, rfl, hb, hcell⟩ := script_cells hr (by omega)
    letI := tokL (.slice none 0 0) slice_one (fun b => W.heap[b]?)
    obtain ⟨v, h', h1, rfl⟩ := C_out (run ⟨(Tr.nil).put 0 (some (.ro (flat l))), 0 + 1⟩ (.slice (some ⟨0, 0, none⟩) l.length (CAPX + 1)) [0] (.inr ⟨0, rfl, by show Tr.get _ _ = _; rw [Tr.get_put, if_pos rfl], rfl⟩) (fun i hi => by rw [List.mem_singleton.1 hi]; exact Nat.lt_succ_self _))
    have hbl : bk < W.heap.size := (Array.getElem?_eq_some_iff.1 hb).1
    let π : Pi := fun id => if id < 0 then some ⟨id, 0, 0⟩ else if id = 0 then some ⟨bk, of, of + c⟩ else none
    have hπ : π 0 = some ⟨bk, of, of + c⟩ := by simp [π]
    have hgs : ∀ id o, AHeap.get ⟨(Tr.nil).put 0 (some (.ro (flat l))), 0 + 1⟩ id = some o → id = 0 ∧ o = .ro (flat l) := by
      intro id o h
      have h : Tr.get ((Tr.nil).put 0 (some (.ro (flat l)))) id = some o := h
      rw [Tr.get_put] at h
      split at h
      · rename_i e; exact ⟨e, (Option.some.inj h).symm⟩
      · cases h
    refine law_calls_from (π := π) (sound X_ok tbL_ok n) h1 (fun g hg => ⟨0, by show (if g < 0 then _ else _) = _; rw [if_pos hg]⟩) ⟨fun id o h => ?_, fun i j o p L M hi hj hor => ?_, fun id hid => ?_, ⟨Nat.le_refl _, fun b _ => rfl⟩⟩ ?_ (fun b => ?_)
    · obtain ⟨rfl, rfl⟩ := hgs id o h
      refine ⟨_, hπ, hbl, ds, t, fr, hb, fun j v hj => ?_⟩
      obtain ⟨hi, hj2⟩ := flat_get hj
      obtain ⟨A1, c1, hc⟩ := hcell (j / 8) hi
      have hjj : j / 8 * 8 + j % 8 = j := by omega
      have hlt : j % 8 < 8 := by omega
      generalize j % 8 = r at *
      have hgo : ∀ u, ([.int .i64 l[j / 8].1, .int .i64 l[j / 8].2.1, .string l[j / 8].2.2.1, .string l[j / 8].2.2.2.1.1, .slice A1 l[j / 8].2.2.2.1.2.length c1, .int .i64 l[j / 8].2.2.2.2.1, .int .i64 l[j / 8].2.2.2.2.2.1, .int .i64 l[j / 8].2.2.2.2.2.2] : List Value)[r]? = some u → ds[of + j]? = some u := fun u hu => by
        have := hc r u hu
        rwa [hjj] at this
      clear hc hjj
      rcases (by omega : r = 0 ∨ r = 1 ∨ r = 2 ∨ r = 3 ∨ r = 4 ∨ r = 5 ∨ r = 6 ∨ r = 7) with rfl | rfl | rfl | rfl | rfl | rfl | rfl | rfl
      · exact ⟨_, hgo _ rfl, by obtain rfl := Option.some.inj hj2; exact .int _ _⟩
      · exact ⟨_, hgo _ rfl, by obtain rfl := Option.some.inj hj2; exact .int _ _⟩
      · exact ⟨_, hgo _ rfl, by obtain rfl := Option.some.inj hj2; exact .string _⟩
      · exact ⟨_, hgo _ rfl, by obtain rfl := Option.some.inj hj2; exact .string _⟩
      · exact ⟨_, hgo _ rfl, by obtain rfl := Option.some.inj hj2; exact .junk rfl (fun b e => by cases e)⟩
      · exact ⟨_, hgo _ rfl, by obtain rfl := Option.some.inj hj2; exact .int _ _⟩
      · exact ⟨_, hgo _ rfl, by obtain rfl := Option.some.inj hj2; exact .int _ _⟩
      · exact ⟨_, hgo _ rfl, by obtain rfl := Option.some.inj hj2; exact .int _ _⟩
    · obtain ⟨_, rfl⟩ := hgs i o hi
      cases hor
    · have hid : 0 + 1 ≤ id := hid
      simp only [π]
      rw [if_neg (by omega), if_neg (by omega)]
    · refine .cons (.int _ _) (.cons ?_ .nil)
      have := VR.slice (π := π) (id := 0) (o := 0) (len := l.length) (cap := CAPX + 1) (cap' := c) hπ (.inr ⟨1, rfl, by omega, by simp, hlc⟩)
      exact this
    · rintro ⟨id, o, L, h, hor, _⟩
      obtain ⟨_, rfl⟩ := hgs id o h
      cases hor
end Go.Proofs.Ytffockklleanmaa.AM.SX
