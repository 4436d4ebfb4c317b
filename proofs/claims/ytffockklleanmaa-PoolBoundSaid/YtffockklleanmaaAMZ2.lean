import Derived.Test.YtffockklleanmaaAMZ1
import Derived.Laws.Strings
import Derived.IntWalk
import Derived.RangeFuncIn
import Derived.RangeFuncLeaves
import Derived.RangeFuncRecord
import Derived.RangeFuncSeq
import Derived.LoopNIn
import Derived.OrdersIn
import Derived.TacticsIn
import Derived.RangeFuncNested
/- Guards, conversions, fields, places in rows, windows. -/
namespace Go.Proofs.Ytffockklleanmaa.AM
open Go
variable [Tok]
set_option linter.unusedVariables false
set_option linter.unusedSectionVars false
set_option linter.unusedSimpArgs false
section
variable {P : Program} {T : Tr TI} {w : World} {π : Pi} {N : Nat}
/-- two values behind the guard of '==' -/
theorem abin_sound (ht : TOk P T) {h : AHeap} {nx : Nat} (hr : HR π N h.get nx w) {op : BinOp} {t : Nat} {x y x' y' v : Value} (xo yo : Operand) (ha : abin T h op t x y = some v) (hx : VR π x x') (hy : VR π y y') :
    ∃ v', (do eqGuard op t xo yo x' y'; binOp op t x' y' : Sem Value).run P w = .ok v' w ∧ VR π v v' := by
  unfold abin at ha
  split at ha
  · rename_i k a j b
    cases hx; cases hy
    have hg : (eqGuard op t xo yo (.int k a) (.int j b)).run P w = .ok () w := by
      unfold eqGuard; cases op <;> rfl
    split at ha
    · obtain ⟨h1, h2⟩ := ashift_sound (P := P) (w := w) (j := j) ha t
      exact ⟨v, by simp only [Sem.run_bind, hg, Result.andThen]; exact h1, h2 π⟩
    · obtain ⟨h1, h2⟩ := ashift_sound (P := P) (w := w) (j := j) ha t
      exact ⟨v, by simp only [Sem.run_bind, hg, Result.andThen]; exact h1, h2 π⟩
    · split at ha
      · rename_i hkj
        subst hkj
        obtain ⟨h1, h2⟩ := aint_sound (P := P) (w := w) ha t
        exact ⟨v, by simp only [Sem.run_bind, hg, Result.andThen]; exact h1, h2 π⟩
      · cases ha
  · rename_i a b
    cases hx; cases hy
    have hg : (eqGuard op t xo yo (.string a) (.string b)).run P w = .ok () w := by
      unfold eqGuard; cases op <;> rfl
    obtain ⟨h1, h2⟩ := astr_sound (P := P) (w := w) ha t
    exact ⟨v, by simp only [Sem.run_bind, hg, Result.andThen]; exact h1, h2 π⟩
  · rename_i n1 n2
    have key : ∀ b, aeq T h t x y = some b → (eqGuard op t xo yo x' y').run P w = .ok () w ∧ (op = .eql → (binOp op t x' y').run P w = .ok (.bool b) w) ∧ (op = .neq → (binOp op t x' y').run P w = .ok (.bool (!b)) w) := by
      intro b hb
      have he := aeq_sound ht hr hb hx hy
      refine ⟨?_, ?_, ?_⟩
      · unfold aeq at hb
        split at hb
        all_goals first
          | (cases hb; done)
          | (cases hx <;> cases hy <;> (unfold eqGuard; cases op <;> rfl))
          | (cases hx with
             | agg hxs =>
               cases hy with
               | agg hys =>
                 split at hb
                 · rename_i hT
                   obtain ⟨_, hk, _⟩ := ti_spec (ht.ti _ _ hT)
                   obtain ⟨fa, hu, hfs, hq⟩ := und_struct hk
                   have hq' := hq.symm
                   unfold eqOk at hq'
                   simp only [Bool.and_eq_true, Bool.not_eq_true'] at hq'
                   exact run_eqGuard_agg w op t xo yo _ _ hq'.1.2
                 · cases hb)
      · intro e; subst e
        have : binOp .eql t x' y' = (do pure (.bool (← Op.equal t x' y'))) := by
          cases hx <;> cases hy <;> first | rfl | exact absurd rfl (n1 _ _ _ _ rfl) | exact absurd rfl (n2 _ _ rfl) | (exfalso; exact n1 _ _ _ _ rfl rfl) | (exfalso; exact n2 _ _ rfl rfl) | (exfalso; simp [aeq] at hb; done)
        rw [this]; simp [he]
      · intro e; subst e
        have : binOp .neq t x' y' = (do pure (.bool (!(← Op.equal t x' y')))) := by
          cases hx <;> cases hy <;> first | rfl | (exfalso; exact n1 _ _ _ _ rfl rfl) | (exfalso; exact n2 _ _ rfl rfl) | (exfalso; simp [aeq] at hb; done)
        rw [this]; simp [he]
    split at ha
    · obtain ⟨b, hb, rfl⟩ := Option.map_eq_some_iff.1 ha
      obtain ⟨k1, k2, _⟩ := key b hb
      exact ⟨_, by simp only [Sem.run_bind, k1, Result.andThen]; exact k2 rfl, .bool _⟩
    · obtain ⟨b, hb, rfl⟩ := Option.map_eq_some_iff.1 ha
      obtain ⟨k1, _, k2⟩ := key b hb
      exact ⟨_, by simp only [Sem.run_bind, k1, Result.andThen]; exact k2 rfl, .bool _⟩
    · cases ha
theorem aun_sound {op : UnOp} {x x' v : Value} (ha : aun op x = some v) (hx : VR π x x') : ∃ v', (Op.unary op x').run P w = .ok v' w ∧ VR π v v' := by
  unfold aun at ha
  split at ha
  · cases hx
    simp only [Option.some.injEq] at ha; subst ha
    exact ⟨_, by simp [Op.unary, Op.intArith, Sem.run_pure], .int _ _⟩
  · cases hx
    rename_i k n
    simp only [aint, Option.some.injEq] at ha
    subst ha
    exact ⟨_, by simp [Op.unary, Op.intBits, Sem.run_pure], .int _ _⟩
  · cases hx
    simp only [Option.some.injEq] at ha; subst ha
    exact ⟨_, by simp [Op.unary, Sem.run_pure], .bool _⟩
  · cases ha
theorem afieldAddr_sound (ht : TOk P T) {s f : Nat} {x x' v : Value} (ha : afieldAddr T s x f = some v) (hx : VR π x x') : ∃ v', (Instr.fieldAt s x' f).run P w = .ok v' w ∧ VR π v v' := by
  unfold afieldAddr at ha
  split at ha
  · rename_i id o
    cases hx with
    | ptr hL =>
      rename_i L
      split at ha
      · rename_i fs q _ _ _ hT
        obtain ⟨_, hk, _⟩ := ti_spec (ht.ti _ _ hT)
        obtain ⟨fa, hu, hfs, _⟩ := und_struct hk
        split at ha
        · rename_i off t hf
          split at ha
          · rename_i i hTi
            rw [beqd] at ha
            by_cases hz : i.size = 0
            · rw [decide_eq_true hz, cond_true] at ha; cases ha
            · rw [decide_eq_false hz, cond_false] at ha
              simp only [Option.some.injEq] at ha; subst ha
              rw [hfs, List.getElem?_map] at hf
              obtain ⟨fd, h1, h2⟩ := Option.map_eq_some_iff.1 hf
              obtain ⟨rfl, rfl⟩ := Prod.mk.inj h2
              have h1' : fa[f]? = some fd := by simpa using h1
              refine ⟨.pointer (some ⟨L.b, L.d + o + fd.offset, none⟩), ?_, ?_⟩
              · simp [Instr.fieldAt, run_under hu, h1', Instr.sureAddr, fieldPlace, run_size (ht.ti _ _ hTi), hz, add_none]
              · rw [Nat.add_assoc]; exact .ptr hL
          · cases ha
        · cases ha
      · cases ha
  · cases ha
theorem part_sound (ht : TOk P T) {t off : Nat} {cs : List Value} {ds : Array Value} {v : Value} (ha : part? T t cs off = some v) (hx : VRs π cs ds.toList) : ∃ v', (part t ds off).run P w = .ok v' w ∧ VR π v v' := by
  unfold part? at ha
  split at ha
  · rename_i i hT
    have hti := ht.ti _ _ hT
    cases hg : i.k.agg with
    | true =>
      rw [hg, cond_true] at ha
      split at ha
      · rename_i r hc
        simp only [Option.some.injEq] at ha; subst ha
        obtain ⟨rfl, hl, _⟩ := cut_spec hc
        refine ⟨.agg (ds.extract off (off + i.size)), by simp [part, run_agg hti, hg, run_size hti], .agg ?_⟩
        have : (ds.extract off (off + i.size)).toList = (ds.toList.drop off).take i.size := by simp [List.extract_eq_take_drop]
        rw [this]
        exact (hx.drop off).take i.size
      · cases ha
    | false =>
      rw [hg, cond_false] at ha
      obtain ⟨u, h1, h2⟩ := hx.get _ _ ha
      have h1' : ds[off]? = some u := by simpa using h1
      exact ⟨u, by simp [part, run_agg hti, hg, h1'], h2⟩
  · cases ha
theorem afield_sound (ht : TOk P T) {s f : Nat} {x x' v : Value} (ha : afield T s x f = some v) (hx : VR π x x') : ∃ v', (Instr.field s x' f).run P w = .ok v' w ∧ VR π v v' := by
  unfold afield at ha
  split at ha
  · cases hx with
    | agg hxs =>
      split at ha
      · rename_i fs q _ _ _ hT
        obtain ⟨_, hk, _⟩ := ti_spec (ht.ti _ _ hT)
        obtain ⟨fa, hu, hfs, _⟩ := und_struct hk
        split at ha
        · rename_i off t hf
          rw [hfs, List.getElem?_map] at hf
          obtain ⟨fd, h1, h2⟩ := Option.map_eq_some_iff.1 hf
          obtain ⟨rfl, rfl⟩ := Prod.mk.inj h2
          have h1' : fa[f]? = some fd := by simpa using h1
          obtain ⟨v', e1, e2⟩ := part_sound (P := P) (w := w) ht ha hxs
          exact ⟨v', by simp [Instr.field, run_under hu, h1', asAgg, e1], e2⟩
        · cases ha
      · cases ha
  · cases ha
theorem aindexAddr_sound (ht : TOk P T) {t : Nat} {x x' i i' v : Value} (ha : aindexAddr T t x i = some v) (hx : VR π x x') (hi : VR π i i') : ∃ v', (Instr.indexAt t x' i').run P w = .ok v' w ∧ VR π v v' := by
  unfold aindexAddr at ha
  split at ha
  · rename_i k n
    cases hi
    split at ha
    · rename_i m e _ _ _ id o hT
      cases hx with
      | ptr hL =>
        rename_i L
        obtain ⟨_, hk, _⟩ := ti_spec (ht.ti _ _ hT)
        have hu := und_array hk
        split at ha
        · rename_i ei hTe
          split at ha
          · rename_i hb
            simp only [Option.some.injEq] at ha; subst ha
            refine ⟨.pointer (some ⟨L.b, L.d + o + n.toNat * ei.size, none⟩), ?_, by rw [Nat.add_assoc]; exact .ptr hL⟩
            simp [Instr.indexAt, asIntOf, run_under hu, Instr.sureAddr, hb.1, hb.2, run_size (ht.ti _ _ hTe), add_none]
          · cases ha
        · cases ha
    · rename_i e _ _ _ id o len cap hT
      obtain ⟨_, hk, _⟩ := ti_spec (ht.ti _ _ hT)
      have hu := und_slice hk
      split at ha
      · rename_i ei hTe
        split at ha
        · rename_i hb
          simp only [Option.some.injEq] at ha; subst ha
          cases hx with
          | slice hL hc =>
            rename_i cap' L
            refine ⟨.pointer (some ⟨L.b, L.d + o + n.toNat * ei.size, none⟩), ?_, by rw [Nat.add_assoc]; exact .ptr hL⟩
            simp [Instr.indexAt, asIntOf, run_under hu, hb.1, hb.2, run_size (ht.ti _ _ hTe), add_none]
          | sliceE hc => simp at hb; omega
        · cases ha
      · cases ha
    · cases ha
  · cases ha
theorem aindex_sound (ht : TOk P T) {t : Nat} {x x' i i' v : Value} (ha : aindex T t x i = some v) (hx : VR π x x') (hi : VR π i i') : ∃ v', (Instr.index t x' i').run P w = .ok v' w ∧ VR π v v' := by
  unfold aindex at ha
  split at ha
  · rename_i k n
    cases hi
    split at ha
    · rename_i m e _ _ _ cs hT
      cases hx with
      | agg hxs =>
        obtain ⟨_, hk, _⟩ := ti_spec (ht.ti _ _ hT)
        have hu := und_array hk
        split at ha
        · rename_i ei hTe
          split at ha
          · rename_i hb
            obtain ⟨v', e1, e2⟩ := part_sound (P := P) (w := w) ht ha hxs
            exact ⟨v', by simp [Instr.index, asIntOf, run_under hu, hb.1, hb.2, run_size (ht.ti _ _ hTe), e1], e2⟩
          · cases ha
        · cases ha
    · rename_i s hT
      cases hx
      obtain ⟨_, hk, _⟩ := ti_spec (ht.ti _ _ hT)
      have hu := und_string hk
      split at ha
      · rename_i h0
        split at ha
        · rename_i b hb
          simp only [Option.some.injEq] at ha; subst ha
          have hb' : s[n.toNat]? = some b := by
            have : (bl s)[n.toNat]? = s[n.toNat]? := by simp [bl]; rfl
            rw [← this]; exact hb
          exact ⟨byteV b, by simp [Instr.index, asIntOf, run_under hu, h0, hb', byteV], .int _ _⟩
        · cases ha
      · cases ha
    · cases ha
  · cases ha
end
end Go.Proofs.Ytffockklleanmaa.AM

/- Windows of rows, and what is read out of them. -/
namespace Go.Proofs.Ytffockklleanmaa.AM
open Go
variable [Tok]
set_option linter.unusedVariables false
set_option linter.unusedSectionVars false
set_option linter.unusedSimpArgs false
inductive OVR (π : Pi) : Option Value → Option Value → Prop where
  | none : OVR π none none
  | some {v u : Value} (h : VR π v u) : OVR π (some v) (some u)
section
variable {P : Program} {T : Tr TI} {w : World} {π : Pi} {N : Nat}
theorem optNat_none {d n : Nat} (h : optNat none d = some n) : n = d := by simpa [optNat] using h.symm
theorem optNat_some {v u : Value} {d n : Nat} (h : optNat (some v) d = some n) (hv : VR π v u) : ∃ k i, u = .int k i ∧ 0 ≤ i ∧ i.toNat = n := by
  simp only [optNat] at h
  unfold nat? at h
  split at h
  · cases hv
    split at h
    · rename_i h0
      exact ⟨_, _, rfl, h0, by simpa using h⟩
    · cases h
  · cases h
theorem nat_some {v u : Value} {n : Nat} (h : nat? v = some n) (hv : VR π v u) : ∃ k i, u = .int k i ∧ 0 ≤ i ∧ i.toNat = n := optNat_some (d := 0) h hv
theorem bound_run {k : IntKind} {i : Int} {y n : Nat} {code : BoundsCode} (h0 : 0 ≤ i) (hn : i.toNat = n) (h1 : n ≤ y) : (Instr.sliceBound (.int k i) y code).run P w = .ok n w := by
  rw [run_sliceBound w k i y code h0 (by omega), hn]
theorem bounds_run {b : Bool} {len cap l u m : Nat} {lo hi mx lo' hi' mx' : Option Value} (h1 : optNat lo 0 = some l) (h2 : optNat hi len = some u) (h3 : optNat mx cap = some m) (hlo : OVR π lo lo') (hhi : OVR π hi hi') (hmx : OVR π mx mx') (h4 : l ≤ u) (h5 : u ≤ m) (h6 : m ≤ cap) (h7 : mx.isSome = true → hi.isSome = true) :
    (Instr.sliceBounds b len cap lo' hi' mx').run P w = .ok (l, u, m) w := by
  unfold Instr.sliceBounds
  have e1 : ∀ code, ((match lo' with | some v => Instr.sliceBound v u code | none => pure 0 : Sem Nat)).run P w = .ok l w := by
    intro code
    cases hlo with
    | none => have := optNat_none h1; subst this; rfl
    | some hv => obtain ⟨k, i, rfl, g1, g2⟩ := optNat_some h1 hv; exact bound_run g1 g2 h4
  cases hmx with
  | none =>
    have hm := optNat_none h3; subst hm
    cases hhi with
    | none =>
      have hu := optNat_none h2; subst hu
      cases hlo with
      | none => have := optNat_none h1; subst this; simp [Sem.run_pure]
      | some hv =>
        obtain ⟨k, i, rfl, g1, g2⟩ := optNat_some h1 hv
        simp [Sem.run_pure, bound_run g1 g2 h4]
    | some hu =>
      obtain ⟨k, i, rfl, g1, g2⟩ := optNat_some h2 hu
      cases hlo with
      | none => have := optNat_none h1; subst this; simp [Sem.run_pure, bound_run g1 g2 h5]
      | some hv =>
        obtain ⟨k2, i2, rfl, g3, g4⟩ := optNat_some h1 hv
        simp [Sem.run_pure, bound_run g1 g2 h5, bound_run g3 g4 h4]
  | some hm =>
    obtain ⟨k, i, rfl, g1, g2⟩ := optNat_some h3 hm
    cases hhi with
    | none => simp at h7
    | some hu =>
      obtain ⟨k1, i1, rfl, g3, g4⟩ := optNat_some h2 hu
      cases hlo with
      | none => have := optNat_none h1; subst this; simp [Sem.run_pure, bound_run g1 g2 h6, bound_run g3 g4 h5]
      | some hv =>
        obtain ⟨k2, i2, rfl, g5, g6⟩ := optNat_some h1 hv
        simp [Sem.run_pure, bound_run g1 g2 h6, bound_run g3 g4 h5, bound_run g5 g6 h4]
/-- how far a row goes -/
theorem room_spec {h : AHeap} {nx : Nat} (hr : HR π N h.get nx w) {sz id o len cap hi cap' : Nat} {a' : Addr} (hrm : room h sz id o len cap hi = true) (hsz : 0 < sz) (hv : VR π (.slice (some ⟨id, o, none⟩) len cap) (.slice (some a') len cap')) : hi ≤ cap' := by
  have hcell : ∀ {cs : List Value} {z : Bool} {L : Loc}, h.get id = some (.cells cs z) → π id = some L → cs ≠ [] → L.d + cs.length ≤ L.n := by
    intro cs z L hg hL hne
    obtain ⟨L', h1, h0, ds, ty, fr, h2, h3, _, _, h5⟩ := hr.obj id _ hg
    rw [hL] at h1; injection h1 with h1; subst h1
    have := h5.le hne
    omega
  unfold room at hrm
  rw [bltd] at hrm
  by_cases hc : cap < CAPX
  · rw [decide_eq_true hc, cond_true, bled, decide_eq_true_eq] at hrm
    cases hv with
    | slice hL hk =>
      rcases hk with ⟨_, e, _⟩ | ⟨sz', e, _⟩
      · omega
      · omega
    | sliceE hk =>
      rcases hk with e | ⟨e, _⟩ <;> omega
  · rw [decide_eq_false hc, cond_false, beqd] at hrm
    by_cases he : cap = CAPX + sz
    · rw [decide_eq_true he, cond_true, bled] at hrm
      by_cases hl : hi ≤ len
      · cases hv with
        | slice hL hk =>
          rcases hk with ⟨e, _⟩ | ⟨sz', e, _, _, e4⟩ <;> omega
        | sliceE hk => exact hl
      · rw [decide_eq_false hl, cond_false] at hrm
        split at hrm
        · rename_i cs z hg
          rw [bled, decide_eq_true_eq] at hrm
          have hpos : 0 < hi * sz := Nat.mul_pos (by omega) hsz
          have hne : cs ≠ [] := by intro e; rw [e] at hrm; simp at hrm; omega
          cases hv with
          | slice hL hk =>
            rename_i L
            rcases hk with ⟨e, _⟩ | ⟨sz', e, _, e3, e4⟩
            · omega
            · have hs : sz' = sz := by omega
              subst hs
              have := hcell hg hL hne
              have h9 : hi * sz' ≤ cap' * sz' := by omega
              exact Nat.le_of_mul_le_mul_right h9 hsz
          | sliceE hk =>
            rcases hk with e | ⟨_, L, hL, e⟩
            · omega
            · have := hcell hg hL hne; omega
        · cases hrm
    · rw [decide_eq_false he, cond_false] at hrm; cases hrm
theorem aslice_sound (ht : TOk P T) {h : AHeap} {nx : Nat} (hr : HR π N h.get nx w) {t : Nat} {x x' v : Value} {lo hi mx lo' hi' mx' : Option Value} (ha : aslice T h t x lo hi mx = some v) (hx : VR π x x') (hlo : OVR π lo lo') (hhi : OVR π hi hi') (hmx : OVR π mx mx') :
    ∃ v', (Instr.sliceAt t x' lo' hi' mx').run P w = .ok v' w ∧ VR π v v' := by
  unfold aslice at ha
  split at ha
  · rename_i s hT
    cases hx
    obtain ⟨_, hk, _⟩ := ti_spec (ht.ti _ _ hT)
    have hu := und_string hk
    split at ha
    · rename_i l u h1 h2
      rw [bled, bled] at ha
      by_cases hb : l ≤ u ∧ u ≤ (bl s).length
      · rw [← Bool.decide_and, decide_eq_true hb, cond_true] at ha
        simp only [Option.some.injEq] at ha; subst ha
        cases hmx
        rw [bl_size] at h2 hb
        have hr1 := bounds_run (P := P) (w := w) (b := false) (cap := s.size) h1 h2 (mx := none) (mx' := none) (m := s.size) rfl hlo hhi .none hb.1 hb.2 (Nat.le_refl _) (by simp)
        rw [bl_extract]
        exact ⟨.string (s.extract l u), by simp [Instr.sliceAt, Instr.slice, run_under hu, hr1], .string _⟩
      · rw [← Bool.decide_and, decide_eq_false hb, cond_false] at ha; cases ha
    · cases ha
  · rename_i e _ _ _ hT
    cases hx
    obtain ⟨_, hk, _⟩ := ti_spec (ht.ti _ _ hT)
    have hu := und_slice hk
    split at ha
    · rename_i ei h0 h1 h2
      simp only [Option.some.injEq] at ha; subst ha
      cases hmx
      have hr1 := bounds_run (P := P) (w := w) (b := true) (len := 0) (cap := 0) h1 h2 (mx := none) (mx' := none) (m := 0) rfl hlo hhi .none (Nat.le_refl _) (Nat.le_refl _) (Nat.le_refl _) (by simp)
      exact ⟨.slice none 0 0, by simp [Instr.sliceAt, Instr.slice, run_under hu, hr1, run_size (ht.ti _ _ h0)], .slice0 _ _⟩
    · cases ha
  · rename_i e _ _ _ id o len cap hT
    obtain ⟨_, hk, _⟩ := ti_spec (ht.ti _ _ hT)
    have hu := und_slice hk
    split at ha
    · rename_i ei hTe
      have hse := run_size (w := w) (ht.ti _ _ hTe)
      rw [beqd] at ha
      by_cases hz : ei.size = 0
      · rw [decide_eq_true hz, cond_true] at ha; cases ha
      rw [decide_eq_false hz, cond_false] at ha
      have hz' : 0 < ei.size := Nat.pos_of_ne_zero hz
      obtain ⟨a', cap', hx'⟩ : ∃ a' cap', x' = .slice (some a') len cap' := by cases hx <;> exact ⟨_, _, rfl⟩
      subst hx'
      have hlen : len ≤ len := Nat.le_refl _
      split at ha
      · rename_i l u h1 h2
        cases hmx
        rw [bled, bltd, beqd] at ha
        by_cases hb : l ≤ u ∧ room h ei.size id o len cap u = true
        · have hb' : (decide (l ≤ u) && room h ei.size id o len cap u) = true := by rw [decide_eq_true hb.1, hb.2]; rfl
          rw [hb', cond_true] at ha
          have hcu := room_spec hr hb.2 hz' hx
          have hr1 := bounds_run (P := P) (w := w) (b := true) h1 h2 (mx := none) (mx' := none) (m := cap') (cap := cap') rfl hlo hhi .none hb.1 hcu (Nat.le_refl _) (by simp)
          have hrun : (Instr.sliceAt t (.slice (some a') len cap') lo' hi' none).run P w = .ok (.slice (if cap' = l then some a' else some (a'.add (l * ei.size))) (u - l) (cap' - l)) w := by
            simp [Instr.sliceAt, Instr.slice, run_under hu, hr1, hse]
          refine ⟨_, hrun, ?_⟩
          cases hx with
          | slice hL hc =>
            rename_i L
            rcases hc with ⟨c1, c2, c5⟩ | ⟨sz, c1, c2, c3, c4⟩
            · subst c2
              rw [decide_eq_true c1, cond_true] at ha
              simp only [Option.some.injEq] at ha; subst ha
              by_cases hcl : cap' = l
              · rw [decide_eq_true hcl, cond_true, if_pos hcl]
                exact .slice hL (.inl ⟨by omega, rfl, by omega⟩)
              · rw [decide_eq_false hcl, cond_false, if_neg hcl, add_none, Nat.add_assoc]
                exact .slice hL (.inl ⟨by omega, rfl, by omega⟩)
            · rw [decide_eq_false (by omega), cond_false] at ha
              simp only [Option.some.injEq] at ha; subst ha
              have hsz : sz = ei.size := by
                have hrm := hb.2
                unfold room at hrm
                rw [bltd, decide_eq_false (by omega), cond_false, beqd] at hrm
                by_cases he : cap = CAPX + ei.size
                · omega
                · rw [decide_eq_false he, cond_false] at hrm; cases hrm
              subst hsz
              by_cases hcl : cap' = l
              · rw [if_pos hcl]
                have hul : u = l := by omega
                subst hul
                rw [Nat.sub_self, hcl, Nat.sub_self]
                exact .sliceE (.inr ⟨by omega, L, hL, by rw [← hcl]; omega⟩)
              · rw [if_neg hcl, add_none, Nat.add_assoc]
                refine .slice hL (.inr ⟨ei.size, c1, c2, ?_, by omega⟩)
                obtain ⟨k, rfl⟩ : ∃ k, cap' = l + k := ⟨cap' - l, by omega⟩
                rw [Nat.add_sub_cancel_left]
                rw [Nat.add_mul] at c3
                omega
          | sliceE hc =>
            have hu0 : u = 0 := by omega
            have hl0 : l = 0 := by omega
            subst hu0; subst hl0
            rw [if_pos rfl]
            rcases hc with rfl | ⟨c1, c2⟩
            · rw [decide_eq_true (by decide), cond_true] at ha
              simp only [Option.some.injEq] at ha; subst ha
              exact .sliceE (.inl rfl)
            · rw [decide_eq_false (by omega), cond_false] at ha
              simp only [Option.some.injEq] at ha; subst ha
              obtain ⟨L, c2, c3⟩ := c2
              exact .sliceE (.inr ⟨c1, L, c2, by omega⟩)
        · have hb' : (decide (l ≤ u) && room h ei.size id o len cap u) = false := by
            rw [Bool.eq_false_iff]; intro e; simp only [Bool.and_eq_true, decide_eq_true_eq] at e; exact hb e
          rw [hb', cond_false] at ha; cases ha
      · rename_i m0 l u h1 h2
        cases hmx with
        | some hm =>
          rename_i m'
          split at ha
          · rename_i m hmn
            obtain ⟨k, i, rfl, g1, g2⟩ := nat_some hmn hm
            rw [bled, bled, bltd, beqd] at ha
            by_cases hb : (((hi.isSome = true ∧ l ≤ u) ∧ u ≤ m) ∧ m < CAPX) ∧ room h ei.size id o len cap m = true
            · have hb' : (hi.isSome && decide (l ≤ u) && decide (u ≤ m) && decide (m < CAPX) && room h ei.size id o len cap m) = true := by
                simp only [Bool.and_eq_true, decide_eq_true_eq]; exact hb
              rw [hb', cond_true] at ha
              simp only [Option.some.injEq] at ha; subst ha
              obtain ⟨⟨⟨⟨b1, b2⟩, b3⟩, b4⟩, b5⟩ := hb
              have hcu := room_spec hr b5 hz' hx
              have hr1 := bounds_run (P := P) (w := w) (b := true) (len := len) h1 h2 (mx := some m0) (mx' := some (.int k i)) (m := m) (cap := cap') hmn hlo hhi (.some hm) b2 b3 hcu (fun _ => b1)
              have hrun : (Instr.sliceAt t (.slice (some a') len cap') lo' hi' (some (.int k i))).run P w = .ok (.slice (if m = l then some a' else some (a'.add (l * ei.size))) (u - l) (m - l)) w := by
                simp [Instr.sliceAt, Instr.slice, run_under hu, hr1, hse]
              refine ⟨_, hrun, ?_⟩
              cases hx with
              | slice hL hc =>
                by_cases hcl : m = l
                · rw [decide_eq_true hcl, cond_true, if_pos hcl]
                  exact .slice hL (.inl ⟨by omega, rfl, by omega⟩)
                · rw [decide_eq_false hcl, cond_false, if_neg hcl, add_none, Nat.add_assoc]
                  exact .slice hL (.inl ⟨by omega, rfl, by omega⟩)
              | sliceE hc =>
                have hm0 : m = 0 := by omega
                have hl0 : l = 0 := by omega
                have hu0 : u = 0 := by omega
                subst hm0; subst hl0; subst hu0
                rw [if_pos rfl]
                exact .sliceE (.inl rfl)
            · have hb' : (hi.isSome && decide (l ≤ u) && decide (u ≤ m) && decide (m < CAPX) && room h ei.size id o len cap m) = false := by
                rw [Bool.eq_false_iff]; intro e; simp only [Bool.and_eq_true, decide_eq_true_eq] at e; exact hb e
              rw [hb', cond_false] at ha; cases ha
          · cases ha
      · cases ha
    · cases ha
  · rename_i n e _ _ _ id o hT
    obtain ⟨_, hk, _⟩ := ti_spec (ht.ti _ _ hT)
    have hu := und_array hk
    cases hx with
    | ptr hL =>
      rename_i L
      split at ha
      · rename_i ei hTe
        have hse := run_size (w := w) (ht.ti _ _ hTe)
        split at ha
        · rename_i l u h1 h2
          cases hmx
          rw [bled, bled, bltd, beqd] at ha
          by_cases hb : (l ≤ u ∧ u ≤ n) ∧ n < CAPX
          · have hb' : (decide (l ≤ u) && decide (u ≤ n) && decide (n < CAPX)) = true := by simp only [Bool.and_eq_true, decide_eq_true_eq]; exact hb
            rw [hb', cond_true] at ha
            simp only [Option.some.injEq] at ha; subst ha
            have hr1 := bounds_run (P := P) (w := w) (b := false) h1 h2 (mx := none) (mx' := none) (m := n) (cap := n) rfl hlo hhi .none hb.1.1 hb.1.2 (Nat.le_refl _) (by simp)
            have hrun : (Instr.sliceAt t (.pointer (some ⟨L.b, L.d + o, none⟩)) lo' hi' none).run P w = .ok (.slice (some (if n = l then ⟨L.b, L.d + o, none⟩ else (⟨L.b, L.d + o, none⟩ : Addr).add (l * ei.size))) (u - l) (n - l)) w := by
              simp [Instr.sliceAt, run_under hu, Instr.sureAddr, hr1, hse]
            refine ⟨_, hrun, ?_⟩
            by_cases hcl : n = l
            · rw [decide_eq_true hcl, cond_true, if_pos hcl]
              exact .slice hL (.inl ⟨by omega, rfl, by omega⟩)
            · rw [decide_eq_false hcl, cond_false, if_neg hcl, add_none, Nat.add_assoc]
              exact .slice hL (.inl ⟨by omega, rfl, by omega⟩)
          · have hb' : (decide (l ≤ u) && decide (u ≤ n) && decide (n < CAPX)) = false := by
              rw [Bool.eq_false_iff]; intro e; simp only [Bool.and_eq_true, decide_eq_true_eq] at e; exact hb e
            rw [hb', cond_false] at ha; cases ha
        · cases ha
      · cases ha
  · cases ha
end
end Go.Proofs.Ytffockklleanmaa.AM

/- Appending. -/
namespace Go.Proofs.Ytffockklleanmaa.AM
open Go
variable [Tok]
set_option linter.unusedVariables false
set_option linter.unusedSectionVars false
set_option linter.unusedSimpArgs false
theorem growBy_le (n : Nat) : ∀ (r c : Nat), c ≤ n + (n + 768) / 4 → Builtin.growBy n r c ≤ n + (n + 768) / 4
  | 0, c, h => h
  | r + 1, c, h => by
    unfold Builtin.growBy
    split
    · exact h
    · exact growBy_le n r _ (by omega)
theorem next_le {n c : Nat} (h : c < n) : Builtin.nextslicecap n c ≤ 2 * n + 192 := by
  unfold Builtin.nextslicecap
  split
  · omega
  · split
    · omega
    · have := growBy_le n 4 c (by omega)
      omega
theorem VR.inv_slice {π : Pi} {id o len cap : Nat} {y : Value} (h : VR π (.slice (some ⟨id, o, none⟩) len cap) y) : ∃ a' cap', y = .slice (some a') len cap' := by cases h <;> exact ⟨_, _, rfl⟩
section
variable {P : Program} {T : Tr TI} {w : World} {π : Pi} {N : Nat}
theorem load_list {b s ty : Nat} {m : List Value} {ds : Array Value} {fr : Nat × Nat} (hb : w.heap[b]? = some (.cells ds ty fr)) (hm : ∀ (j : Nat) u, m[j]? = some u → ds[s + j]? = some u) : (loadCells ⟨b, s, none⟩ m.length).run P w = .ok ⟨m⟩ w :=
  run_loadCells_list (P := P) w ⟨b, s, none⟩ m (fun j v hj => by rw [add_none, cell_row hb]; exact hm j v hj)
theorem first_slice {h : AHeap} {nx : Nat} (hr : HR π N h.get nx w) {sz id o n cap : Nat} {cs r : List Value} {x' : Value} (hcs : rd h id = some cs) (hc : cut cs o (n * sz) = some r) (hx : VR π (.slice (some ⟨id, o, none⟩) n cap) x') :
    ∃ us : Array Value, VRs π r us.toList ∧ us.size = n * sz ∧ ∀ w2 : World, w2.heap = w.heap → (Builtin.firstCells sz n x').run P w2 = .ok us w2 := by
  obtain ⟨L, ds, ty, fr, h1, h2, h3⟩ := rd_spec hr hcs
  cases hx with
  | slice hL hcap =>
    rw [hL] at h1; injection h1 with h1; subst h1
    obtain ⟨m, e2, e3, e4⟩ := h3.cut hc
    refine ⟨⟨m⟩, e2, e3, fun w2 hw2 => ?_⟩
    have := load_list (P := P) (w := w2) (by rw [hw2]; exact h2) e4
    rw [e3] at this
    exact this
  | sliceE _ =>
    obtain ⟨rfl, hl, _⟩ := cut_spec hc
    refine ⟨#[], ?_, by simp, fun w2 _ => ?_⟩
    · rw [Nat.zero_mul, List.take_zero]; exact .nil
    · simp [Builtin.firstCells, loadCells, loadCellsFrom, Sem.run_pure]
theorem srcCells_sound {h : AHeap} {nx : Nat} (hr : HR π N h.get nx w) {sz n : Nat} {x x' : Value} {news : List Value} (ha : srcCells h sz x = some (n, news)) (hx : VR π x x') :
    (Builtin.lenOf x').run P w = .ok n w ∧ ∃ us : Array Value, VRs π news us.toList ∧ us.size = n * sz ∧ ∀ w2 : World, w2.heap = w.heap → (Builtin.firstCells sz n x').run P w2 = .ok us w2 := by
  unfold srcCells at ha
  split at ha
  · cases hx
    simp only [Option.some.injEq, Prod.mk.injEq] at ha
    obtain ⟨rfl, rfl⟩ := ha
    exact ⟨by simp [Builtin.lenOf, Sem.run_pure], #[], .nil, by simp, fun k _ => by simp [Builtin.firstCells, Sem.run_pure]⟩
  · rename_i id o n' cap
    split at ha
    · rename_i cs hcs
      split at ha
      · rename_i r hc
        simp only [Option.some.injEq, Prod.mk.injEq] at ha
        obtain ⟨rfl, rfl⟩ := ha
        refine ⟨?_, first_slice hr hcs hc hx⟩
        obtain ⟨a', cap', rfl⟩ := hx.inv_slice
        simp [Builtin.lenOf, Sem.run_pure]
      · cases ha
    · cases ha
  · rename_i s
    cases hx
    rw [beqd] at ha
    by_cases hs : sz = 1
    · subst hs
      rw [decide_eq_true rfl, cond_true] at ha
      simp only [Option.some.injEq, Prod.mk.injEq] at ha
      obtain ⟨rfl, rfl⟩ := ha
      refine ⟨by simp [Builtin.lenOf, Sem.run_pure, bl_size], ⟨(bl s).map byteV⟩, ?_, by simp, fun w2 _ => ?_⟩
      · refine VRs.of_pv ?_
        rw [List.all_map, List.all_eq_true]
        intro b _; rfl
      · have e : s.extract 0 (bl s).length = s := by rw [bl_size]; exact ByteArray.extract_zero_size
        have e2 : s.data.map (fun b => Value.int .u8 (b.toNat : Int)) = ⟨(bl s).map byteV⟩ := by
          apply Array.ext'; simp [bl]; intros; rfl
        simp only [Builtin.firstCells, e, Sem.run_pure, e2]
    · rw [decide_eq_false hs, cond_false] at ha; cases ha
  · cases ha
/-- into the room that there is -/
theorem append_in {st xt e ty sz len n cap : Nat} {d : TypeDesc} {us : Array Value} {a' : Addr} {x' : Value} {w' : World} (hst : P.underlying st = some (.slice e)) (hxt : P.underlying xt = some d) (hd : (d matches .int _) = false)
    (hse : ∀ w : World, (sizeOf e).run P w = .ok sz w) (hn : (Builtin.lenOf x').run P w = .ok n w) (hf : ∀ w2 : World, w2.heap = w.heap → (Builtin.firstCells sz n x').run P w2 = .ok us w2) (hcap : len + n ≤ cap)
    (hs : (storeCells (a'.add (len * sz)) us.toList).run P w = .ok () w') : (Builtin.append_ #[st, xt] ty #[.slice (some a') len cap, x']).run P w = .ok (.slice (some a') (len + n) cap) w' := by
  have hf1 := hf w rfl
  have h0 : (#[st, xt] : Array Nat)[0]? = some st := rfl
  have h1 : (#[st, xt] : Array Nat)[1]? = some xt := rfl
  have h2 : (#[Value.slice (some a') len cap, x'] : Array Value)[0]? = some (.slice (some a') len cap) := rfl
  have h3 : (#[Value.slice (some a') len cap, x'] : Array Value)[1]? = some x' := rfl
  have hse1 := hse w
  clear hf hse
  unfold Builtin.append_
  simp only [h0, h1, h2, h3, Sem.run_bind, run_under hst, Result.andThen, hse1, run_under hxt, Sem.run_pure]
  cases d <;> first
    | (simp at hd; done)
    | (simp only [Bool.false_eq_true, if_false, hn, if_pos hcap, hf1, hs, Sem.run_bind, Result.andThen, Sem.run_pure, Bool.not_false, if_true])
/-- into a new row -/
theorem append_grow {st xt e ty sz len n cap by_ : Nat} {d : TypeDesc} {us olds : Array Value} {z s' x' : Value} {b' : Option Addr} (hst : P.underlying st = some (.slice e)) (hxt : P.underlying xt = some d) (hd : (d matches .int _) = false)
    (hse : ∀ w : World, (sizeOf e).run P w = .ok sz w) (hin : ∀ w : World, ∃ inf, (typeInfo e).run P w = .ok inf w ∧ inf.bytes = by_) (hz : ∀ w : World, (zeroValue e).run P w = .ok z w) (hn : (Builtin.lenOf x').run P w = .ok n w) (hs' : s' = .slice b' len cap)
    (hf : ∀ w2 : World, w2.heap = w.heap → (Builtin.firstCells sz n x').run P w2 = .ok us w2) (ho : ∀ w2 : World, w2.heap = w.heap → (Builtin.firstCells sz len s').run P w2 = .ok olds w2) (hcap : cap < len + n) (hfit : fits (len + n) by_ = true) :
    ∃ newCap, len + n ≤ newCap ∧ (Builtin.append_ #[st, xt] ty #[s', x']).run P w = .ok (.slice (some ⟨w.heap.size, 0, none⟩) (len + n) newCap) ({ w with drawn := w.drawn + 1 }.alloc (.cells (olds ++ us ++ Builtin.zeroCells z.cells (newCap - (len + n))) e)) := by
  subst hs'
  unfold fits at hfit
  rw [bled, bled, Bool.and_eq_true, decide_eq_true_eq, decide_eq_true_eq] at hfit
  refine ⟨(Question.appendCap (len + n) cap e).cut (w.tape w.drawn (.appendCap (len + n) cap e)), by simp [Question.cut], ?_⟩
  obtain ⟨inf, hi, hb⟩ := hin w
  have hnext := next_le hcap
  have hm : ¬ ((len : Int) + (n : Int) > IntKind.i64.max) := by
    have : IntKind.i64.max = 9223372036854775807 := by decide
    rw [this]; omega
  have hbig : ¬ (Builtin.nextslicecap (len + n) cap * inf.bytes > 281474976710656) := by
    rw [hb]
    have := Nat.mul_le_mul_right by_ hnext
    omega
  have hnot : ¬ (len + n ≤ cap) := by omega
  have hf1 := hf { w with drawn := w.drawn + 1 } rfl
  have ho1 := ho { w with drawn := w.drawn + 1 } rfl
  have h0 : (#[st, xt] : Array Nat)[0]? = some st := rfl
  have h1 : (#[st, xt] : Array Nat)[1]? = some xt := rfl
  have h2 : (#[Value.slice b' len cap, x'] : Array Value)[0]? = some (.slice b' len cap) := rfl
  have h3 : (#[Value.slice b' len cap, x'] : Array Value)[1]? = some x' := rfl
  have hse1 := hse w
  obtain ⟨inf2, hi2, hb2⟩ := hin { w with drawn := w.drawn + 1 }
  have hz2 := hz { w with drawn := w.drawn + 1 }
  have hc1 : ¬ (((len + n : Nat) : Int) > IntKind.i64.max ∧ inf.bytes = 0) := fun e => hm (by simpa using e.1)
  have hbig' : ¬ (Builtin.nextslicecap (len + n) cap * inf.bytes > 2 ^ 48) := hbig
  have hch : (Sem.choose (Question.appendCap (len + n) cap e) Sem.pure).run P w = .ok ((Question.appendCap (len + n) cap e).cut (w.tape w.drawn (.appendCap (len + n) cap e))) { w with drawn := w.drawn + 1 } := rfl
  clear hf hse hin hz ho hm
  unfold Builtin.append_
  simp only [h0, h1, h2, h3, Sem.run_bind, run_under hst, Result.andThen, hse1, run_under hxt, Sem.run_pure]
  cases d <;> first
    | (simp at hd; done)
    | (simp only [Bool.false_eq_true, if_false, hn, if_neg hnot, hi, Sem.run_bind, Result.andThen, Sem.run_pure, Bool.not_false, if_true, false_or]
       rw [if_neg hc1]
       simp only [hi, Sem.run_bind, Result.andThen]
       rw [if_neg hbig']
       simp only [choose, Sem.run_bind, hch, Result.andThen, hi2, run_askRoom, ho1, hf1, hz2, newRow, run_newObj, Sem.run_pure]
       rfl)
theorem append_nil {st xt e ty sz : Nat} {d : TypeDesc} {us : Array Value} {x' : Value} (hst : P.underlying st = some (.slice e)) (hxt : P.underlying xt = some d) (hd : (d matches .int _) = false)
    (hse : ∀ w : World, (sizeOf e).run P w = .ok sz w) (hn : (Builtin.lenOf x').run P w = .ok 0 w) (hf : ∀ w2 : World, w2.heap = w.heap → (Builtin.firstCells sz 0 x').run P w2 = .ok us w2) : (Builtin.append_ #[st, xt] ty #[.slice none 0 0, x']).run P w = .ok (.slice none 0 0) w := by
  have hf1 := hf w rfl
  have h0 : (#[st, xt] : Array Nat)[0]? = some st := rfl
  have h1 : (#[st, xt] : Array Nat)[1]? = some xt := rfl
  have h2 : (#[Value.slice none 0 0, x'] : Array Value)[0]? = some (.slice none 0 0) := rfl
  have h3 : (#[Value.slice none 0 0, x'] : Array Value)[1]? = some x' := rfl
  have hse1 := hse w
  clear hf hse
  unfold Builtin.append_
  simp only [h0, h1, h2, h3, Sem.run_bind, run_under hst, Result.andThen, hse1, run_under hxt, Sem.run_pure]
  cases d <;> first
    | (simp at hd; done)
    | (simp only [Bool.false_eq_true, if_false, hn, Nat.add_zero, Nat.le_refl, if_true, hf1, Sem.run_bind, Result.andThen, Sem.run_pure, Bool.not_false])
theorem CR.extend {old news us : List Value} {ds : Array Value} {d k : Nat} (h : CR π old ds d) (hk : old.length = k) (hv : VRs π news us) (hd : d + k + us.length ≤ ds.size) : CR π (old ++ news) (setL ds (d + k) us) d := by
  intro j v hj
  have hlen := hv.length
  rw [setL_get us (d + k) ds (d + j) hd]
  by_cases h1 : j < k
  · rw [if_neg (by omega)]
    rw [List.getElem?_append_left (by omega)] at hj
    exact h j v hj
  · rw [List.getElem?_append_right (by omega)] at hj
    obtain ⟨u, e1, e2⟩ := hv.get _ _ hj
    have hlt := (List.getElem?_eq_some_iff.1 e1).1
    rw [if_pos (by omega)]
    exact ⟨u, by rw [show d + j - (d + k) = j - old.length by omega]; exact e1, e2⟩
/-- the new row of an append -/
theorem grow_stp {h : AHeap} (hr : HR π N h.get h.next w) {nid : Nat} (hn : π nid = none) {cs : List Value} {ds : Array Value} {n0 : Nat} (z : Bool) (hv : ∀ (j : Nat) v, cs[j]? = some v → ∃ u, ds[j]? = some u ∧ VR π v u) (ty : Nat) (hsz : ds.size = n0) :
    Stp π N h.get h.next w (π.put nid ⟨w.heap.size, 0, n0⟩) (h.new nid (.cells cs z)).get (h.new nid (.cells cs z)).next ({ w with drawn := w.drawn + 1 }.alloc (.cells ds ty)) nid := by
  subst hsz
  rw [get_new, next_new]
  have e : ({ w with drawn := w.drawn + 1 }.alloc (.cells ds ty)).heap = w.heap.push (.cells ds ty) := rfl
  refine Stp.alloc hr hn rfl rfl rfl rfl (by rw [e]; simp) (fun b hb => by rw [e]; simp [Array.getElem?_push, Nat.ne_of_lt hb]) ⟨hr.base.le, ds, ty, (0, 0), by rw [e]; simp, rfl, fun _ => rfl, fun j hj => by simp, ?_⟩
  intro j v hj
  obtain ⟨u, h1, h2⟩ := hv j v hj
  exact ⟨u, by simpa using h1, h2.mono (Pi.le_put hn)⟩
theorem prefix_rel {old news : List Value} {olds us zs : Array Value} (h1 : VRs π old olds.toList) (h2 : VRs π news us.toList) (j : Nat) (v : Value) (hj : (old ++ news)[j]? = some v) : ∃ u, (olds ++ us ++ zs)[j]? = some u ∧ VR π v u := by
  obtain ⟨u, e1, e2⟩ := (h1.append h2).get j v hj
  have hlt := (List.getElem?_eq_some_iff.1 e1).1
  refine ⟨u, ?_, e2⟩
  rw [← Array.getElem?_toList, Array.toList_append, Array.toList_append, List.getElem?_append_left hlt]
  exact e1
theorem zero_size {z : Array Value} {n : Nat} : (Builtin.zeroCells z n).size = n * z.size := by simp [Builtin.zeroCells]
theorem vr_grown (π : Pi) {id b n len cap' sz : Nat} (hs : 0 < sz) (hn : cap' * sz = n) (hl : len ≤ cap') : VR (π.put id ⟨b, 0, n⟩) (.slice (some ⟨id, 0, none⟩) len (CAPX + sz)) (.slice (some ⟨b, 0, none⟩) len cap') := by
  have := VR.slice (o := 0) (len := len) (cap := CAPX + sz) (cap' := cap') (put_self π id ⟨b, 0, n⟩) (.inr ⟨sz, rfl, hs, by simpa using hn, hl⟩)
  simpa using this
theorem aappend_sound (ht : TOk P T) {h h' : AHeap} (hr : HR π N h.get h.next w) {nid ty : Nat} (hnid : π nid = none) {ts : List Nat} {tsa : Array Nat} (hts : tsa.toList = ts) {s s' x x' v : Value} (ha : aappend T h nid ts s x = some (v, h')) (hs : VR π s s') (hx : VR π x x') :
    ∃ π' v' w', (Builtin.append_ tsa ty #[s', x']).run P w = .ok v' w' ∧ VR π' v v' ∧ Stp π N h.get h.next w π' h'.get h'.next w' nid := by
  unfold aappend at ha
  split at ha
  · rename_i st xt
    obtain rfl : tsa = #[st, xt] := by apply Array.ext'; simpa using hts
    split at ha
    · rename_i e _ _ _ xi hTs hTx
      obtain ⟨_, hk, _⟩ := ti_spec (ht.ti _ _ hTs)
      have hst := und_slice hk
      obtain ⟨_, hkx, d, hxt⟩ := ti_spec (ht.ti _ _ hTx)
      split at ha
      · cases ha
      · rename_i ei hTe hni
        have hd : (d matches .int _) = false := by
          cases d <;> first | rfl | (exfalso; unfold tkOf at hkx; rw [hxt] at hkx; exact hni _ hkx.symm)
        have hte := ht.ti _ _ hTe
        have hse : ∀ w : World, (sizeOf e).run P w = .ok ei.size w := fun w => run_size hte
        have hin : ∀ w : World, ∃ inf, (typeInfo e).run P w = .ok inf w ∧ inf.bytes = ei.bytes := fun w => by
          obtain ⟨inf, h1, h2, h3⟩ := run_info (w := w) hte; exact ⟨inf, h1, h3⟩
        have hze : ∀ w : World, (zeroValue e).run P w = .ok ei.zero w := fun w => run_zero hte
        rw [beqd] at ha
        by_cases hz : ei.size = 0
        · rw [decide_eq_true hz, cond_true] at ha; cases ha
        rw [decide_eq_false hz, cond_false, beqd] at ha
        have hz' : 0 < ei.size := Nat.pos_of_ne_zero hz
        by_cases hzz : ei.zero.cells.toList.length = ei.size
        case neg => rw [decide_eq_false hzz] at ha; simp at ha
        rw [decide_eq_true hzz, Bool.not_true, cond_false] at ha
        have hzs : ei.zero.cells.size = ei.size := by simpa using hzz
        split at ha
        · cases ha
        · rename_i n news hsrc
          obtain ⟨hlen, us, hus, husz, hf⟩ := srcCells_sound (P := P) hr hsrc hx
          cases ho : ones news with
          | false => rw [ho, cond_false] at ha; cases ha
          | true =>
          rw [ho, cond_true] at ha
          split at ha
          · cases hs
            rw [beqd] at ha
            by_cases hn0 : n = 0
            · subst hn0
              rw [decide_eq_true rfl, cond_true] at ha
              simp only [Option.some.injEq, Prod.mk.injEq] at ha
              obtain ⟨rfl, rfl⟩ := ha
              exact ⟨π, _, w, append_nil hst hxt hd hse hlen hf, .slice0 _ _, Stp.refl hr nid⟩
            · rw [decide_eq_false hn0, cond_false] at ha
              cases hfit : fits n ei.bytes with
              | false => rw [hfit, cond_false] at ha; cases ha
              | true =>
                rw [hfit, cond_true] at ha
                simp only [Option.some.injEq, Prod.mk.injEq] at ha
                obtain ⟨rfl, rfl⟩ := ha
                obtain ⟨nc, h1, h2⟩ := append_grow (P := P) (w := w) (ty := ty) (len := 0) (cap := 0) (olds := #[]) (b' := none) hst hxt hd hse hin hze hlen rfl hf (fun w2 _ => by simp [Builtin.firstCells, Sem.run_pure]) (by omega) (by simpa using hfit)
                rw [Nat.zero_add] at h1 h2
                refine ⟨_, _, _, h2, vr_grown π hz' (n := nc * ei.size) rfl h1, grow_stp hr hnid true (fun j v hj => ?_) e ?_⟩
                · exact prefix_rel (old := []) (olds := #[]) .nil hus j v (by simpa using hj)
                · rw [Array.size_append, Array.size_append, zero_size, hzs, husz]
                  simp only [List.size_toArray, List.length_nil, Nat.zero_add]
                  rw [← Nat.add_mul]; congr 1; omega
          · rename_i id o len cap
            obtain ⟨a', cap', rfl⟩ := hs.inv_slice
            have hlc : len ≤ cap' := by
              cases hs with
              | slice hL hc => rcases hc with ⟨_, e1, e2⟩ | ⟨_, _, _, _, e2⟩ <;> omega
              | sliceE _ => exact Nat.le_refl _
            rw [beqd] at ha
            by_cases hn0 : n = 0
            · subst hn0
              rw [decide_eq_true rfl, cond_true] at ha
              simp only [Option.some.injEq, Prod.mk.injEq] at ha
              obtain ⟨rfl, rfl⟩ := ha
              have hus0 : us.toList = [] := by
                have : us.toList.length = 0 := by simpa using husz
                exact List.length_eq_zero_iff.1 this
              have := append_in (P := P) (w := w) (ty := ty) (cap := cap') hst hxt hd hse hlen hf (by omega) (a' := a') (w' := w) (by rw [hus0]; rfl)
              exact ⟨π, _, w, this, hs, Stp.refl hr nid⟩
            · rw [decide_eq_false hn0, cond_false] at ha
              cases hfit : fits (len + n) ei.bytes with
              | false => rw [hfit, cond_false] at ha; cases ha
              | true =>
              rw [hfit, cond_true, bled, decide_eq_false (by omega), cond_false] at ha
              cases hrm : room h ei.size id o 0 cap (len + n) with
              | true =>
                rw [hrm, cond_true] at ha
                split at ha
                · rename_i h2 hput
                  simp only [Option.some.injEq, Prod.mk.injEq] at ha
                  obtain ⟨rfl, rfl⟩ := ha
                  have hv0 : VR π (.slice (some ⟨id, o, none⟩) 0 cap) (.slice (some a') 0 cap') := by
                    cases hs with
                    | slice hL hc => exact .slice hL (hc.imp (fun ⟨e1, e2, _⟩ => ⟨e1, e2, Nat.zero_le _⟩) (fun ⟨q, e1, e2, e3, _⟩ => ⟨q, e1, e2, e3, Nat.zero_le _⟩))
                    | sliceE hc => exact .sliceE hc
                  have hin2 := room_spec hr hrm hz' hv0
                  cases hs with
                  | sliceE hc => omega
                  | slice hL hc =>
                    rename_i L
                    obtain ⟨L', w', g1, g2, g3⟩ := aput_sound (P := P) hr hput hus nid
                    rw [hL] at g1; injection g1 with g1; subst g1
                    have := append_in (P := P) (w := w) (ty := ty) (cap := cap') hst hxt hd hse hlen hf hin2 (a' := ⟨L.b, L.d + o, none⟩) (w' := w') (by rw [add_none, Nat.add_assoc]; exact g2)
                    exact ⟨π, _, w', this, .slice hL (hc.imp (fun ⟨e1, e2, _⟩ => ⟨e1, e2, by omega⟩) (fun ⟨q, e1, e2, e3, _⟩ => ⟨q, e1, e2, e3, hin2⟩)), g3⟩
                · cases ha
              | false =>
                rw [hrm, cond_false] at ha
                have hrd : ∀ cs old, rd h id = some cs → cut cs o (len * ei.size) = some old → ∃ olds : Array Value, VRs π old olds.toList ∧ olds.size = len * ei.size ∧ ∀ w2 : World, w2.heap = w.heap → (Builtin.firstCells ei.size len (.slice (some a') len cap')).run P w2 = .ok olds w2 := fun cs old h1 h2 => first_slice hr h1 h2 hs
                have hgrow : ∀ old, cap' < len + n → (∃ olds : Array Value, VRs π old olds.toList ∧ olds.size = len * ei.size ∧ ∀ w2 : World, w2.heap = w.heap → (Builtin.firstCells ei.size len (.slice (some a') len cap')).run P w2 = .ok olds w2) →
                    ∃ nc ds, len + n ≤ nc ∧ (Builtin.append_ #[st, xt] ty #[.slice (some a') len cap', x']).run P w = .ok (.slice (some ⟨w.heap.size, 0, none⟩) (len + n) nc) ({ w with drawn := w.drawn + 1 }.alloc (.cells ds e)) ∧ ds.size = nc * ei.size ∧ (∀ (j : Nat) v, (old ++ news)[j]? = some v → ∃ u, ds[j]? = some u ∧ VR π v u) := by
                  rintro old hc ⟨olds, q1, q2, q3⟩
                  obtain ⟨nc, h1, h2⟩ := append_grow (P := P) (w := w) (ty := ty) hst hxt hd hse hin hze hlen rfl hf q3 hc hfit
                  refine ⟨nc, _, h1, h2, ?_, fun j v hj => prefix_rel q1 hus j v hj⟩
                  rw [Array.size_append, Array.size_append, zero_size, hzs, husz, q2]
                  rw [← Nat.add_mul, ← Nat.add_mul]; congr 1; omega
                have hexact : cap < CAPX → cap' < len + n := by
                  intro hc
                  unfold room at hrm
                  rw [bltd, decide_eq_true hc, cond_true, bled, decide_eq_false_iff_not] at hrm
                  cases hs with
                  | slice hL hk => rcases hk with ⟨_, e1, _⟩ | ⟨q, e1, _⟩ <;> omega
                  | sliceE hk => omega
                split at ha
                · rename_i cs z hg
                  have hrdc : rd h id = some cs := by unfold rd; rw [hg]
                  split at ha
                  · rename_i old hcut
                    rw [bltd] at ha
                    by_cases hc : cap < CAPX
                    · rw [decide_eq_true hc, cond_true] at ha
                      simp only [Option.some.injEq, Prod.mk.injEq] at ha
                      obtain ⟨rfl, rfl⟩ := ha
                      obtain ⟨nc, ds, g1, g2, g3, g4⟩ := hgrow old (hexact hc) (hrd cs old hrdc hcut)
                      exact ⟨_, _, _, g2, vr_grown π hz' (n := nc * ei.size) rfl g1, grow_stp hr hnid true g4 e g3⟩
                    · rw [decide_eq_false hc, cond_false, beqd] at ha
                      by_cases hce : cap = CAPX + ei.size
                      case neg => rw [decide_eq_false hce, cond_false] at ha; cases ha
                      rw [decide_eq_true hce, cond_true] at ha
                      simp only [Option.some.injEq, Prod.mk.injEq] at ha
                      obtain ⟨rfl, rfl⟩ := ha
                      by_cases hroom : len + n ≤ cap'
                      · cases hs with
                        | sliceE hk => omega
                        | slice hL hk =>
                          rename_i L
                          rcases hk with ⟨e1, _⟩ | ⟨sz, e1, e2, e3, e4⟩
                          · omega
                          · have hsz : sz = ei.size := by omega
                            subst hsz
                            obtain ⟨L', p1, p0, ds, dty, fr, p2, p3, p4, p5, p6⟩ := hr.obj id _ hg
                            rw [hL] at p1; injection p1 with p1; subst p1
                            have hmul : (len + n) * ei.size ≤ cap' * ei.size := Nat.mul_le_mul_right _ hroom
                            have hfitc : L.d + o + len * ei.size + us.toList.length ≤ ds.size := by
                              rw [p3, Array.length_toList, husz]
                              rw [Nat.add_mul] at hmul
                              omega
                            have hst2 : (storeCells ⟨L.b, L.d + o + len * ei.size, none⟩ us.toList).run P w = .ok () (w.setCells L.b (L.d + o + len * ei.size) us.toList) := by
                              have := run_storeCells_cells (P := P) L.b (L.d + o + len * ei.size) us.toList 0 w (fun j hj => by
                                rw [cell_row p2, Nat.add_zero, Array.getElem?_eq_getElem (by omega)]; rfl) (fun j hj => by
                                have := p5 (L.d + o + len * ei.size + 0 + j) (by omega)
                                obtain ⟨lo, hi⟩ := fr
                                simp only [World.frozen?, p2]
                                rw [Bool.eq_false_iff]
                                intro hh
                                simp only [Bool.and_eq_true, decide_eq_true_eq] at hh
                                exact this hh) (hus.ones ho)
                              simpa using this
                            have hrun := append_in (P := P) (w := w) (ty := ty) (cap := cap') hst hxt hd hse hlen hf hroom (a' := ⟨L.b, L.d + o, none⟩) (w' := w.setCells L.b (L.d + o + len * ei.size) us.toList) (by rw [add_none]; exact hst2)
                            obtain ⟨c1, c2, c3⟩ := cut_spec hcut
                            obtain ⟨s1, s2, s3, s4⟩ := same_setCells L.b us.toList (L.d + o + len * ei.size) w
                            have hcro : CR π old ds (L.d + o) := by
                              intro j v hj
                              have hjl : j < len * ei.size := by have := (List.getElem?_eq_some_iff.1 hj).1; omega
                              rw [c1, List.getElem?_take, if_pos hjl, List.getElem?_drop] at hj
                              obtain ⟨u, u1, u2⟩ := p6 _ _ hj
                              exact ⟨u, by rw [Nat.add_assoc]; exact u1, u2⟩
                            refine ⟨π.put nid ⟨L.b, L.d + o, L.n⟩, _, _, hrun, ?_, ?_⟩
                            · have := VR.slice (o := 0) (len := len + n) (cap := CAPX + ei.size) (cap' := cap') (put_self π nid ⟨L.b, L.d + o, L.n⟩) (.inr ⟨ei.size, rfl, hz', by simpa using e3, hroom⟩)
                              simpa using this
                            · rw [get_new, get_kill, next_new]
                              refine Stp.move hr hg rfl rfl hL hnid s1 s2 s3 s4.symm (fun b hb => other_setCells L.b us.toList _ w b hb) ⟨p0, setL ds (L.d + o + len * ei.size) us.toList, dty, fr, heap_setCells L.b us.toList _ w ds dty fr p2, by rw [setL_size]; exact p3, p4, by rw [setL_size]; exact p5, ?_⟩
                              exact (hcro.extend c2 hus hfitc).mono (Pi.le_put hnid)
                      · obtain ⟨nc, ds, g1, g2, g3, g4⟩ := hgrow old (by omega) (hrd cs old hrdc hcut)
                        have hk := Stp.kill hr id nid
                        have hr2 : HR π N (h.kill id).get (h.kill id).next w := by rw [get_kill]; exact hr.kill id
                        have hg := grow_stp hr2 hnid z g4 e g3
                        rw [get_kill] at hg
                        exact ⟨_, _, _, g2, vr_grown π hz' (n := nc * ei.size) rfl g1, hk.trans hg (.inl rfl)⟩
                  · cases ha
                · rename_i cs hg
                  have hrdc : rd h id = some cs := by unfold rd; rw [hg]
                  split at ha
                  · rename_i old hcut
                    rw [bltd] at ha
                    by_cases hc : cap < CAPX
                    · rw [decide_eq_true hc, cond_true] at ha
                      simp only [Option.some.injEq, Prod.mk.injEq] at ha
                      obtain ⟨rfl, rfl⟩ := ha
                      obtain ⟨nc, ds, g1, g2, g3, g4⟩ := hgrow old (hexact hc) (hrd cs old hrdc hcut)
                      exact ⟨_, _, _, g2, vr_grown π hz' (n := nc * ei.size) rfl g1, grow_stp hr hnid true g4 e g3⟩
                    · rw [decide_eq_false hc, cond_false] at ha; cases ha
                  · cases ha
                · cases ha
          · cases ha
      · cases ha
    · cases ha
  · cases ha
end
end Go.Proofs.Ytffockklleanmaa.AM

/- Maps. -/
namespace Go.Proofs.Ytffockklleanmaa.AM
open Go
variable [Tok]
set_option linter.unusedVariables false
set_option linter.unusedSectionVars false
set_option linter.unusedSimpArgs false
section
variable {P : Program} {T : Tr TI} {w : World} {π : Pi} {N : Nat}
theorem isKey_spec (ht : TOk P T) {kt : Nat} {x : Value} (h : isKey T kt x = true) : ∃ d, P.underlying kt = some d ∧ MapKept.IsKey d x ∧ ∀ π y, VR π x y → y = x := by
  unfold isKey at h
  split at h
  · rename_i k _ _ _ j n hT
    obtain ⟨_, hk, _⟩ := ti_spec (ht.ti _ _ hT)
    have hj : k = j := by simpa using h
    exact ⟨_, und_int hk, hj.symm, fun π y hy => by cases hy; rfl⟩
  · rename_i hT
    obtain ⟨_, hk, _⟩ := ti_spec (ht.ti _ _ hT)
    exact ⟨_, und_string hk, trivial, fun π y hy => by cases hy; rfl⟩
  · cases h
theorem keyEq_spec {d : TypeDesc} {x k : Value} {b : Bool} (hx : MapKept.IsKey d x) (h : keyEq x k = some b) : Instr.sameNow d x k = some b ∧ (b = true → k = x) ∧ (b = false → k ≠ x) := by
  unfold keyEq at h
  split at h
  · rename_i j a l c
    split at h
    · rename_i hj
      subst hj
      simp only [Option.some.injEq] at h
      subst h
      refine ⟨?_, fun e => by simp at e; rw [e], fun e e2 => by injection e2 with _ e2; simp [e2] at e⟩
      cases d <;> simp_all [MapKept.IsKey, Instr.sameNow]
    · cases h
  · rename_i a c
    simp only [Option.some.injEq] at h
    have hab : (a == c) = b := by
      rw [← h, eqB_spec, Bool.eq_iff_iff, MapKept.bytes_beq, decide_eq_true_eq]
      exact ⟨fun e => by rw [e], fun e => by rw [← lb_bl a, ← lb_bl c, e]⟩
    refine ⟨?_, fun e => ?_, fun e e2 => ?_⟩
    · cases d <;> simp_all [MapKept.IsKey, Instr.sameNow]
    · rw [e, MapKept.bytes_beq] at hab; rw [hab]
    · injection e2 with e2
      rw [← e2, e, Bool.eq_false_iff] at hab
      exact hab ((MapKept.bytes_beq _ _).2 rfl)
  · cases h
theorem MR.length {l : List (Value × Value)} {m : List MapEntry} (h : MR π l m) : l.length = m.length := by
  induction h with
  | nil => rfl
  | cons _ _ _ ih => simp [ih]
theorem mget_sound {d : TypeDesc} {x : Value} (hx : MapKept.IsKey d x) {l : List (Value × Value)} {m : List MapEntry} (h : MR π l m) : ∀ (r : Option Value) (i : Nat), mget l x = some r →
    (r = none ∧ Instr.findNow d x m i = some none ∧ ∀ e ∈ m, e.key ≠ x) ∨ ∃ j e v, r = some v ∧ Instr.findNow d x m i = some (some (i + j, e.val)) ∧ m[j]? = some e ∧ e.key = x ∧ VR π v e.val := by
  induction h with
  | nil =>
    intro r i hg
    simp only [mget, Option.some.injEq] at hg
    subst hg
    exact .inl ⟨rfl, rfl, by simp⟩
  | cons hk hv ht ih =>
    rename_i k v e l m
    intro r i hg
    simp only [mget] at hg
    split at hg
    · rename_i he
      obtain ⟨h1, h2, _⟩ := keyEq_spec hx he
      simp only [Option.some.injEq] at hg
      subst hg
      rw [← hk] at h1 h2
      exact .inr ⟨0, e, v, rfl, by simp [Instr.findNow, h1], rfl, h2 rfl, hv⟩
    · rename_i he
      obtain ⟨h1, _, h3⟩ := keyEq_spec hx he
      rw [← hk] at h1 h3
      rcases ih r (i + 1) hg with ⟨g1, g2, g3⟩ | ⟨j, e', v', g1, g2, g3, g4, g5⟩
      · exact .inl ⟨g1, by simp [Instr.findNow, h1, g2], fun y hy => by
          rcases List.mem_cons.1 hy with rfl | hy
          · exact h3 rfl
          · exact g3 y hy⟩
      · exact .inr ⟨j + 1, e', v', g1, by simp [Instr.findNow, h1, g2]; omega, by simpa using g3, g4, g5⟩
    · cases hg
theorem mput_sound {d : TypeDesc} {x : Value} (hx : MapKept.IsKey d x) {u u' : Value} (hu : VR π u u') {l : List (Value × Value)} {m : List MapEntry} (h : MR π l m) : ∀ (r : List (Value × Value)) (i : Nat), mput l x u = some r →
    (Instr.findNow d x m i = some none ∧ (∀ e ∈ m, e.key ≠ x) ∧ ∀ c, MR π r (m ++ [⟨x, u', c⟩])) ∨ ∃ j e, Instr.findNow d x m i = some (some (i + j, e.val)) ∧ m[j]? = some e ∧ e.key = x ∧ MR π r (m.modify j fun e => { e with key := x, val := u' }) := by
  induction h with
  | nil =>
    intro r i hg
    simp only [mput, Option.some.injEq] at hg
    subst hg
    exact .inl ⟨rfl, by simp, fun c => .cons rfl hu .nil⟩
  | cons hk hv ht ih =>
    rename_i k v e l m
    intro r i hg
    simp only [mput] at hg
    split at hg
    · rename_i he
      obtain ⟨h1, h2, _⟩ := keyEq_spec hx he
      simp only [Option.some.injEq] at hg
      subst hg
      rw [← hk] at h1 h2
      exact .inr ⟨0, e, by simp [Instr.findNow, h1], rfl, h2 rfl, by simpa using .cons rfl hu ht⟩
    · rename_i he
      obtain ⟨h1, _, h3⟩ := keyEq_spec hx he
      rw [← hk] at h1 h3
      split at hg
      · rename_i r' hr'
        simp only [Option.some.injEq] at hg
        subst hg
        rcases ih r' (i + 1) hr' with ⟨g1, g2, g3⟩ | ⟨j, e', g1, g2, g3, g4⟩
        · exact .inl ⟨by simp [Instr.findNow, h1, g1], fun y hy => by
            rcases List.mem_cons.1 hy with rfl | hy
            · exact h3 rfl
            · exact g2 y hy, fun c => .cons hk hv (g3 c)⟩
        · exact .inr ⟨j + 1, e', by simp [Instr.findNow, h1, g1]; omega, by simpa using g2, g3, by simpa using MR.cons hk hv g4⟩
      · cases hg
    · cases hg
theorem mdel_sound {d : TypeDesc} {x : Value} (hx : MapKept.IsKey d x) {l : List (Value × Value)} {m : List MapEntry} (h : MR π l m) : ∀ (r : List (Value × Value)) (i : Nat), mdel l x = some r →
    (Instr.findNow d x m i = some none ∧ MR π r m) ∨ ∃ j e, Instr.findNow d x m i = some (some (i + j, e.val)) ∧ m[j]? = some e ∧ MR π r (m.eraseIdx j) := by
  induction h with
  | nil =>
    intro r i hg
    simp only [mdel, Option.some.injEq] at hg
    subst hg
    exact .inl ⟨rfl, .nil⟩
  | cons hk hv ht ih =>
    rename_i k v e l m
    intro r i hg
    simp only [mdel] at hg
    split at hg
    · rename_i he
      obtain ⟨h1, _⟩ := keyEq_spec hx he
      simp only [Option.some.injEq] at hg
      subst hg
      rw [← hk] at h1
      exact .inr ⟨0, e, by simp [Instr.findNow, h1], rfl, by simpa using ht⟩
    · rename_i he
      obtain ⟨h1, _⟩ := keyEq_spec hx he
      rw [← hk] at h1
      split at hg
      · rename_i r' hr'
        simp only [Option.some.injEq] at hg
        subst hg
        rcases ih r' (i + 1) hr' with ⟨g1, g2⟩ | ⟨j, e', g1, g2, g3⟩
        · exact .inl ⟨by simp [Instr.findNow, h1, g1], .cons hk hv g2⟩
        · exact .inr ⟨j + 1, e', by simp [Instr.findNow, h1, g1]; omega, by simpa using g2, by simpa using MR.cons hk hv g3⟩
      · cases hg
    · cases hg
theorem map_obj {h : AHeap} {nx : Nat} (hr : HR π N h.get nx w) {id : Nat} {l : List (Value × Value)} (hg : h.get id = some (.map l)) : ∃ L es c, π id = some L ∧ N ≤ L.b ∧ w.heap[L.b]? = some (.map es c) ∧ MapKept.Stamped es c ∧ MR π l es.toList := by
  obtain ⟨L, h1, h0, es, c, h2, h3, h4⟩ := hr.obj id _ hg
  exact ⟨L, es, c, h1, h0, h2, h3, h4⟩
theorem mget_all {x : Value} : ∀ {l : List (Value × Value)}, (∀ p ∈ l, (keyEq x p.1).isSome = true) → mget l x = some ((l.filter fun p => (keyEq x p.1).getD false).head?.map (·.2))
  | [], _ => rfl
  | (k, v) :: r, h => by
    have h0 := h _ (.head _)
    have ih := mget_all (l := r) fun p hp => h p (.tail _ hp)
    cases e : keyEq x k with
    | none => rw [e] at h0; cases h0
    | some b =>
      cases b with
      | true => simp [mget, e]
      | false => simp [mget, e, ih]
theorem perm_small {α : Type} {a b : List α} (h : a.Perm b) (hl : b.length ≤ 1) : a = b := by
  match b, hl with
  | [], _ => exact List.perm_nil.1 h
  | [x], _ => exact List.perm_singleton.1 h
  | _ :: _ :: _, hl => simp at hl
theorem fget_spec {l l' : List (Value × Value)} {x : Value} {r : Option Value} (h : fget l x = some r) (hp : l'.Perm l) : mget l' x = some r := by
  unfold fget at h
  rw [Bool.cond_eq_ite] at h
  split at h
  · rename_i hc
    rw [Bool.and_eq_true, bled, decide_eq_true_eq] at hc
    have hall : ∀ p ∈ l, (keyEq x p.1).isSome = true := fun p hm => List.all_eq_true.1 hc.1 p hm
    rw [mget_all hall] at h
    rw [mget_all fun p hm => hall p (hp.mem_iff.1 hm), perm_small (hp.filter _) hc.2]
    exact h
  · cases h
theorem alookup_sound (ht : TOk P T) {h : AHeap} {nx : Nat} (hr : HR π N h.get nx w) {t : Nat} {m m' x x' v : Value} {ok : Bool} (ha : alookup T h t m x ok = some v) (hm : VR π m m') (hx : VR π x x') : ∃ v', (Instr.lookup t m' x' ok).run P w = .ok v' w ∧ VR π v v' := by
  unfold alookup at ha
  split at ha
  · rename_i kt et _ _ _ hT
    obtain ⟨_, hk, _⟩ := ti_spec (ht.ti _ _ hT)
    have hu := und_map hk
    split at ha
    · rename_i ei hTe
      have hze := run_zero (w := w) (ht.ti _ _ hTe)
      have hzv : VR π ei.zero ei.zero := .of_pv (ht.zero _ _ hTe)
      cases hkey : isKey T kt x with
      | false => rw [hkey, cond_false] at ha; cases ha
      | true =>
        rw [hkey, cond_true] at ha
        obtain ⟨d, hd, hdk, hxx⟩ := isKey_spec ht hkey
        obtain rfl := hxx π x' hx
        have fin : ∀ (r : Option Value) (r' : Value), VR π (r.getD ei.zero) r' → VR π (bif ok then .tuple #[r.getD ei.zero, .bool r.isSome] else r.getD ei.zero) (if ok = true then .tuple #[r', .bool r.isSome] else r') := by
          intro r r' hr'
          cases ok
          · exact hr'
          · exact .tuple (.cons hr' (.cons (.bool _) .nil))
        split at ha
        · rename_i r hr2
          simp only [Option.some.injEq] at ha
          subst ha
          split at hr2
          · cases hm
            simp only [Option.some.injEq] at hr2
            subst hr2
            refine ⟨_, ?_, fin none ei.zero hzv⟩
            simp [Instr.lookup, run_under hu, MapKept.run_checkKey hd hdk, MapKept.run_findKey (l := []) hd (a := none) rfl, hze, Sem.run_pure]
          · rename_i id
            split at hr2
            · rename_i l hg
              obtain ⟨L, es, c, g1, g0, g2, g3, g4⟩ := map_obj hr hg
              cases hm with
              | map hL =>
                rw [hL] at g1; injection g1 with g1; subst g1
                rcases mget_sound hdk g4 r 0 hr2 with ⟨rfl, e2, _⟩ | ⟨j, e, v, rfl, e2, e3, e4, e5⟩
                · refine ⟨_, ?_, fin none ei.zero hzv⟩
                  simp [Instr.lookup, run_under hu, MapKept.run_getObj_map g2, MapKept.run_checkKey hd hdk, MapKept.run_findKey hd e2, hze, Sem.run_pure]
                · refine ⟨_, ?_, fin (some v) e.val e5⟩
                  simp [Instr.lookup, run_under hu, MapKept.run_getObj_map g2, MapKept.run_checkKey hd hdk, MapKept.run_findKey hd e2, Sem.run_pure]
            · rename_i l hg
              obtain ⟨L, g1, g0, l', es, c, gp, g2, g3, g4⟩ := hr.obj id _ hg
              cases hm with
              | map hL =>
                rw [hL] at g1; injection g1 with g1; subst g1
                rcases mget_sound hdk g4 r 0 (fget_spec hr2 gp) with ⟨rfl, e2, _⟩ | ⟨j, e, v, rfl, e2, e3, e4, e5⟩
                · refine ⟨_, ?_, fin none ei.zero hzv⟩
                  simp [Instr.lookup, run_under hu, MapKept.run_getObj_map g2, MapKept.run_checkKey hd hdk, MapKept.run_findKey hd e2, hze, Sem.run_pure]
                · refine ⟨_, ?_, fin (some v) e.val e5⟩
                  simp [Instr.lookup, run_under hu, MapKept.run_getObj_map g2, MapKept.run_checkKey hd hdk, MapKept.run_findKey hd e2, Sem.run_pure]
            · cases hr2
          · cases hr2
        · cases ha
    · cases ha
  · cases ha
/-- a map that is turned -/
theorem map_turn {h : AHeap} (hr : HR π N h.get h.next w) {id : Nat} {l r : List (Value × Value)} {L : Loc} {es es' : Array MapEntry} {c c' : Nat} (hg : h.get id = some (.map l)) (hL : π id = some L) (h0 : N ≤ L.b) (hb : w.heap[L.b]? = some (.map es c)) (hs : MapKept.Stamped es' c') (hm : MR π r es'.toList) (nid : Nat) :
    Stp π N h.get h.next w π (h.set id (.map r)).get (h.set id (.map r)).next { w with heap := w.heap.setIfInBounds L.b (.map es' c') } nid := by
  rw [get_set]
  exact Stp.turn hr hg rfl rfl hL rfl rfl rfl (by simp) (fun b hb2 => (MapKept.heap_set hb).2 b hb2) ⟨h0, es', c', (MapKept.heap_set hb).1, hs, hm⟩
theorem amapUpdate_sound (ht : TOk P T) {h h' : AHeap} (hr : HR π N h.get h.next w) {t : Nat} {m m' x x' u u' : Value} (ha : amapUpdate T h t m x u = some h') (hm : VR π m m') (hx : VR π x x') (hu : VR π u u') (nid : Nat) :
    ∃ w', (Instr.mapUpdate t m' x' u').run P w = .ok () w' ∧ Stp π N h.get h.next w π h'.get h'.next w' nid := by
  unfold amapUpdate at ha
  split at ha
  · rename_i kt _ _ _ _ id hT
    obtain ⟨_, hk, _⟩ := ti_spec (ht.ti _ _ hT)
    have hum := und_map hk
    cases hkey : isKey T kt x with
    | false => rw [hkey, cond_false] at ha; cases ha
    | true =>
      rw [hkey, cond_true] at ha
      obtain ⟨d, hd, hdk, hxx⟩ := isKey_spec ht hkey
      obtain rfl := hxx π x' hx
      split at ha
      · rename_i l hg
        split at ha
        · rename_i r hput
          simp only [Option.some.injEq] at ha
          subst ha
          obtain ⟨L, es, c, g1, g0, g2, g3, g4⟩ := map_obj hr hg
          cases hm with
          | map hL =>
            rw [hL] at g1; injection g1 with g1; subst g1
            rcases mput_sound hdk hu g4 r 0 hput with ⟨e1, e2, e3⟩ | ⟨j, e, e1, e2, e3, e4⟩
            · have hs := MapKept.stamped_push (val := u') g3 e2
              refine ⟨_, ?_, map_turn hr hg hL g0 g2 hs (by rw [Array.toList_push]; exact e3 c) nid⟩
              simp [Instr.mapUpdate, run_under hum, MapKept.run_getObj_map g2, MapKept.run_checkKey hd hdk, MapKept.run_findKey hd e1, MapKept.run_setObj_map _ g2]
            · have hj : es[j]? = some e := by simpa using e2
              have hs : MapKept.Stamped (es.modify j fun e => { e with key := x', val := u' }) c := MapKept.stamped_modify g3 _ _ (fun _ _ => rfl) (fun e' _ he' => by rw [hj] at he'; cases he'; exact e3.symm)
              refine ⟨_, ?_, map_turn hr hg hL g0 g2 hs (by rw [Array.toList_modify]; exact e4) nid⟩
              simp [Instr.mapUpdate, run_under hum, MapKept.run_getObj_map g2, MapKept.run_checkKey hd hdk, MapKept.run_findKey hd e1, hj, e3, MapKept.run_keyThatStays hdk, MapKept.run_setObj_map _ g2]
        · cases ha
      · cases ha
  · cases ha
theorem adelete_sound (ht : TOk P T) {h h' : AHeap} (hr : HR π N h.get h.next w) {t ty : Nat} {ts : Array Nat} (hts : ts[0]? = some t) {m m' x x' : Value} (ha : adelete T h t m x = some h') (hm : VR π m m') (hx : VR π x x') (nid : Nat) :
    ∃ w', (Builtin.delete_ ts ty #[m', x']).run P w = .ok (.tuple #[]) w' ∧ Stp π N h.get h.next w π h'.get h'.next w' nid := by
  have h0 : (#[m', x'] : Array Value)[0]? = some m' := rfl
  have h1 : (#[m', x'] : Array Value)[1]? = some x' := rfl
  unfold adelete at ha
  split at ha
  · rename_i kt _ _ _ _ hT
    obtain ⟨_, hk, _⟩ := ti_spec (ht.ti _ _ hT)
    have hum := und_map hk
    cases hkey : isKey T kt x with
    | false => rw [hkey, cond_false] at ha; cases ha
    | true =>
      rw [hkey, cond_true] at ha
      obtain ⟨d, hd, hdk, hxx⟩ := isKey_spec ht hkey
      obtain rfl := hxx π x' hx
      simp only [Option.some.injEq] at ha
      subst ha
      cases hm
      refine ⟨w, ?_, Stp.refl hr nid⟩
      simp [Builtin.delete_, hts, run_under hum, MapKept.run_checkKey hd hdk, Sem.run_pure]
  · rename_i kt _ _ _ _ id hT
    obtain ⟨_, hk, _⟩ := ti_spec (ht.ti _ _ hT)
    have hum := und_map hk
    cases hkey : isKey T kt x with
    | false => rw [hkey, cond_false] at ha; cases ha
    | true =>
      rw [hkey, cond_true] at ha
      obtain ⟨d, hd, hdk, hxx⟩ := isKey_spec ht hkey
      obtain rfl := hxx π x' hx
      split at ha
      · rename_i l hg
        split at ha
        · rename_i r hput
          simp only [Option.some.injEq] at ha
          subst ha
          obtain ⟨L, es, c, g1, g0, g2, g3, g4⟩ := map_obj hr hg
          cases hm with
          | map hL =>
            rw [hL] at g1; injection g1 with g1; subst g1
            rcases mdel_sound hdk g4 r 0 hput with ⟨e1, e2⟩ | ⟨j, e, e1, e2, e3⟩
            · refine ⟨_, ?_, map_turn hr hg hL g0 g2 g3 e2 nid⟩
              simp [Builtin.delete_, hts, run_under hum, MapKept.run_getObj_map g2, MapKept.run_checkKey hd hdk, MapKept.run_findKey hd e1, MapKept.run_setObj_map _ g2, Sem.run_pure]
            · have hs := MapKept.stamped_erase g3 j
              have hjl : j < es.size := by have := (List.getElem?_eq_some_iff.1 e2).1; simpa using this
              refine ⟨_, ?_, map_turn hr hg hL g0 g2 hs (by rw [Array.eraseIdxIfInBounds, dif_pos hjl, Array.toList_eraseIdx]; exact e3) nid⟩
              simp [Builtin.delete_, hts, run_under hum, MapKept.run_getObj_map g2, MapKept.run_checkKey hd hdk, MapKept.run_findKey hd e1, MapKept.run_setObj_map _ g2, Sem.run_pure]
        · cases ha
      · cases ha
  · cases ha
end
end Go.Proofs.Ytffockklleanmaa.AM

/- Conversions, copies, lengths, least and greatest, new rows. -/
namespace Go.Proofs.Ytffockklleanmaa.AM
open Go
variable [Tok]
set_option linter.unusedVariables false
set_option linter.unusedSectionVars false
set_option linter.unusedSimpArgs false
section
variable {P : Program} {T : Tr TI} {w : World} {π : Pi} {N : Nat}
theorem bytesOf_spec : ∀ {r : List Value} {l : List UInt8}, bytesOfCells r = some l → ∃ ns : List Int, r = ns.map (Value.int .u8) ∧ l = ns.map fun n => UInt8.ofNat n.toNat
  | [], l, h => by simp [bytesOfCells] at h; subst h; exact ⟨[], rfl, rfl⟩
  | v :: r, l, h => by
    unfold bytesOfCells at h
    split at h
    · rename_i e; cases e
    · rename_i n r' e
      injection e with e1 e2; subst e1; subst e2
      split at h
      · rename_i l' h'
        simp only [Option.some.injEq] at h
        subst h
        obtain ⟨ns, e1, e2⟩ := bytesOf_spec h'
        exact ⟨n :: ns, by simp [e1], by simp [e2]⟩
      · cases h
    · cases h
theorem VRs.ints {ns : List Int} {k : IntKind} : ∀ {m : List Value}, VRs π (ns.map (Value.int k)) m → m = ns.map (Value.int k) := by
  induction ns with
  | nil => intro m h; cases h; rfl
  | cons n ns ih =>
    intro m h
    simp only [List.map_cons] at h
    cases h with
    | cons h t =>
      cases h
      rw [ih t]; rfl
theorem push_fold (ns : List Int) : ∀ acc : ByteArray, ns.foldl (fun r n => r.push (UInt8.ofNat n.toNat)) acc = ⟨⟨bl acc ++ ns.map fun n => UInt8.ofNat n.toNat⟩⟩ := by
  induction ns with
  | nil => intro acc; simp; exact (lb_bl acc).symm
  | cons n ns ih =>
    intro acc
    rw [List.foldl_cons, ih]
    have : bl (acc.push (UInt8.ofNat n.toNat)) = bl acc ++ [UInt8.ofNat n.toNat] := by
      rcases acc with ⟨⟨l⟩⟩; simp [bl, ByteArray.push]
    rw [this]; simp
theorem aconv_sound (ht : TOk P T) {h h' : AHeap} (hr : HR π N h.get h.next w) {nid src dst : Nat} (hnid : π nid = none) {x x' v : Value} (ha : aconv T h nid src dst x = some (v, h')) (hx : VR π x x') :
    ∃ π' v' w', (convert src dst x').run P w = .ok v' w' ∧ VR π' v v' ∧ Stp π N h.get h.next w π' h'.get h'.next w' nid := by
  unfold aconv at ha
  split at ha
  · rename_i i k _ _ _ j n hS hD
    cases hx
    obtain ⟨_, hk, _⟩ := ti_spec (ht.ti _ _ hD)
    obtain ⟨_, _, d, hsd⟩ := ti_spec (ht.ti _ _ hS)
    simp only [Option.some.injEq, Prod.mk.injEq] at ha
    obtain ⟨rfl, rfl⟩ := ha
    refine ⟨π, .int k (k.wrap n), w, ?_, .int _ _, Stp.refl hr nid⟩
    simp only [convert, Sem.run_bind, run_under hsd, run_under (und_int hk), Result.andThen]
    cases d <;> simp [Conv.intToInt, Sem.run_pure]
  · rename_i i _ _ _ s hS hD
    cases hx
    obtain ⟨_, hk, _⟩ := ti_spec (ht.ti _ _ hD)
    obtain ⟨_, _, d, hsd⟩ := ti_spec (ht.ti _ _ hS)
    simp only [Option.some.injEq, Prod.mk.injEq] at ha
    obtain ⟨rfl, rfl⟩ := ha
    refine ⟨π, .string s, w, ?_, .string _, Stp.refl hr nid⟩
    simp only [convert, Sem.run_bind, run_under hsd, run_under (und_string hk), Result.andThen]
    cases d <;> simp [Sem.run_pure]
  · rename_i i e _ _ _ s hS hD
    cases hx
    obtain ⟨_, hk, _⟩ := ti_spec (ht.ti _ _ hD)
    obtain ⟨_, _, d, hsd⟩ := ti_spec (ht.ti _ _ hS)
    have hud := und_slice hk
    split at ha
    · rename_i z hE
      obtain ⟨_, hke, _⟩ := ti_spec (ht.ti _ _ hE)
      have hue := und_int hke
      simp only [Option.some.injEq, Prod.mk.injEq] at ha
      obtain ⟨rfl, rfl⟩ := ha
      have hrun := Lib.run_convert_string_bytes w src dst e s hsd hud hue
      have hcap : s.size ≤ grownCap w s.size 0 e := by simp [grownCap, Question.cut]
      have hsz : (Lib.bytesCells w e s).size = grownCap w s.size 0 e := by
        simp [Lib.bytesCells]
        have : s.data.size = s.size := rfl
        omega
      refine ⟨π.put nid ⟨w.heap.size, 0, grownCap w s.size 0 e⟩, _, _, hrun, ?_, ?_⟩
      · rw [bl_size]
        exact vr_grown π (sz := 1) (by omega) (by omega) hcap
      · rw [get_new, next_new]
        refine Stp.alloc hr hnid rfl rfl rfl rfl (by rw [Lib.bytesWorld_size]; omega) (fun b hb => Lib.bytesWorld_at_old w e s b hb) ⟨hr.base.le, _, e, _, Lib.bytesWorld_at_new w e s, hsz, (fun e => by cases e), (fun j hj => by simp only; omega), ?_⟩
        intro j v hj
        have hjs : j < s.size := by
          have := (List.getElem?_eq_some_iff.1 hj).1
          rw [List.length_map, bl_size] at this; exact this
        refine ⟨v, ?_, ?_⟩
        · have := Lib.bytesWorld_cell w e s j hjs
          rw [cell_row (Lib.bytesWorld_at_new w e s)] at this
          rw [Nat.zero_add, this]
          rw [List.getElem?_map] at hj
          obtain ⟨b, hb1, hb2⟩ := Option.map_eq_some_iff.1 hj
          rw [← hb2]
          have hb3 : s.data.toList.getD j 0 = b := by
            rw [List.getD_eq_getElem?_getD]
            have : s.data.toList[j]? = some b := hb1
            rw [this]; rfl
          rw [hb3]; rfl
        · rw [List.getElem?_map] at hj
          obtain ⟨b, hb1, hb2⟩ := Option.map_eq_some_iff.1 hj
          rw [← hb2]; exact .int _ _
    · cases ha
  · rename_i e _ _ _ _ _ _ hS hD
    cases hx
    obtain ⟨_, hk, _⟩ := ti_spec (ht.ti _ _ hD)
    obtain ⟨_, hks, _⟩ := ti_spec (ht.ti _ _ hS)
    have hus := und_slice hks
    have hud := und_string hk
    split at ha
    · rename_i hE
      obtain ⟨_, hke, _⟩ := ti_spec (ht.ti _ _ hE)
      have hue := und_int hke
      simp only [Option.some.injEq, Prod.mk.injEq] at ha
      obtain ⟨rfl, rfl⟩ := ha
      refine ⟨π, .string .empty, w, ?_, .string _, Stp.refl hr nid⟩
      simp [convert, run_under hus, run_under hud, run_under hue, Conv.bytesToString, Sem.run_pure]
    · cases ha
  · rename_i e _ _ _ _ _ _ id o len cap hS hD
    obtain ⟨_, hk, _⟩ := ti_spec (ht.ti _ _ hD)
    obtain ⟨_, hks, _⟩ := ti_spec (ht.ti _ _ hS)
    have hus := und_slice hks
    have hud := und_string hk
    split at ha
    · rename_i cs hE hcs
      obtain ⟨_, hke, _⟩ := ti_spec (ht.ti _ _ hE)
      have hue := und_int hke
      split at ha
      · rename_i r hc
        split at ha
        · rename_i l hb
          simp only [Option.some.injEq, Prod.mk.injEq] at ha
          obtain ⟨rfl, rfl⟩ := ha
          obtain ⟨ns, e1, e2⟩ := bytesOf_spec hb
          obtain ⟨us, q1, q2, q3⟩ := first_slice (P := P) (sz := 1) hr hcs (by rw [Nat.mul_one]; exact hc) hx
          obtain ⟨a', cap', rfl⟩ := hx.inv_slice
          rw [e1] at q1
          have hus2 := q1.ints
          have q3' := q3 w rfl
          simp only [Builtin.firstCells, Nat.mul_one] at q3'
          have hload : (loadCells a' len).run P w = .ok (ns.map (Value.int .u8)).toArray w := by
            rw [q3']; congr 1; apply Array.ext'; simpa using hus2
          refine ⟨π, .string (lb l), w, ?_, .string _, Stp.refl hr nid⟩
          have hb2 := run_bytesToString (P := P) w a' len cap' ns hload
          rw [push_fold] at hb2
          have e3 : (⟨⟨bl ByteArray.empty ++ ns.map fun n => UInt8.ofNat n.toNat⟩⟩ : ByteArray) = lb l := by rw [e2]; rfl
          rw [e3] at hb2
          simp [convert, run_under hus, run_under hud, run_under hue, hb2]
        · cases ha
      · cases ha
    · cases ha
  · rename_i e0 _ _ _ e _ _ _ id o len cap hS hD
    rw [Bool.cond_eq_ite] at ha
    split at ha
    · rename_i hcc
      simp only [Bool.and_eq_true, beqd, bltd, decide_eq_true_eq] at hcc
      obtain ⟨rfl, hlen⟩ := hcc
      split at ha
      · rename_i cs hE hcs
        simp only [Option.some.injEq, Prod.mk.injEq] at ha
        obtain ⟨rfl, rfl⟩ := ha
        obtain ⟨_, hk, _⟩ := ti_spec (ht.ti _ _ hD)
        obtain ⟨_, hke, _⟩ := ti_spec (ht.ti _ _ hE)
        have hud := und_slice hk
        have hue := und_int hke
        cases hx with
        | sliceE _ => omega
        | slice hL hc =>
          rename_i cap' L
          obtain ⟨M, hM, hO⟩ := hr.obj id _ hcs
          rw [hL] at hM; injection hM with hM; subst hM
          obtain ⟨h0, ds, ty, fr, h1, h2, h3, h4, h5⟩ := hO
          obtain rfl := h3 rfl
          have hlt : L.b < w.heap.size := (Array.getElem?_eq_some_iff.1 h1).1
          have hsh : w.shape? L.b = some (ty, ds.size) := by
            unfold World.shape?
            rw [h1]
          have hat : (w.freeze ⟨L.b, ds.size, none⟩ 1).heap[L.b]? = some (.cells ds ty (ds.size, ds.size + 1)) := by
            unfold World.freeze
            rw [if_neg (by decide)]
            simp [Array.getElem?_modify, h1]
          refine ⟨π, .slice (some ⟨L.b, L.d + o, none⟩) len cap', w.freeze ⟨L.b, ds.size, none⟩ 1, ?_, .slice hL hc, ?_⟩
          · simp [convert, run_under hud, run_under hue, markStringish, hsh]
          · rw [get_set]
            refine Stp.turn hr hcs rfl rfl hL ?_ ?_ ?_ ?_ ?_ ⟨h0, ds, ty, _, hat, h2, (fun e => by cases e), (fun j hj => by simp only; omega), h5⟩
            · unfold World.freeze; rw [if_neg (by decide)]
            · unfold World.freeze; rw [if_neg (by decide)]
            · unfold World.freeze; rw [if_neg (by decide)]
            · unfold World.freeze; rw [if_neg (by decide)]; simp
            · intro b hb
              unfold World.freeze; rw [if_neg (by decide)]
              simp only [Array.getElem?_modify]
              rw [if_neg (fun e => hb e.symm)]
      · cases ha
    · cases ha
  · cases ha
theorem VR.shrink {x x' : Value} (h : VR π x x') {k n : Nat} (hl : lenOf? x = some n) (hk : k ≤ n) : VR π (shrink x k) (shrink x' k) := by
  cases h <;> first
    | (simp [lenOf?] at hl; done)
    | exact .string _
    | exact .slice0 _ _
    | (simp only [lenOf?, Option.some.injEq] at hl
       rename_i hL hc
       exact .slice hL (hc.imp (fun ⟨e1, e2, e3⟩ => ⟨e1, e2, by omega⟩) (fun ⟨q, e1, e2, e3, e4⟩ => ⟨q, e1, e2, e3, by omega⟩)))
    | (simp only [lenOf?, Option.some.injEq] at hl
       have : k = 0 := by omega
       subst this
       rename_i hc
       exact .sliceE hc)
theorem first_shrink {x : Value} {sz k n : Nat} (hl : lenOf? x = some n) (hk : k ≤ n) : Builtin.firstCells sz k (shrink x k) = Builtin.firstCells sz k x := by
  cases x <;> first
    | (simp [lenOf?] at hl; done)
    | (rename_i a b c; cases a <;> rfl)
    | (rename_i s
       simp only [shrink, Builtin.firstCells]
       congr 2
       have h1 : lb ((bl s).take k) = s.extract 0 k := by have := bl_extract s 0 k; simpa using this
       rw [h1, ByteArray.extract_extract]
       simp)
theorem lenOf_run {x x' : Value} (h : VR π x x') {n : Nat} (hl : lenOf? x = some n) : (Builtin.lenOf x').run P w = .ok n w ∧ lenOf? x' = some n := by
  cases h <;> simp [lenOf?] at hl <;> subst hl <;> simp [Builtin.lenOf, lenOf?, Sem.run_pure, bl_size]
theorem acopy_sound (ht : TOk P T) {h h' : AHeap} (hr : HR π N h.get h.next w) {nid ty : Nat} {ts : Array Nat} {d d' x x' v : Value} (ha : acopy T h ts.toList d x = some (v, h')) (hd : VR π d d') (hx : VR π x x') :
    ∃ v' w', (Builtin.copy_ ts ty #[d', x']).run P w = .ok v' w' ∧ VR π v v' ∧ Stp π N h.get h.next w π h'.get h'.next w' nid := by
  unfold acopy at ha
  split at ha
  · rename_i dt rest id o dlen dcap hts
    have h0 : ts[0]? = some dt := by rw [← Array.getElem?_toList, hts]; rfl
    have h1 : (#[d', x'] : Array Value)[0]? = some d' := rfl
    have h2 : (#[d', x'] : Array Value)[1]? = some x' := rfl
    split at ha
    · rename_i e _ _ _ hT
      obtain ⟨_, hk, _⟩ := ti_spec (ht.ti _ _ hT)
      have hu := und_slice hk
      split at ha
      · rename_i ei hTe
        split at ha
        · rename_i n hln
          split at ha
          · rename_i k news hsrc
            split at ha
            · rename_i h2' hput
              simp only [Option.some.injEq, Prod.mk.injEq] at ha
              obtain ⟨rfl, rfl⟩ := ha
              have hmin : Nat.min n dlen ≤ n := Nat.min_le_left _ _
              obtain ⟨hlen, us, hus, husz, hf⟩ := srcCells_sound (P := P) hr hsrc (hx.shrink hln hmin)
              obtain ⟨g1, g2⟩ := lenOf_run (P := P) (w := w) hx hln
              have hkk : k = Nat.min n dlen := by
                have := (lenOf_run (P := P) (w := w) (hx.shrink hln hmin) (n := Nat.min n dlen) (by cases x <;> simp_all [lenOf?, shrink, bl_lb])).1
                rw [hlen] at this; injection this
              subst hkk
              have hf1 := hf w rfl
              rw [first_shrink g2 hmin] at hf1
              obtain ⟨L, w', q1, q2, q3⟩ := aput_sound (P := P) hr hput hus nid
              obtain ⟨a', cap', rfl⟩ := hd.inv_slice
              have hst : (storeCells a' us.toList).run P w = .ok () w' := by
                cases hd with
                | slice hL hc =>
                  rw [hL] at q1; injection q1 with q1; subst q1
                  exact q2
                | sliceE hc =>
                  have : us.toList = [] := by
                    have : us.toList.length = 0 := by rw [Array.length_toList, husz]; simp
                    exact List.length_eq_zero_iff.1 this
                  rw [this] at q2 ⊢
                  exact q2
              refine ⟨_, w', ?_, .int _ _, q3⟩
              unfold Builtin.copy_
              simp only [h0, h1, h2, Sem.run_bind, run_under hu, Result.andThen, g1, run_size (ht.ti _ _ hTe), hf1, hst, Sem.run_pure, goInt]
            · cases ha
          · cases ha
        · cases ha
      · cases ha
    · cases ha
  · cases ha
end
end Go.Proofs.Ytffockklleanmaa.AM

/- Each operation of the machine is the program's. -/
namespace Go.Proofs.Ytffockklleanmaa.AM
open Go
variable [Tok]
set_option linter.unusedVariables false
set_option linter.unusedSectionVars false
set_option linter.unusedSimpArgs false
section
variable {P : Program} {T : Tr TI} {w : World} {π : Pi} {N : Nat}
theorem alen_sound (ht : TOk P T) {h : AHeap} {nx : Nat} (hr : HR π N h.get nx w) {t ty : Nat} {ts : Array Nat} (hts : ts[0]? = some t) {x x' v : Value} (ha : alen T h t x = some v) (hx : VR π x x') :
    ∃ v', (Builtin.len_ ts ty #[x']).run P w = .ok v' w ∧ VR π v v' := by
  unfold alen at ha
  split at ha
  · rename_i s hT
    obtain ⟨_, hk, _⟩ := ti_spec (ht.ti _ _ hT)
    cases hx
    simp only [Option.some.injEq] at ha; subst ha
    exact ⟨.int .i64 (s.size : Int), by simp [Builtin.len_, hts, run_under (und_string hk), goInt, Sem.run_pure], by rw [bl_size]; exact .int _ _⟩
  · rename_i hT
    obtain ⟨_, hk, _⟩ := ti_spec (ht.ti _ _ hT)
    simp only [Option.some.injEq] at ha; subst ha
    cases hx <;> exact ⟨_, by simp [Builtin.len_, hts, run_under (und_slice hk), goInt, Sem.run_pure], .int _ _⟩
  · rename_i n e _ _ _ hT
    obtain ⟨_, hk, _⟩ := ti_spec (ht.ti _ _ hT)
    simp only [Option.some.injEq] at ha; subst ha
    exact ⟨.int .i64 n, by simp [Builtin.len_, hts, run_under (und_array hk), goInt, Sem.run_pure], .int _ _⟩
  · rename_i hT
    obtain ⟨_, hk, _⟩ := ti_spec (ht.ti _ _ hT)
    cases hx
    simp only [Option.some.injEq] at ha; subst ha
    exact ⟨_, by simp [Builtin.len_, hts, run_under (und_map hk), goInt, Sem.run_pure], .int _ _⟩
  · rename_i id hT
    obtain ⟨_, hk, _⟩ := ti_spec (ht.ti _ _ hT)
    split at ha
    · rename_i l hg
      obtain ⟨L, es, c, g1, g0, g2, g3, g4⟩ := map_obj hr hg
      cases hx with
      | map hL =>
        rw [hL] at g1; injection g1 with g1; subst g1
        simp only [Option.some.injEq] at ha; subst ha
        have hl := g4.length
        refine ⟨.int .i64 (es.size : Int), by simp [Builtin.len_, hts, run_under (und_map hk), MapKept.run_getObj_map g2, goInt, Sem.run_pure], ?_⟩
        rw [hl]; simp only [Array.length_toList]; exact .int _ _
    · cases ha
  · cases ha
theorem aclear_sound (ht : TOk P T) {h h' : AHeap} (hr : HR π N h.get h.next w) {nid t ty : Nat} {ts : Array Nat} (hts : ts[0]? = some t) {d : TypeDesc} (hd : P.underlying t = some d) {x x' : Value} (ha : aclear T h t x = some h') (hx : VR π x x') :
    ∃ w', (Builtin.clear_ ts ty #[x']).run P w = .ok (.tuple #[]) w' ∧ Stp π N h.get h.next w π h'.get h'.next w' nid := by
  unfold aclear at ha
  split at ha
  · cases hx
    simp only [Option.some.injEq] at ha; subst ha
    exact ⟨w, by simp [Builtin.clear_, hts, run_under hd, Sem.run_pure], Stp.refl hr nid⟩
  · cases hx
    simp only [Option.some.injEq] at ha; subst ha
    exact ⟨w, by simp [Builtin.clear_, hts, run_under hd, Sem.run_pure], Stp.refl hr nid⟩
  · simp only [Option.some.injEq] at ha; subst ha
    cases hx <;> exact ⟨w, by simp [Builtin.clear_, hts, run_under hd, Sem.run_pure], Stp.refl hr nid⟩
  · rename_i id
    split at ha
    · rename_i l hg
      obtain ⟨L, es, c, g1, g0, g2, g3, g4⟩ := map_obj hr hg
      cases hx with
      | map hL =>
        rw [hL] at g1; injection g1 with g1; subst g1
        simp only [Option.some.injEq] at ha; subst ha
        exact ⟨_, by simp [Builtin.clear_, hts, run_under hd, MapKept.run_getObj_map g2, MapKept.run_setObj_map _ g2, Sem.run_pure], map_turn hr hg hL g0 g2 (MapKept.stamped_empty c) .nil nid⟩
    · cases ha
  · rename_i id o n cap hn
    split at ha
    · rename_i e _ _ _ hT
      obtain ⟨_, hk, _⟩ := ti_spec (ht.ti _ _ hT)
      have hu := und_slice hk
      split at ha
      · rename_i ei hTe
        have hze := run_zero (w := w) (ht.ti _ _ hTe)
        have hzv := VRs.reps (VR.cells (VR.of_pv (π := π) (ht.zero _ _ hTe))) n
        obtain ⟨L, w', q1, q2, q3⟩ := aput_sound (P := P) hr ha hzv nid
        have hz2 : (Builtin.zeroCells ei.zero.cells n).toList = reps ei.zero.cells.toList n := reps_array _ _
        cases hx with
        | slice hL hc =>
          rw [hL] at q1; injection q1 with q1; subst q1
          refine ⟨w', ?_, q3⟩
          have hn0 : n ≠ 0 := fun e => hn e
          obtain ⟨m, rfl⟩ : ∃ m, n = m + 1 := ⟨n - 1, by omega⟩
          simp [Builtin.clear_, hts, run_under hu, hze, hz2, q2, Sem.run_pure]
        | sliceE hc => exact absurd rfl hn
      · cases ha
    · cases ha
  · cases ha
theorem aminmax_sound {mx : Bool} : ∀ {r r' : List Value} {k : IntKind} {x : Int} {v : Value}, aminmax mx x k r = some v → VRs π r r' → (r'.foldlM (if mx then Builtin.max2 else Builtin.min2) (.int k x)).run P w = .ok v w ∧ VR π v v
  | [], _, k, x, v, h, .nil => by
    simp only [aminmax, Option.some.injEq] at h
    subst h
    exact ⟨by simp [Sem.run_pure], .int _ _⟩
  | y :: r, _, k, x, v, h, .cons hv ht => by
    unfold aminmax at h
    split at h
    · rename_i e; cases e
    · rename_i j y' r' e
      injection e with e1 e2; subst e1; subst e2
      cases hv
      have ih := aminmax_sound h ht
      cases mx
      · simp only [Bool.false_eq_true, if_false, cond_false, List.foldlM_cons, Sem.run_bind] at ih ⊢
        simp only [Builtin.min2, Sem.run_pure, Result.andThen]
        exact ih
      · simp only [if_true, cond_true, List.foldlM_cons, Sem.run_bind] at ih ⊢
        simp only [Builtin.max2, Sem.run_pure, Result.andThen]
        exact ih
    · cases h
/-- what an operation of the machine says of the program's -/
def OpOk (P : Program) (π : Pi) (N : Nat) (h : AHeap) (w : World) (nid : Nat) (s : Sem Next) (v : Value) (h' : AHeap) : Prop :=
  ∃ π' v' w', (s.run P w = .ok (.value v') w' ∨ (s.run P w = .ok .skip w' ∧ v' = undef)) ∧ VR π' v v' ∧ Stp π N h.get h.next w π' h'.get h'.next w' nid
theorem OpOk.plain {h : AHeap} (hr : HR π N h.get h.next w) {nid : Nat} {s : Sem Next} {v v' : Value} (hs : s.run P w = .ok (.value v') w) (hv : VR π v v') : OpOk P π N h w nid s v h :=
  ⟨π, v', w, .inl hs, hv, Stp.refl hr nid⟩
theorem abuiltin_sound (ht : TOk P T) {h h' : AHeap} (hr : HR π N h.get h.next w) {nid ty : Nat} (hnid : π nid = none) {b : Builtin} {ts : Array Nat} {args : List Value} {args' : Array Value} {cs : Array Bool} {v : Value}
    (ha : abuiltin T h nid b ts.toList args = some (v, h')) (hx : VRs π args args'.toList) : OpOk P π N h w nid (builtin b ts ty cs args') v h' := by
  have h2 : ∀ {x y : Value}, VRs π args args'.toList → args = [x, y] → ∃ x' y', args' = #[x', y'] ∧ VR π x x' ∧ VR π y y' := by
    intro x y hv e
    subst e
    rcases args' with ⟨l⟩
    cases hv with | cons a t => cases t with | cons b t => cases t; exact ⟨_, _, rfl, a, b⟩
  have h1 : ∀ {x : Value}, VRs π args args'.toList → args = [x] → ∃ x', args' = #[x'] ∧ VR π x x' := by
    intro x hv e
    subst e
    rcases args' with ⟨l⟩
    cases hv with | cons a t => cases t; exact ⟨_, rfl, a⟩
  unfold abuiltin at ha
  split at ha
  · obtain ⟨x', rfl, hxx⟩ := h1 hx rfl
    split at ha
    · rename_i t _ hts
      have hts0 : ts[0]? = some t := by rw [← Array.getElem?_toList, hts]; rfl
      split at ha
      · rename_i u hu
        simp only [Option.some.injEq, Prod.mk.injEq] at ha
        obtain ⟨rfl, rfl⟩ := ha
        obtain ⟨v', e1, e2⟩ := alen_sound (P := P) ht hr hts0 (ty := ty) hu hxx
        exact .plain hr (by simp [builtin, e1]) e2
      · cases ha
    · cases ha
  · obtain ⟨s', x', rfl, hss, hxx⟩ := h2 hx rfl
    obtain ⟨π', v', w', e1, e2, e3⟩ := aappend_sound (P := P) (ty := ty) ht hr hnid rfl ha hss hxx
    exact ⟨π', v', w', .inl (by simp [builtin, e1]), e2, e3⟩
  · obtain ⟨s', x', rfl, hss, hxx⟩ := h2 hx rfl
    obtain ⟨v', w', e1, e2, e3⟩ := acopy_sound (P := P) (ty := ty) (nid := nid) ht hr ha hss hxx
    exact ⟨π, v', w', .inl (by simp [builtin, e1]), e2, e3⟩
  · obtain ⟨s', x', rfl, hss, hxx⟩ := h2 hx rfl
    split at ha
    · rename_i t _ hts
      have hts0 : ts[0]? = some t := by rw [← Array.getElem?_toList, hts]; rfl
      split at ha
      · rename_i h2' hd
        simp only [Option.some.injEq, Prod.mk.injEq] at ha
        obtain ⟨rfl, rfl⟩ := ha
        obtain ⟨w', e1, e3⟩ := adelete_sound (P := P) (ty := ty) ht hr hts0 hd hss hxx nid
        exact ⟨π, _, w', .inl (by simp [builtin, e1]), .tuple .nil, e3⟩
      · cases ha
    · cases ha
  · obtain ⟨x', rfl, hxx⟩ := h1 hx rfl
    split at ha
    · rename_i t _ hts
      have hts0 : ts[0]? = some t := by rw [← Array.getElem?_toList, hts]; rfl
      split at ha
      · rename_i i h2' hTt hd
        simp only [Option.some.injEq, Prod.mk.injEq] at ha
        obtain ⟨rfl, rfl⟩ := ha
        obtain ⟨_, _, d, hdd⟩ := ti_spec (ht.ti _ _ hTt)
        obtain ⟨w', e1, e3⟩ := aclear_sound (P := P) (ty := ty) (nid := nid) ht hr hts0 hdd hd hxx
        exact ⟨π, _, w', .inl (by simp [builtin, e1]), .tuple .nil, e3⟩
      · cases ha
    · cases ha
  · rename_i k x r
    split at ha
    · rename_i u hu
      simp only [Option.some.injEq, Prod.mk.injEq] at ha
      obtain ⟨rfl, rfl⟩ := ha
      rcases args' with ⟨l⟩
      cases hx with
      | cons a t =>
        cases a
        obtain ⟨e1, e2⟩ := aminmax_sound (P := P) (w := w) hu t
        exact .plain hr (by simp only [builtin, Builtin.min_, Sem.run_bind]; simp only [Bool.false_eq_true, if_false] at e1; rw [e1]; rfl) e2
    · cases ha
  · rename_i k x r
    split at ha
    · rename_i u hu
      simp only [Option.some.injEq, Prod.mk.injEq] at ha
      obtain ⟨rfl, rfl⟩ := ha
      rcases args' with ⟨l⟩
      cases hx with
      | cons a t =>
        cases a
        obtain ⟨e1, e2⟩ := aminmax_sound (P := P) (w := w) hu t
        exact .plain hr (by simp only [builtin, Builtin.max_, Sem.run_bind]; simp only [if_true] at e1; rw [e1]; rfl) e2
    · cases ha
  · cases ha
end
end Go.Proofs.Ytffockklleanmaa.AM

/- All operations at once. -/
namespace Go.Proofs.Ytffockklleanmaa.AM
open Go
variable [Tok]
set_option linter.unusedVariables false
set_option linter.unusedSectionVars false
set_option linter.unusedSimpArgs false
section
variable {P : Program} {T : Tr TI} {w : World} {π : Pi} {N : Nat}
theorem VR.bool_inv {b : Bool} {u : Value} (h : VR π (.bool b) u) : u = .bool b := by cases h; rfl
theorem VRs.mapρ {α : Type} {f g : α → Value} : ∀ {l : List α}, (∀ x ∈ l, VR π (f x) (g x)) → VRs π (l.map f) (l.map g)
  | [], _ => .nil
  | x :: l, h => .cons (h x (.head _)) (VRs.mapρ fun y hy => h y (.tail _ hy))
theorem PRs.mapρ {ρ ρ' : Operand → Value} : ∀ {l : List (Nat × Operand)}, (∀ p ∈ l, VR π (ρ p.2) (ρ' p.2)) → PRs π (l.map fun p => (p.1, ρ p.2)) (l.map fun p => (p.1, ρ' p.2))
  | [], _ => .nil
  | x :: l, h => .cons (h x (.head _)) (PRs.mapρ fun y hy => h y (.tail _ hy))
theorem ovr_map {ρ ρ' : Operand → Value} {o : Option Operand} (h : ∀ x, o = some x → VR π (ρ x) (ρ' x)) : OVR π (o.map ρ) (o.map ρ') := by
  cases o with
  | none => exact .none
  | some x => exact .some (h x rfl)
theorem aneu_sound {h h' : AHeap} (hr : HR π N h.get h.next w) {nid : Nat} (hnid : π nid = none) {x x' v : Value} (ha : aneu h nid x = some (v, h')) (hx : VR π x x') (e : Nat) :
    ∃ π' v' w', (newVar e x').run P w = .ok ⟨w.heap.size, 0, none⟩ w' ∧ v' = .pointer (some ⟨w.heap.size, 0, none⟩) ∧ VR π' v v' ∧ Stp π N h.get h.next w π' h'.get h'.next w' nid := by
  unfold aneu at ha
  cases ho : ones x.cells.toList with
  | false => rw [ho, cond_false] at ha; cases ha
  | true =>
    rw [ho, cond_true] at ha
    simp only [Option.some.injEq, Prod.mk.injEq] at ha
    obtain ⟨rfl, rfl⟩ := ha
    obtain ⟨π', hs, rfl⟩ := new_row hr hnid hx.cells e
    exact ⟨_, _, _, by simp [newVar, newRow], rfl, vr_new π nid _ _, hs⟩
theorem wrap_small {n : Int} (h0 : 0 ≤ n) (h1 : n ≤ 281474976710656) : IntKind.i64.wrap n = n := by
  have e1 : IntKind.i64.bits = 64 := rfl
  have e2 : IntKind.i64.signed = true := rfl
  unfold IntKind.wrap
  simp only [e1, e2, Bool.true_and]
  have h2 : n % 2 ^ 64 = n := Int.emod_eq_of_lt h0 (by omega)
  rw [h2]
  have h3 : decide (n ≥ 2 ^ (64 - 1)) = false := decide_eq_false (by omega)
  rw [h3]; rfl
theorem nat_of {v u : Value} {n : Nat} (h : nat? v = some n) (hv : VR π v u) : ∃ k, u = .int k (n : Int) := by
  obtain ⟨k, i, h1, h2, h3⟩ := nat_some h hv
  exact ⟨k, by rw [h1]; congr 1; omega⟩
theorem makeSlice_run {t e l c : Nat} {kl kc : IntKind} {i : TI} (hu : P.underlying t = some (.slice e)) (hti : tiOf P e = some i) (hz : i.zero.cells.size = i.size) (hlc : l ≤ c) (hb : c * (i.bytes + 1) ≤ 281474976710656) :
    (Instr.makeSlice t (.int kl (l : Int)) (.int kc (c : Int))).run P w = .ok (.slice (some ⟨w.heap.size, 0, none⟩) l c) (w.alloc (.cells ((Array.range (c * i.size)).map (i.zero.cells[· % i.zero.cells.size]!)) e)) := by
  obtain ⟨inf, h1, h2, h3⟩ := run_info (w := w) hti
  have hc : c ≤ 281474976710656 := by
    have : c * 1 ≤ c * (i.bytes + 1) := Nat.mul_le_mul_left _ (by omega)
    omega
  have hcb : c * i.bytes ≤ 281474976710656 := Nat.le_trans (Nat.mul_le_mul_left _ (by omega)) hb
  have wl := wrap_small (n := (l : Int)) (by omega) (by omega)
  have wc := wrap_small (n := (c : Int)) (by omega) (by omega)
  have hbig : ¬ ((inf.bytes : Int) * (c : Int) > 2 ^ 48) := by
    rw [h3]
    have : ((i.bytes * c : Nat) : Int) ≤ 281474976710656 := by rw [Nat.mul_comm]; omega
    rw [Int.natCast_mul] at this
    omega
  have hs := run_size (w := w) hti
  have hzr := run_zero (w := w) hti
  have hlast : (do let zero ← if c * i.size = 0 then pure #[] else do pure (← zeroValue e).cells
                   let a ← newRow e ((Array.range (c * i.size)).map (zero[· % zero.size]!))
                   pure (.slice (some a) l c) : Sem Value).run P w = .ok (.slice (some ⟨w.heap.size, 0, none⟩) l c) (w.alloc (.cells ((Array.range (c * i.size)).map (i.zero.cells[· % i.zero.cells.size]!)) e)) := by
    by_cases h0 : c * i.size = 0
    · have hr0 : ∀ f : Nat → Value, Array.map f (Array.range 0) = #[] := fun f => by simp [Array.range]
      rw [if_pos h0, h0]
      simp [newRow, hr0, Sem.run_pure]
    · rw [if_neg h0]
      simp [newRow, hzr, Sem.run_pure]
  unfold Instr.makeSlice
  simp only [Sem.run_bind, run_under hu, Result.andThen, asInt, asIntOf, Sem.run_pure, h1, wl, wc]
  have hneg : ¬ ((c : Int) < 0) := by omega
  have hneg2 : ¬ ((l : Int) < 0) := by omega
  have hlc' : ¬ ((l : Int) > (c : Int)) := by omega
  have hcond : ((decide ((c : Int) < 0) || decide ((inf.bytes : Int) * (c : Int) > 2 ^ 48)) = true ∨ (l : Int) < 0) ∨ (l : Int) > c ↔ False := by
    simp only [decide_eq_false hneg, decide_eq_false hbig, Bool.or_self]
    constructor
    · rintro ((h | h) | h)
      · cases h
      · exact hneg2 h
      · exact hlc' h
    · exact False.elim
  rw [if_neg (by simpa using hcond)]
  simp only [Sem.run_bind, run_askRoom, Result.andThen, hs, Int.toNat_natCast]
  have := hlast
  simp only [Sem.run_bind, Result.andThen] at this
  exact this
theorem aop_sound (ht : TOk P T) {h h' : AHeap} (hr : HR π N h.get h.next w) {nid : Nat} (hnid : π nid = none) {ρ ρ' : Operand → Value} {o : Oper} {v : Value} (ha : aop T ρ h nid o.op = some (v, h')) (hρ : ∀ x ∈ o.op.operands, VR π (ρ x) (ρ' x)) :
    OpOk P π N h w nid (execOp ρ' o) v h' := by
  unfold aop at ha
  simp only at ha
  unfold execOp
  have lv : ∀ {r : Option Value}, (match r with | some x => some (x, h) | none => none) = some (v, h') → r = some v ∧ h' = h := by
    intro r hr
    cases r with
    | none => cases hr
    | some x => simp only [Option.some.injEq, Prod.mk.injEq] at hr; exact ⟨by rw [hr.1], hr.2.symm⟩
  have lu : ∀ {r : Option AHeap}, (match r with | some x => some (undef, x) | none => none) = some (v, h') → r = some h' ∧ v = undef := by
    intro r hr
    cases r with
    | none => cases hr
    | some x => simp only [Option.some.injEq, Prod.mk.injEq] at hr; exact ⟨by rw [hr.2], hr.1.symm⟩
  generalize o.op = op at *
  split at ha
  · rename_i x
    simp only [Option.some.injEq, Prod.mk.injEq] at ha
    obtain ⟨rfl, rfl⟩ := ha
    exact .plain hr rfl (hρ x (by simp [Op.operands]))
  · rename_i x
    simp only [Option.some.injEq, Prod.mk.injEq] at ha
    obtain ⟨rfl, rfl⟩ := ha
    exact .plain hr rfl (hρ x (by simp [Op.operands]))
  · rename_i c a b
    have hc := hρ c (by simp [Op.operands])
    split at ha
    · rename_i e
      rw [e] at hc
      simp only [Option.some.injEq, Prod.mk.injEq] at ha
      obtain ⟨rfl, rfl⟩ := ha
      have e2 : ρ' c = .bool true := hc.bool_inv
      exact .plain hr (by simp [e2, asBool, Sem.run_pure]) (hρ a (by simp [Op.operands]))
    · rename_i e
      rw [e] at hc
      simp only [Option.some.injEq, Prod.mk.injEq] at ha
      obtain ⟨rfl, rfl⟩ := ha
      have e2 : ρ' c = .bool false := hc.bool_inv
      exact .plain hr (by simp [e2, asBool, Sem.run_pure]) (hρ b (by simp [Op.operands]))
    · cases ha
  · rename_i e
    split at ha
    · rename_i i hT
      obtain ⟨π', v', w', e1, e2, e3, e4⟩ := aneu_sound (P := P) hr hnid ha (VR.of_pv (ht.zero _ _ hT)) e
      exact ⟨π', v', w', .inl (by simp [Instr.alloc, run_zero (ht.ti _ _ hT), e1, e2]), e3, e4⟩
    · cases ha
  · rename_i e x
    obtain ⟨π', v', w', e1, e2, e3, e4⟩ := aneu_sound (P := P) hr hnid ha (hρ x (by simp [Op.operands])) e
    exact ⟨π', v', w', .inl (by simp [Instr.box, e1, e2]), e3, e4⟩
  · rename_i t ps
    obtain ⟨h1, rfl⟩ := lv ha
    obtain ⟨v', e1, e2⟩ := abuild_sound (P := P) (w := w) (parts' := ps.map fun (i, x) => (i, ρ' x)) ht h1 (by rw [Array.toList_map]; exact PRs.mapρ fun p hp => hρ p.2 (by simp only [Op.operands, List.mem_toArray, List.mem_map]; exact ⟨p, hp, rfl⟩))
    exact .plain hr (by simp [e1]) e2
  · rename_i t len ps
    obtain ⟨π', v', w', e1, e2, e3⟩ := abuildSlice_sound (P := P) (parts' := ps.map fun (i, x) => (i, ρ' x)) ht hr hnid ha (by rw [Array.toList_map]; exact PRs.mapρ fun p hp => hρ p.2 (by simp only [Op.operands, List.mem_toArray, List.mem_map]; exact ⟨p, hp, rfl⟩))
    exact ⟨π', v', w', .inl (by simp [e1]), e2, e3⟩
  · rename_i t a
    obtain ⟨h1, rfl⟩ := lv ha
    obtain ⟨v', e1, e2⟩ := aload_sound (P := P) (t := t) ht hr h1 (hρ a (by simp [Op.operands]))
    exact .plain hr (by simp [e1]) e2
  · rename_i t a x
    obtain ⟨h1, rfl⟩ := lu ha
    obtain ⟨w', e1, e2⟩ := astore_sound (P := P) (t := t) ht hr h1 (hρ a (by simp [Op.operands])) (hρ x (by simp [Op.operands])) nid
    exact ⟨π, undef, w', .inr ⟨by simp [e1], rfl⟩, VR.undef, e2⟩
  · rename_i x
    have hx := hρ x (by simp [Op.operands])
    split at ha
    · cases ha
    · cases ha
    · cases ha
    · cases ha
    · cases ha
    · rename_i n1 n2 n3 n4 n5
      simp only [Option.some.injEq, Prod.mk.injEq] at ha
      obtain ⟨rfl, rfl⟩ := ha
      refine .plain (v' := ρ' x) hr ?_ hx
      dsimp only
      generalize ρ x = y at *
      generalize ρ' x = y' at *
      cases hx with
      | nilP => exact (n1 rfl).elim
      | nilIface => exact (n2 rfl).elim
      | nilFunc => exact (n3 rfl).elim
      | func h1 h2 =>
        rename_i fn _ _ _ _
        cases fn <;> first | rfl | exact (n4 _ _ _ rfl).elim
      | tok i => exact (n5 _ rfl).elim
      | junk hu _ => exact (n5 _ rfl).elim
      | _ => rfl
  · rename_i op t x y yt
    obtain ⟨h1, rfl⟩ := lv ha
    obtain ⟨v', e1, e2⟩ := abin_sound (P := P) ht hr x y h1 (hρ x (by simp [Op.operands])) (hρ y (by simp [Op.operands]))
    exact .plain hr (by simp only [Sem.run_bind] at e1 ⊢; rw [e1]; rfl) e2
  · rename_i op t x
    obtain ⟨h1, rfl⟩ := lv ha
    obtain ⟨v', e1, e2⟩ := aun_sound (P := P) (w := w) h1 (hρ x (by simp [Op.operands]))
    exact .plain hr (by simp [e1]) e2
  · rename_i s d x
    obtain ⟨π', v', w', e1, e2, e3⟩ := aconv_sound (P := P) ht hr hnid ha (hρ x (by simp [Op.operands]))
    exact ⟨π', v', w', .inl (by simp [e1]), e2, e3⟩
  · rename_i t x
    split at ha
    · cases ha
    · rename_i i hni hT
      simp only [Option.some.injEq, Prod.mk.injEq] at ha
      obtain ⟨rfl, rfl⟩ := ha
      obtain ⟨_, hk, d, hd⟩ := ti_spec (ht.ti _ _ hT)
      refine .plain (v' := .iface t (ρ' x)) hr ?_ (.iface (hρ x (by simp [Op.operands])))
      simp only [Instr.makeInterface, Sem.run_bind, run_under hd, Result.andThen]
      cases d <;> first
        | rfl
        | (exfalso
           have : i.k = .iface := by rw [← hk]; unfold tkOf; rw [hd]
           cases i; simp only at this; subst this; exact hni _ _ _ rfl)
    · cases ha
  · rename_i fn first cap
    simp only [Option.some.injEq, Prod.mk.injEq] at ha
    obtain ⟨rfl, rfl⟩ := ha
    refine .plain (v' := .func fn (first.map ρ') (cap.map ρ')) hr (by simp [Instr.makeFunc, Sem.run_pure]) (.func ?_ ?_)
    · rw [Array.toList_map, Array.toList_map]; exact VRs.mapρ fun x hx => hρ x (by simp [Op.operands]; exact .inl (by simpa using hx))
    · rw [Array.toList_map, Array.toList_map]; exact VRs.mapρ fun x hx => hρ x (by simp [Op.operands]; exact .inr (by simpa using hx))
  · rename_i t
    simp only [Option.some.injEq, Prod.mk.injEq] at ha
    obtain ⟨rfl, rfl⟩ := ha
    have e : (w.alloc (.map #[] 0)).heap = w.heap.push (.map #[] 0) := rfl
    refine ⟨π.put nid ⟨w.heap.size, 0, 0⟩, .map (some w.heap.size), w.alloc (.map #[] 0), .inl (by simp [Instr.makeMap, Sem.run_pure]), .map (put_self π nid ⟨w.heap.size, 0, 0⟩), ?_⟩
    rw [get_new, next_new]
    exact Stp.alloc hr hnid rfl rfl rfl rfl (by rw [e]; simp) (fun b hb => by rw [e]; simp [Array.getElem?_push, Nat.ne_of_lt hb]) ⟨hr.base.le, #[], 0, by rw [e]; simp, MapKept.stamped_empty 0, .nil⟩
  · rename_i t l c
    split at ha
    · rename_i e _ _ _ ln cn hT hl hc
      split at ha
      · rename_i i hTe
        rw [bled, bled, beqd] at ha
        by_cases hb : (ln ≤ cn ∧ cn * (i.bytes + 1) ≤ 281474976710656) ∧ i.zero.cells.toList.length = i.size
        · have hb' : (decide (ln ≤ cn) && decide (cn * (i.bytes + 1) ≤ 281474976710656) && decide (i.zero.cells.toList.length = i.size)) = true := by simp only [Bool.and_eq_true, decide_eq_true_eq]; exact hb
          rw [hb', cond_true] at ha
          simp only [Option.some.injEq, Prod.mk.injEq] at ha
          obtain ⟨rfl, rfl⟩ := ha
          obtain ⟨_, hk, _⟩ := ti_spec (ht.ti _ _ hT)
          obtain ⟨kl, el⟩ := nat_of hl (hρ l (by simp [Op.operands]))
          obtain ⟨kc, ec⟩ := nat_of hc (hρ c (by simp [Op.operands]))
          have hzs : i.zero.cells.size = i.size := by simpa using hb.2
          have hrun := makeSlice_run (P := P) (w := w) (kl := kl) (kc := kc) (und_slice hk) (ht.ti _ _ hTe) hzs hb.1.1 hb.1.2
          have hzv : VRs π (reps i.zero.cells.toList cn) ((Array.range (cn * i.size)).map (i.zero.cells[· % i.zero.cells.size]!)).toList := by
            rw [← hzs, reps_array]
            exact VRs.reps (VR.cells (VR.of_pv (π := π) (ht.zero _ _ hTe))) cn
          obtain ⟨π', hs, rfl⟩ := new_row hr hnid hzv e
          have hcn : cn < CAPX := by
            have : cn * 1 ≤ cn * (i.bytes + 1) := Nat.mul_le_mul_left _ (by omega)
            have := hb.1.2
            unfold CAPX; omega
          exact ⟨_, _, _, .inl (by simp only [el, ec, Sem.run_bind, hrun, Result.andThen]; rfl), vr_slice_new π nid _ _ ln cn hcn hb.1.1, hs⟩
        · have hb' : (decide (ln ≤ cn) && decide (cn * (i.bytes + 1) ≤ 281474976710656) && decide (i.zero.cells.toList.length = i.size)) = false := by
            rw [Bool.eq_false_iff]; intro e; simp only [Bool.and_eq_true, decide_eq_true_eq] at e; exact hb e
          rw [hb', cond_false] at ha; cases ha
      · cases ha
    · cases ha
  · rename_i t x lo hi mx
    obtain ⟨h1, rfl⟩ := lv ha
    obtain ⟨v', e1, e2⟩ := aslice_sound (P := P) ht hr h1 (hρ x (by simp [Op.operands])) (ovr_map fun y hy => hρ y (by simp [Op.operands, hy])) (ovr_map fun y hy => hρ y (by simp [Op.operands, hy])) (ovr_map fun y hy => hρ y (by simp [Op.operands, hy]))
    exact .plain hr (by simp [e1]) e2
  · rename_i s x f
    obtain ⟨h1, rfl⟩ := lv ha
    obtain ⟨v', e1, e2⟩ := afieldAddr_sound (P := P) (w := w) ht h1 (hρ x (by simp [Op.operands]))
    exact .plain hr (by simp [e1]) e2
  · rename_i s x f
    obtain ⟨h1, rfl⟩ := lv ha
    obtain ⟨v', e1, e2⟩ := afield_sound (P := P) (w := w) ht h1 (hρ x (by simp [Op.operands]))
    exact .plain hr (by simp [e1]) e2
  · rename_i t x i
    obtain ⟨h1, rfl⟩ := lv ha
    obtain ⟨v', e1, e2⟩ := aindexAddr_sound (P := P) (w := w) ht h1 (hρ x (by simp [Op.operands])) (hρ i (by simp [Op.operands]))
    exact .plain hr (by simp [e1]) e2
  · rename_i t x i
    obtain ⟨h1, rfl⟩ := lv ha
    obtain ⟨v', e1, e2⟩ := aindex_sound (P := P) (w := w) ht h1 (hρ x (by simp [Op.operands])) (hρ i (by simp [Op.operands]))
    exact .plain hr (by simp [e1]) e2
  · rename_i t m k ok
    obtain ⟨h1, rfl⟩ := lv ha
    obtain ⟨v', e1, e2⟩ := alookup_sound (P := P) ht hr h1 (hρ m (by simp [Op.operands])) (hρ k (by simp [Op.operands]))
    exact .plain hr (by simp [e1]) e2
  · rename_i t m k x
    obtain ⟨h1, rfl⟩ := lu ha
    obtain ⟨w', e1, e2⟩ := amapUpdate_sound (P := P) ht hr h1 (hρ m (by simp [Op.operands])) (hρ k (by simp [Op.operands])) (hρ x (by simp [Op.operands])) nid
    exact ⟨π, undef, w', .inr ⟨by simp [e1], rfl⟩, VR.undef, e2⟩
  · rename_i t m k x
    obtain ⟨h1, rfl⟩ := lu ha
    obtain ⟨w', e1, e2⟩ := amapUpdate_sound (P := P) ht hr h1 (hρ m (by simp [Op.operands])) (hρ k (by simp [Op.operands])) (hρ x (by simp [Op.operands])) nid
    exact ⟨π, undef, w', .inr ⟨by simp [e1], rfl⟩, VR.undef, e2⟩
  · rename_i x i
    have hx := hρ x (by simp [Op.operands])
    dsimp only
    split at ha
    · rename_i vs e
      obtain ⟨h1, rfl⟩ := lv ha
      rw [e] at hx
      generalize ρ' x = y' at *
      cases hx with
      | tuple hxs =>
        rename_i ds
        obtain ⟨u, e1, e2⟩ := hxs.get _ _ h1
        have e1' : ds[i]? = some u := by simpa using e1
        exact .plain hr (by simp [Instr.extract, e1', Sem.run_pure]) e2
    · cases ha
  · rename_i x xt t ok
    have hx := hρ x (by simp [Op.operands])
    dsimp only
    split at ha
    · cases ha
    · rename_i i u y hni hT e
      rw [e] at hx
      obtain ⟨_, hk, d, hd⟩ := ti_spec (ht.ti _ _ hT)
      have hdi : ∀ m, d ≠ .interface m := by
        intro m hm
        subst hm
        have : i.k = .iface := by rw [← hk]; unfold tkOf; rw [hd]
        cases i; simp only at this; subst this; exact hni _ _ _ rfl
      generalize ρ' x = y' at *
      cases hx with
      | iface hy =>
        rename_i y2
        split at ha
        · rename_i hut
          subst hut
          simp only [Option.some.injEq, Prod.mk.injEq] at ha
          obtain ⟨rfl, rfl⟩ := ha
          cases ok
          · refine .plain (v' := y2) hr ?_ hy
            simp only [Instr.typeAssert, Sem.run_bind, run_under hd, Result.andThen]
            cases d <;> first | (simp [Sem.run_pure]; done) | exact absurd rfl (hdi _)
          · refine .plain (v' := .tuple #[y2, .bool true]) hr ?_ (.tuple (.cons hy (.cons (.bool _) .nil)))
            simp only [Instr.typeAssert, Sem.run_bind, run_under hd, Result.andThen]
            cases d <;> first | (simp [Sem.run_pure]; done) | exact absurd rfl (hdi _)
        · rename_i hut
          cases ok
          · cases ha
          · simp only [cond_true, Option.some.injEq, Prod.mk.injEq] at ha
            obtain ⟨rfl, rfl⟩ := ha
            refine .plain (v' := .tuple #[i.zero, .bool false]) hr ?_ (.tuple (.cons (.of_pv (ht.zero _ _ hT)) (.cons (.bool _) .nil)))
            simp only [Instr.typeAssert, Sem.run_bind, run_under hd, Result.andThen]
            cases d <;> first | (simp [hut, run_zero (ht.ti _ _ hT), Sem.run_pure]; done) | exact absurd rfl (hdi _)
    · cases ha
  · rename_i t x
    have hx := hρ x (by simp [Op.operands])
    dsimp only
    split at ha
    · rename_i s hT e
      rw [e] at hx
      obtain ⟨_, hk, _⟩ := ti_spec (ht.ti _ _ hT)
      simp only [Option.some.injEq, Prod.mk.injEq] at ha
      obtain ⟨rfl, rfl⟩ := ha
      generalize ρ' x = y' at *
      cases hx
      have e : (w.alloc (.stringIter s 0)).heap = w.heap.push (.stringIter s 0) := rfl
      refine ⟨π.put nid ⟨w.heap.size, 0, 0⟩, .pointer (some ⟨w.heap.size, 0, none⟩), w.alloc (.stringIter s 0), .inl (by simp [Instr.range, run_under (und_string hk), Sem.run_pure]), vr_new π nid _ _, ?_⟩
      rw [get_new, next_new]
      exact Stp.alloc hr hnid rfl rfl rfl rfl (by rw [e]; simp) (fun b hb => by rw [e]; simp [Array.getElem?_push, Nat.ne_of_lt hb]) ⟨hr.base.le, rfl, by rw [e]; simp⟩
    · cases ha
  · rename_i it
    have hx := hρ it (by simp [Op.operands])
    dsimp only
    split at ha
    · rename_i r e
      rw [e] at hx
      split at ha
      · rename_i s pos hg
        obtain ⟨L', h1, h0, hd0, h2⟩ := hr.obj r _ hg
        generalize ρ' it = y' at *
        cases hx with
        | ptr hL =>
          rename_i L
          rw [hL] at h1; injection h1 with h1; subst h1
          have hgo : (getObj L.b).run P w = .ok (.stringIter s pos) w := by simp [getObj, Sem.run, h2]
          rw [bltd] at ha
          by_cases hp : pos < (bl s).length
          · rw [decide_eq_true hp, cond_true] at ha
            simp only [Option.some.injEq, Prod.mk.injEq] at ha
            obtain ⟨rfl, rfl⟩ := ha
            rw [bl_size] at hp
            have hso : (setObj L.b (.stringIter s (pos + (Utf8.decode s pos).2))).run P w = .ok () { w with heap := w.heap.setIfInBounds L.b (.stringIter s (pos + (Utf8.decode s pos).2)) } := by simp [setObj, Sem.run, h2]
            refine ⟨π, .tuple #[.bool true, .int .i64 pos, .int .i32 (Utf8.decode s pos).1], { w with heap := w.heap.setIfInBounds L.b (.stringIter s (pos + (Utf8.decode s pos).2)) }, .inl ?_, .tuple (.cons (.bool _) (.cons (.int _ _) (.cons (.int _ _) .nil))), ?_⟩
            · simp [Instr.next, hd0, hgo, hp, hso, goInt, Sem.run_pure]
            · rw [get_set]
              exact Stp.turn hr hg rfl rfl hL rfl rfl rfl (by simp) (fun b hb => (MapKept.heap_set h2).2 b hb) ⟨h0, hd0, (MapKept.heap_set h2).1⟩
          · rw [decide_eq_false hp, cond_false] at ha
            simp only [Option.some.injEq, Prod.mk.injEq] at ha
            obtain ⟨rfl, rfl⟩ := ha
            rw [bl_size] at hp
            refine .plain (v' := .tuple #[.bool false]) hr ?_ (.tuple (.cons (.bool _) .nil))
            simp [Instr.next, hd0, hgo, hp, Sem.run_pure]
      · cases ha
    · cases ha
  · cases ha
end
end Go.Proofs.Ytffockklleanmaa.AM

/- A range over a function whose rounds come in a known order: the law of the walk, by numbers. -/
namespace Go.Proofs.Ytffockklleanmaa.AM
open Go Go.RowKit
set_option linter.unusedVariables false
/-- what abides the turn of a loop's record, or of a mark's block, that lies at or beyond B -/
def OwnLD {β : Type} (B : Nat) (I : β → World → Prop) : Prop :=
  ∀ s W W' row, I s W → W.grownBy W' row → (∀ r, row = some r → B ≤ r ∧ ∃ q, W.heap[r]? = some (.loop q)) → I s W'
theorem OwnLD.loop {β : Type} {B : Nat} {I : β → World → Prop} (h : OwnLD B I) {s : β} {W : World} {l : Nat} {q : Loop} (o' : Obj) (hs : I s W) (hB : B ≤ l) (hl : W.heap[l]? = some (.loop q)) : I s (W.putObj l o') :=
  h s W _ (some l) hs (grownBy_putObj' W l o') (fun r e => by cases e; exact ⟨hB, q, hl⟩)
theorem OwnLD.alloc {β : Type} {B : Nat} {I : β → World → Prop} (h : OwnLD B I) {s : β} {W : World} (o : Obj) (hs : I s W) : I s (W.alloc o) :=
  h s W _ none hs (World.grownBy_alloc W o none) (fun r e => by cases e)
/-- loops' records and marks at or beyond B lie as they lay -/
structure KeepsLD (B : Nat) (W W' : World) : Prop where
  size : W.heap.size ≤ W'.heap.size
  loop : ∀ (k : Nat) (q : Loop), B ≤ k → W.heap[k]? = some (.loop q) → W'.heap[k]? = some (.loop q)
  mark : ∀ (k : Nat) (d : Option (List Deferred)), B ≤ k → W.heap[k]? = some (.deferred d) → W'.heap[k]? = some (.deferred d)
/-- the ways in which a round may be left -/
def rfPost (B : Nat) (I : Nat → World → Prop) (Ix : Code → Nat → World → Prop) (k : Nat) (W : World) : Exit → Act → World → Prop
  | .normal, _, W' => KeepsLD B W W' ∧ I (k + 1) W'
  | .ret, _, W' => KeepsLD B W W' ∧ Ix .ret k W'
  | .exit id, _, W' => KeepsLD B W W' ∧ Ix (.exit id) k W'
  | _, _, _ => False
/-- an iterator whose rounds come in a known order: what it reads lies as Hold says -/
def SeqK (F : Fence) (n : Nat) (P : Program) (gf : Nat) (lb : Array Value) (enc : Nat → Array Value) (Hold : World → Prop) (N : Nat) : Prop :=
  ∀ (l : Nat) (J Jx : Nat → World → Prop) (W : World), (∀ k W1, (k < N ∨ k = 0) → J k W1 → Hold W1) →
    (∀ k W1, k < N → J k W1 → YieldAt F (n - 1) P l (enc k) W1 fun e W' => (e = .returned (.bool true) ∧ J (k + 1) W') ∨ (e = .returned (.bool false) ∧ Jx k W')) → J 0 W →
    CallsIn F n P gf (#[.func (.yield l) #[] #[]] ++ lb) W fun e W' => (∃ v, e = .returned v) ∧ (J N W' ∨ ∃ k, k < N ∧ Jx k W')
section
variable {F : Fence} {n : Nat} {P : Program}
theorem wpIn_rangeFunc_k {g : Operand} {ps : Array Tmp} {assign body : Code} {Q : Exit → Act → World → Prop} {a : Act} {w : World}
    (hro : F.round = none) (hdep : F.depth.isSome = true → 1 ≤ n) {gf : Nat} {lb : Array Value} (hg : a.eval g = .func (.func gf) #[] lb) (hFg : F.fn gf) (eg : ∀ args w, (callFunc gf args).run P w = .ok (.enter gf args) w)
    {enc : Nat → Array Value} {Hold : World → Prop} {N : Nat} (hseq : SeqK F (n - 1) P gf lb enc Hold N) (hps : ∀ k, (enc k).size = ps.size)
    (I : Nat → World → Prop) (Ix : Code → Nat → World → Prop) (A : Nat → Act → World → Prop) (hI : OwnLD w.heap.size I) (hIx : ∀ c, OwnLD w.heap.size (Ix c)) (hA : ∀ k a', OwnLD w.heap.size (fun (_ : Unit) W => A k a' W)) (hH : ∀ k W, (k < N ∨ k = 0) → I k W → Hold W) (h0 : I 0 w)
    (hassign : ∀ (l k : Nat) (W : World), k < N → I k W → assign.wpIn (F.inRound l) (n - 1 - 1) P (Exit.then (fun a' W' => KeepsLD w.heap.size W W' ∧ A k a' W') (fun _ _ _ => False)) { tmps := (ps.zip (enc k)).foldl (fun t (p, v) => t.setIfInBounds p v) a.tmps, defers := [] } W)
    (hbody : ∀ (l k : Nat) (a' : Act) (W : World), k < N → A k a' W → body.wpIn (F.inRound l) (n - 1 - 1) P (rfPost w.heap.size I Ix k W) a' W)
    (hdone : ∀ (D : Nat) (W : World), w.heap.size ≤ D → I N W → W.heap[D]? = some (.deferred (some [])) → Q .normal { a with defers := { target := .collected D, args := #[] } :: a.defers } W)
    (hstop : ∀ (D : Nat) (c : Code) (k : Nat) (W : World), w.heap.size ≤ D → k < N → Ix c k W → W.heap[D]? = some (.deferred (some [])) → c.wpIn F n P Q { a with defers := { target := .collected D, args := #[] } :: a.defers } W) :
    (Code.rangeFunc g ps assign body).wpIn F n P Q a w := by
  refine wpIn_rangeFunc ?_
  intro fn hfn
  rw [hro]
  obtain ⟨rec, hrec⟩ : ∃ rec : LoopState → Option Code → Loop, rec = fun st pe => { state := st, pending := pe, fn, tmps := a.tmps, params := ps, assign, body, defers := w.heap.size } := ⟨_, rfl⟩
  obtain ⟨W1, hW1⟩ : ∃ W1, (w.alloc (.deferred (some []))).alloc (.loop (rec .ready none)) = W1 := ⟨_, rfl⟩
  have hL1 : W1.heap[w.heap.size + 1]? = some (.loop (rec .ready none)) := by
    rw [← hW1]; have := World.alloc_heap_new (w.alloc (.deferred (some []))) (.loop (rec .ready none)); rwa [World.size_alloc] at this
  have hK1 : W1.heap[w.heap.size]? = some (.deferred (some [])) := by
    rw [← hW1]; exact (Below.heap_alloc _ _ _ (by simp)).trans (World.alloc_heap_new w _)
  have hI1 : I 0 W1 := by rw [← hW1]; exact hI.alloc _ (hI.alloc _ h0)
  refine ⟨w.heap.size + 1, [{ target := .collected w.heap.size, args := #[] }], W1, { target := .fn (.func gf) lb, args := #[.func (.yield (w.heap.size + 1)) #[] #[]] }, W1, gf,
    #[.func (.yield (w.heap.size + 1)) #[] #[]] ++ lb, W1, ?_, ?_, ?_, ?_, hdep, ?_⟩
  · rw [← hW1, hrec]; exact run_enterLoop_outer _ _ _ _ _
  · simp only [resolve, hg]
    simp [go_sem]
  · intro f' hf'; simp [Target.leads] at hf'; subst hf'; exact hFg
  · simp [invoke, go_sem, eg]
  · refine (hseq (w.heap.size + 1)
      (fun k W => I k W ∧ W.heap[w.heap.size + 1]? = some (.loop (rec .ready none)) ∧ W.heap[w.heap.size]? = some (.deferred (some [])))
      (fun k W => ∃ c, Ix c k W ∧ W.heap[w.heap.size + 1]? = some (.loop (rec .done (some c))) ∧ W.heap[w.heap.size]? = some (.deferred (some [])))
      W1 (fun k W hk h => hH k W hk h.1) ?_ ⟨hI1, hL1, hK1⟩).mono ?_
    · rintro k W hlen ⟨hi, hl, hk⟩
      have hlt : w.heap.size + 1 < W.heap.size := (Array.getElem?_eq_some_iff.1 hl).1
      have hy := run_yield (P := P) (args := enc k) hl (by rw [hrec]; exact hps k)
      rw [hrec] at hy
      refine ⟨fn, _, assign, body, hy, roundIn_of_wpIn hfn (wpIn_mono (hassign _ k W hlen hi) ?_)⟩
      intro e a1 W2 hp
      cases e with
      | normal =>
        obtain ⟨hkf, ha⟩ := hp
        have hl0 := hkf.loop _ _ (by omega) hl
        have hk0 := hkf.mark _ _ (Nat.le_refl _) hk
        have hlt2 : w.heap.size + 1 < W2.heap.size := (Array.getElem?_eq_some_iff.1 hl0).1
        refine ⟨_, run_beginRound hl0 (by rw [hrec]), ?_⟩
        have hl2 : (W2.putObj (w.heap.size + 1) (.loop { rec .ready none with state := .busy })).heap[w.heap.size + 1]? = some (.loop { rec .ready none with state := .busy }) := World.putObj_heap_same hlt2
        have hk2 : (W2.putObj (w.heap.size + 1) (.loop { rec .ready none with state := .busy })).heap[w.heap.size]? = some (.deferred (some [])) := (World.putObj_heap_other (by omega)).trans hk0
        refine wpIn_mono (hbody _ k _ _ hlen ((hA k a1).loop (s := ()) _ ha (by omega) hl0)) ?_
        have fin : ∀ (jump : Option Code) (W3 : World), KeepsLD w.heap.size (W2.putObj (w.heap.size + 1) (.loop { rec .ready none with state := .busy })) W3 →
            (Instr.endRound (w.heap.size + 1) jump).run P W3 = .ok (.bool jump.isNone) (W3.putObj (w.heap.size + 1) (.loop (rec (if jump.isNone then .ready else .done) jump))) ∧
            W3.heap[w.heap.size + 1]? = some (.loop { rec .ready none with state := .busy }) ∧
            (W3.putObj (w.heap.size + 1) (.loop (rec (if jump.isNone then .ready else .done) jump))).heap[w.heap.size + 1]? = some (.loop (rec (if jump.isNone then .ready else .done) jump)) ∧
            (W3.putObj (w.heap.size + 1) (.loop (rec (if jump.isNone then .ready else .done) jump))).heap[w.heap.size]? = some (.deferred (some [])) := fun jump W3 hk3 => by
          have hl3 := hk3.loop _ _ (by omega) hl2
          have := run_endRound (P := P) jump hl3
          rw [hrec] at this ⊢
          exact ⟨this, by rw [hrec] at hl3; exact hl3, World.putObj_heap_same (Array.getElem?_eq_some_iff.1 hl3).1, (World.putObj_heap_other (by omega)).trans (hk3.mark _ _ (Nat.le_refl _) hk2)⟩
        rintro e a3 W3 hp
        cases e with
        | normal =>
          obtain ⟨hk3, hi3⟩ := hp
          obtain ⟨hr, hl3, hl4, hk4⟩ := fin none W3 hk3
          exact ⟨_, _, hr, .inl ⟨rfl, hI.loop _ hi3 (by omega) hl3, hl4, hk4⟩⟩
        | ret =>
          obtain ⟨hk3, hi3⟩ := hp
          obtain ⟨hr, hl3, hl4, hk4⟩ := fin (some .ret) W3 hk3
          exact ⟨_, _, hr, .inr ⟨rfl, .ret, (hIx _).loop _ hi3 (by omega) hl3, hl4, hk4⟩⟩
        | exit id =>
          obtain ⟨hk3, hi3⟩ := hp
          obtain ⟨hr, hl3, hl4, hk4⟩ := fin (some (.exit id)) W3 hk3
          exact ⟨_, _, hr, .inr ⟨rfl, .exit id, (hIx _).loop _ hi3 (by omega) hl3, hl4, hk4⟩⟩
        | goto t => exact hp.elim
        | panic ch => exact hp.elim
        | outgrown => exact hp.elim
      | exit id => exact hp.elim
      | goto t => exact hp.elim
      | ret => exact hp.elim
      | panic ch => exact hp.elim
      | outgrown => exact hp.elim
    · rintro e W2 ⟨⟨v, rfl⟩, (⟨hi, hl, hk⟩ | ⟨k, hk0, c, hi, hl, hk⟩)⟩
      · exact ⟨none, _, by have := run_endLoop (P := P) hl (by rw [hrec]; simp); rw [hrec] at this; exact this, hdone _ _ (Nat.le_refl _) (hI.loop _ hi (by omega) hl) ((World.putObj_heap_other (by omega)).trans hk)⟩
      · exact ⟨some c, _, by have := run_endLoop (P := P) hl (by rw [hrec]; simp); rw [hrec] at this; exact this, hstop _ c k _ (Nat.le_refl _) hk0 ((hIx c).loop _ hi (by omega) hl) ((World.putObj_heap_other (by omega)).trans hk)⟩
end
end Go.Proofs.Ytffockklleanmaa.AM
