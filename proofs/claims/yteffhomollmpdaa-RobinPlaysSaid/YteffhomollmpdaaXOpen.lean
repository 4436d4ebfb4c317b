/- Whatever a law's argument of any plain type (whole numbers, bools, strings, structs, slices of these, nested) holds, it reads as a list or structure of the print's kinds; with its weights' and its bulk's bounds. -/
import Derived.Test.YteffhomollmpdaaRows
import Derived.Test.YteffhomollmpdaaWWords
import Derived.WalkKit
import Derived.ProofKit
import Derived.OpenShut
import Derived.Deep.Slices
import Derived.Deep.CondSized
import Derived.SizedLaws
namespace Go.Proofs.Yteffhomollmpdaa.X
open Go.RowKit Go.Proofs.YteffhomollmpdaaW.PrintWords Go.ChangeShapes Go.WideShapes
set_option linter.unusedVariables false
set_option linter.unusedSimpArgs false

structure Opens {α : Type} (P : Program) (t : TypeId) (d : Kd α) (good : α → Prop) (bulk : α → Nat) : Prop where
  sz : d.sz = P.cellsOf t
  op : ∀ {H : Type} {enc : TypeId × Value → H} {w : World} {spare : Nat → Bool} {held : Bool} {fuel : Nat} {cs : List Value} {x : DataW H × List MemPlace},
    DataW.trod enc P w 0 spare held fuel t cs = some x → ∃ y, d.K w y cs ∧ ((∀ r ∈ x.1.weights P t, r ≤ reachBytes) → good y) ∧ bulk y ≤ Rows.uptoBulk x.1

theorem Opens.int {P : Program} {t : TypeId} {k : IntKind} (ht : P.underlying t = some (.int k)) (hc : P.cellsOf t = 1) : Opens P t (Kd.int k) (fun y => (Lit.int k y).wf = true) (fun _ => 1) where
  sz := hc.symm
  op := by
    intro H enc w spare held fuel cs x h
    obtain ⟨n, rfl, rfl, hw⟩ := DataW.trod_int ht h
    exact ⟨n, rfl, fun _ => hw, by simp [Rows.uptoBulk]⟩
theorem Opens.bool {P : Program} {t : TypeId} (ht : P.underlying t = some .bool) (hc : P.cellsOf t = 1) : Opens P t Kd.bool (fun _ => True) (fun _ => 1) where
  sz := hc.symm
  op := by
    intro H enc w spare held fuel cs x h
    obtain ⟨n, rfl, rfl⟩ := DataW.trod_bool ht h
    exact ⟨n, rfl, fun _ => trivial, by simp [Rows.uptoBulk]⟩
theorem Opens.string {P : Program} {t : TypeId} (ht : P.underlying t = some .string) (hc : P.cellsOf t = 1) : Opens P t Kd.string (fun y => y.size ≤ 140737488351232) (fun y => y.size + 1) where
  sz := hc.symm
  op := by
    intro H enc w spare held fuel cs x h
    obtain ⟨s, rfl, rfl, hw⟩ := DataW.trod_string ht h
    refine ⟨s, rfl, fun hr => ?_, by simp [Rows.uptoBulk]⟩
    have := hr s.data.toList.length (by simp [DataW.weights])
    rw [Array.length_toList] at this
    exact this

theorem sum_le {α H : Type} (bulk : α → Nat) : ∀ (xs : List α) (ds : List (DataW H)), xs.length = ds.length → (∀ (i : Nat) x d, xs[i]? = some x → ds[i]? = some d → bulk x ≤ Rows.uptoBulk d) → (xs.map bulk).sum ≤ Rows.uptoBulkAll ds
  | [], [], _, _ => by simp
  | x :: xs, d :: ds, hl, h => by
    have h0 := h 0 x d rfl rfl
    have h1 := sum_le bulk xs ds (by simpa using hl) (fun i x d hx hd => h (i + 1) x d (by simpa using hx) (by simpa using hd))
    simp only [List.map_cons, List.sum_cons, Rows.uptoBulkAll]
    omega
  | [], _ :: _, hl, _ => by simp at hl
  | _ :: _, [], hl, _ => by simp at hl

theorem weights_all {H : Type} {P : Program} {e : TypeId} : ∀ {ds : List (DataW H)} {d : DataW H}, d ∈ ds → ∀ r ∈ d.weights P e, r ∈ DataW.weightsAll P e ds
  | x :: ds, d, hd, r, hr => by
    simp only [DataW.weightsAll, List.mem_append]
    rcases List.mem_cons.1 hd with rfl | hd
    · exact .inl hr
    · exact .inr (weights_all hd r hr)

theorem Opens.slice {α : Type} {P : Program} {t e : TypeId} {d : Kd α} {good : α → Prop} {bulk : α → Nat} (o : Opens P e d good bulk) (ht : P.underlying t = some (.slice e)) (hc : P.cellsOf t = 1) :
    Opens P t (Kd.slice e d) (fun xs => xs.length * P.bytesOf e ≤ 140737488351232 ∧ ∀ x ∈ xs, good x) (fun xs => (xs.map bulk).sum + 1) where
  sz := hc.symm
  op := by
    intro H enc w spare held fuel cs x h
    rcases Go.Deep.open_slice ht h with ⟨rfl, rfl⟩ | ⟨a, len, cap, m, n, D, Pl, rfl, hb, hl, hm, hmm, rfl, hx⟩
    · exact ⟨[], ⟨none, 0, rfl, Nat.le_refl _, ⟨rfl, Nat.zero_le _, fun h => absurd h (by simp)⟩⟩, fun _ => ⟨by simp, fun x hx => by cases hx⟩, by simp [Rows.uptoBulk]⟩
    · have hlm : len ≤ m := by rw [hmm]; split <;> omega
      have hch : ∀ i : Fin len, ∃ y, ∃ cs', w.cells? 0 (a.add (i.1 * P.cellsOf e)) (P.cellsOf e) = some cs' ∧ d.K w y cs' ∧ ((∀ r ∈ (D i.1).weights P e, r ≤ reachBytes) → good y) ∧ bulk y ≤ Rows.uptoBulk (D i.1) := fun i => by
        obtain ⟨cs', h1, h2⟩ := hx i.1 (by omega)
        obtain ⟨y, k1, k2, k3⟩ := o.op h2
        exact ⟨y, cs', h1, k1, k2, k3⟩
      obtain ⟨f, hf⟩ := Classical.axiomOfChoice hch
      have hlen : (List.ofFn f).length = len := List.length_ofFn
      have hget : ∀ (j : Nat) p, (List.ofFn f)[j]? = some p → ∃ hj : j < len, p = f ⟨j, hj⟩ := by
        intro j p hj
        obtain ⟨h1, h2⟩ := List.getElem?_eq_some_iff.1 hj
        have hj' : j < len := by simpa using h1
        exact ⟨hj', by rw [← h2]; simp⟩
      refine ⟨List.ofFn f, ⟨some a, cap, by rw [hlen], by rw [hlen]; exact hl, ?_⟩, ?_, ?_⟩
      · refine ⟨rfl, ?_, fun _ => ⟨a, rfl, fun j p hj => ?_⟩⟩
        · rw [hlen]
          have : maxLen = 9223372036854775807 := rfl
          omega
        · obtain ⟨hj', rfl⟩ := hget j p hj
          obtain ⟨cs', h1, k1, _, _⟩ := hf ⟨j, hj'⟩
          obtain ⟨_, hl', hcell⟩ := World.cells?_some h1
          refine ⟨cs', by rw [o.sz]; exact hl', k1, fun i u hu => ?_⟩
          have hi : i < P.cellsOf e := by have := (List.getElem?_eq_some_iff.1 hu).1; omega
          have := hcell i hi
          rw [Go.Deep.add_add] at this
          rw [o.sz, this, hu]
      · intro hr
        refine ⟨?_, fun x hx => ?_⟩
        · have := hr ((((List.range len).map D).length + ((List.range (m - len)).map fun j => D (len + j)).length) * P.bytesOf e) (by simp [DataW.weights, ht])
          have h2 : (List.ofFn f).length * P.bytesOf e ≤ (((List.range len).map D).length + ((List.range (m - len)).map fun j => D (len + j)).length) * P.bytesOf e := Nat.mul_le_mul_right _ (by simp)
          have h3 : reachBytes = 140737488351232 := rfl
          omega
        · obtain ⟨j, hj⟩ := List.mem_iff_getElem?.1 hx
          obtain ⟨hj', rfl⟩ := hget j x hj
          obtain ⟨_, _, _, k2, _⟩ := hf ⟨j, hj'⟩
          refine k2 fun r hr' => hr r ?_
          simp only [DataW.weights, ht]
          exact List.mem_cons_of_mem _ (List.mem_append_left _ (weights_all (List.mem_map.2 ⟨j, by simpa using hj', rfl⟩) r hr'))
      · have := sum_le (H := H) bulk (List.ofFn f) ((List.range len).map D) (by simp) (by
          intro i x d' hi hd
          obtain ⟨hj', rfl⟩ := hget i x hi
          obtain ⟨_, _, _, _, k3⟩ := hf ⟨i, hj'⟩
          have : d' = D i := by
            rw [List.getElem?_map, List.getElem?_range hj'] at hd
            simpa using hd.symm
          rw [this]
          exact k3)
        simp only [Rows.uptoBulk]
        omega

/-! structs -/
structure OpensF {α : Type} (P : Program) (fs : List (Nat × TypeId)) (o : Nat) (d : Kd α) (good : α → Prop) (bulk : α → Nat) : Prop where
  op : ∀ {H : Type} {enc : TypeId × Value → H} {w : World} {spare : Nat → Bool} {held : Bool} {fuel : Nat} {cs : List Value} {xs : List (DataW H × List MemPlace)},
    xs.length = fs.length → (∀ (i : Nat) f, fs[i]? = some f → DataW.trod enc P w 0 spare held fuel f.2 ((cs.drop f.1).take (P.cellsOf f.2)) = xs[i]?) →
    ∃ y, d.K w y ((cs.drop o).take d.sz) ∧ ((∀ r ∈ DataW.weightsEach P (fs.map (·.2)) (xs.map (·.1)), r ≤ reachBytes) → good y) ∧ bulk y ≤ Rows.uptoBulkAll (xs.map (·.1))

theorem OpensF.one {α : Type} {P : Program} {t : TypeId} {off : Nat} {d : Kd α} {good : α → Prop} {bulk : α → Nat} (o : Opens P t d good bulk) : OpensF P [(off, t)] off d good bulk where
  op := by
    intro H enc w spare held fuel cs xs hl h
    match xs, hl with
    | [x], _ =>
      have h0 := h 0 (off, t) rfl
      simp only [List.getElem?_cons_zero] at h0
      obtain ⟨y, k1, k2, k3⟩ := o.op h0
      refine ⟨y, by rw [o.sz]; exact k1, fun hr => k2 fun r hr' => hr r ?_, ?_⟩
      · simp [DataW.weightsEach, hr']
      · simp only [List.map_cons, List.map_nil, Rows.uptoBulkAll]; omega
theorem OpensF.pair {α β : Type} {P : Program} {t : TypeId} {off off' : Nat} {fs : List (Nat × TypeId)} {a : Kd α} {b : Kd β} {ga : α → Prop} {gb : β → Prop} {ba : α → Nat} {bb : β → Nat} (oa : Opens P t a ga ba) (ob : OpensF P fs off' b gb bb) (hoff : off' = off + a.sz) :
    OpensF P ((off, t) :: fs) off (Kd.pair a b) (fun x => ga x.1 ∧ gb x.2) (fun x => ba x.1 + bb x.2) where
  op := by
    intro H enc w spare held fuel cs xs hl h
    match xs, hl with
    | x :: xs, hl =>
      have h0 := h 0 (off, t) rfl
      simp only [List.getElem?_cons_zero] at h0
      obtain ⟨y, k1, k2, k3⟩ := oa.op h0
      obtain ⟨z, m1, m2, m3⟩ := ob.op (xs := xs) (by simpa using hl) (fun i f hf => by simpa using h (i + 1) f (by simpa using hf))
      refine ⟨(y, z), ⟨_, _, ?_, by rw [← oa.sz] at k1; exact k1, m1⟩, fun hr => ⟨k2 fun r hr' => hr r ?_, m2 fun r hr' => hr r ?_⟩, ?_⟩
      · show (cs.drop off).take (a.sz + b.sz) = _
        rw [hoff, List.take_add, List.drop_drop]
      · simp [DataW.weightsEach, hr']
      · simp only [List.map_cons, DataW.weightsEach, List.mem_append]; exact .inr hr'
      · simp only [List.map_cons, Rows.uptoBulkAll]; omega
theorem Opens.struct {α β : Type} {P : Program} {t : TypeId} {fs : Array Field} {d : Kd α} {good : α → Prop} {bulk : α → Nat} (ht : P.underlying t = some (.struct fs)) (o : OpensF P (fs.toList.map fun f => (f.offset, f.type)) 0 d good bulk) (hsz : d.sz = P.cellsOf t)
    (f : β → α) (g : α → β) (hfg : ∀ x, f (g x) = x) : Opens P t (Kd.iso d f) (fun y => good (f y)) (fun y => bulk (f y)) where
  sz := hsz
  op := by
    intro H enc w spare held fuel cs x h
    obtain ⟨xs, n, _, rfl, hcl, hxl, hx⟩ := DataW.trod_struct ht h
    obtain ⟨y, k1, k2, k3⟩ := o.op (cs := cs) (xs := xs) (by simp [hxl]) (fun i p hp => by
      rw [List.getElem?_map] at hp
      obtain ⟨fi, hfi, rfl⟩ := Option.map_eq_some_iff.1 hp
      exact hx i fi (by simpa using hfi))
    refine ⟨g y, ?_, fun hr => ?_, ?_⟩
    · show d.K w (f (g y)) cs
      rw [hfg]
      have : (cs.drop 0).take d.sz = cs := by rw [List.drop_zero, hsz, ← hcl, List.take_length]
      rw [this] at k1
      exact k1
    · show good (f (g y))
      rw [hfg]
      refine k2 fun r hr' => hr r ?_
      simp only [DataW.weights, ht]
      rw [List.map_map] at hr'
      exact hr'
    · show bulk (f (g y)) ≤ _
      rw [hfg]
      simp only [Rows.uptoBulk]
      omega

/-! parameters -/
section
variable {P : Program} {H : Type} {enc : TypeId × Value → H} {w : World} {spare : Nat → Bool} {held : Bool} {r : Reach} {b0 : Nat} {t : TypeId} {v : Value} {dd : DataW H} {p : List MemPlace} {ts : List TypeId} {ds : List (DataW H)} {j : Nat}
theorem param_slice {α : Type} {e : TypeId} {d : Kd α} {good : α → Prop} {bulk : α → Nat} (o : Opens P e d good bulk) (ht : P.underlying t = some (.slice e)) (hc : P.cellsOf t = 1) (hv : Value.okWide P w r b0 t v) (h : DataW.Trod enc P w 0 spare held t v dd p)
    (hsz : (DataW.weightsEach P ts ds).all (· ≤ reachBytes) = true) (htj : ts[j]? = some t) (hdj : ds[j]? = some dd) :
    ∃ A c xs, v = .slice A xs.length c ∧ xs.length ≤ c ∧ d.C w A xs.length xs ∧ (xs.length * P.bytesOf e ≤ 140737488351232 ∧ ∀ x ∈ xs, good x) ∧ (xs.map bulk).sum + 1 ≤ Rows.uptoBulk dd := by
  obtain ⟨a0, len, cap, rfl⟩ := okWide_slice ht hv
  obtain ⟨fuel, hf⟩ := h
  obtain ⟨xs, ⟨A, c, he, hl, hC⟩, k2, k3⟩ := (Opens.slice o ht hc).op hf
  have hcells : (Value.slice a0 len cap).cells.toList = [.slice a0 len cap] := rfl
  rw [hcells] at he
  injection he with he _
  refine ⟨A, c, xs, he, hl, hC, k2 fun n hn => ?_, k3⟩
  have := List.all_eq_true.1 hsz n (DataW.weights_mem_each htj hdj n hn)
  simpa using this
end
end Go.Proofs.Yteffhomollmpdaa.X
