/- Maps that the program itself holds, told as association lists: what their block holds, and the laws at the operations (make, look-up, store, delete, len). -/
import Derived.Maps.OwnSet
import Derived.Maps.RangeWalk
namespace Go.Proofs.Yteffhomollmpdaa.X
open Go.RowKit Go.MapKept Go.ChangeMaps
set_option linter.unusedVariables false
set_option linter.unusedSectionVars false

section
variable {κ ν : Type} [DecidableEq κ]
def aget : List (κ × ν) → κ → Option ν
  | [], _ => none
  | p :: l, k => if p.1 = k then some p.2 else aget l k
def aput : List (κ × ν) → κ → ν → List (κ × ν)
  | [], k, v => [(k, v)]
  | p :: l, k, v => if p.1 = k then (k, v) :: l else p :: aput l k v
def adel : List (κ × ν) → κ → List (κ × ν)
  | [], _ => []
  | p :: l, k => if p.1 = k then l else p :: adel l k

theorem aget_none {l : List (κ × ν)} {k : κ} : aget l k = none ↔ ∀ p ∈ l, p.1 ≠ k := by
  induction l with
  | nil => simp [aget]
  | cons p l ih =>
    simp only [aget]
    split
    · rename_i h; simp [h]
    · rename_i h; simp [h, ih]
end

/-- what a map's keys are -/
structure KeyOk (P : Program) (kt : TypeId) {κ : Type} (kv : κ → Value) : Prop where
  key : ∃ d, P.underlying kt = some d ∧ ∀ k, IsKey d (kv k)
  inj : ∀ a b, kv a = kv b → a = b
theorem KeyOk.int {P : Program} {kt : TypeId} {q : IntKind} (h : P.underlying kt = some (.int q)) : KeyOk P kt (fun k : Int => .int q k) := ⟨⟨_, h, fun k => rfl⟩, fun a b e => by injection e⟩
theorem KeyOk.string {P : Program} {kt : TypeId} (h : P.underlying kt = some .string) : KeyOk P kt (fun k : ByteArray => .string k) := ⟨⟨_, h, fun k => trivial⟩, fun a b e => by injection e⟩

/-- block b is a map that holds these entries -/
def MapK {κ ν : Type} (kv : κ → Value) (vv : ν → Value) (w : World) (b : Nat) (l : List (κ × ν)) : Prop :=
  ∃ es clock, w.heap[b]? = some (.map es clock) ∧ es.toList.map (fun e => (e.key, e.val)) = l.map (fun p => (kv p.1, vv p.2)) ∧ Stamped es clock

section
variable {κ ν : Type} [DecidableEq κ] {kv : κ → Value} {vv : ν → Value} {P : Program} {kt et t : TypeId} {w w' : World} {b : Nat} {l : List (κ × ν)}

theorem MapK.made (w : World) (kv : κ → Value) (vv : ν → Value) : MapK kv vv (w.alloc (.map #[] 0)) w.heap.size ([] : List (κ × ν)) := ⟨#[], 0, (heap_alloc w _).1, rfl, stamped_empty 0⟩
theorem MapK.lt (h : MapK kv vv w b l) : b < w.heap.size := by
  obtain ⟨es, c, hb, _⟩ := h
  exact (Array.getElem?_eq_some_iff.1 hb).1
theorem MapK.same (h : MapK kv vv w b l) (he : w'.heap[b]? = w.heap[b]?) : MapK kv vv w' b l := by
  obtain ⟨es, c, hb, r⟩ := h
  exact ⟨es, c, he.trans hb, r⟩
theorem MapK.keys (h : MapK kv vv w b l) (K : KeyOk P kt kv) : (l.map (·.1)).Nodup := by
  obtain ⟨es, c, hb, he, hs⟩ := h
  have h1 := hs.2.2
  have h2 : es.toList.map (·.key) = (l.map (·.1)).map kv := by
    have := congrArg (List.map Prod.fst) he
    simpa [List.map_map, Function.comp_def] using this
  rw [h2] at h1
  exact (List.pairwise_map.1 h1).imp (fun hne e => hne (by rw [e]))
/-- the look-up of the key among the entries -/
theorem find_list (K : KeyOk P kt kv) (k : κ) : ∀ (es : List MapEntry) (l : List (κ × ν)), es.map (fun e => (e.key, e.val)) = l.map (fun p => (kv p.1, vv p.2)) →
    (aget l k = none ∧ ∀ e ∈ es, e.key ≠ kv k) ∨ ∃ j v e, aget l k = some v ∧ es[j]? = some e ∧ e.key = kv k ∧ e.val = vv v ∧ (∀ i e', i < j → es[i]? = some e' → e'.key ≠ kv k) ∧ (∀ u, aput l k u = l.set j (k, u)) ∧ adel l k = l.eraseIdx j
  | [], [], _ => .inl ⟨rfl, by simp⟩
  | [], _ :: _, h => by simp at h
  | _ :: _, [], h => by simp at h
  | e :: es, p :: l, h => by
    simp only [List.map_cons, List.cons.injEq, Prod.mk.injEq] at h
    obtain ⟨⟨h1, h2⟩, h3⟩ := h
    by_cases hk : p.1 = k
    · refine .inr ⟨0, p.2, e, ?_, rfl, by rw [h1, hk], h2, fun i _ hi => by omega, ?_, ?_⟩
      · simp only [aget]; rw [if_pos hk]
      · intro u; simp only [aput]; rw [if_pos hk]; rfl
      · simp only [adel]; rw [if_pos hk]; rfl
    · have hne : e.key ≠ kv k := fun q => hk (K.inj _ _ (h1.symm.trans q))
      rcases find_list K k es l h3 with ⟨g1, g2⟩ | ⟨j, v, e', g1, g2, g3, g4, g5, g6, g7⟩
      · refine .inl ⟨by simp only [aget]; rw [if_neg hk, g1], ?_⟩
        intro x hx
        rcases List.mem_cons.1 hx with rfl | hx
        · exact hne
        · exact g2 x hx
      · refine .inr ⟨j + 1, v, e', by simp only [aget]; rw [if_neg hk, g1], g2, g3, g4, ?_, ?_, ?_⟩
        · intro i x hi hx
          cases i with
          | zero => obtain rfl := Option.some.inj hx; exact hne
          | succ i => exact g5 i x (by omega) hx
        · intro u; simp only [aput]; rw [if_neg hk, g6]; rfl
        · simp only [adel]; rw [if_neg hk, g7]; rfl
theorem keys_of (K : KeyOk P kt kv) {d : TypeDesc} (hd : P.underlying kt = some d) {es : List MapEntry} {l : List (κ × ν)} (h : es.map (fun e => (e.key, e.val)) = l.map (fun p => (kv p.1, vv p.2))) : ∀ x ∈ es, IsKey d x.key := by
  obtain ⟨d', hd', hk⟩ := K.key
  obtain rfl : d' = d := Option.some.inj (hd'.symm.trans hd)
  intro x hx
  have : (x.key, x.val) ∈ es.map (fun e => (e.key, e.val)) := List.mem_map_of_mem hx
  rw [h] at this
  obtain ⟨p, _, e⟩ := List.mem_map.1 this
  rw [← (Prod.mk.inj e).1]; exact hk _
/-- the place at which the model finds a key is the first one -/
theorem find_first {d : TypeDesc} {k : Value} (hk : IsKey d k) : ∀ (es : List MapEntry) (i j : Nat) (e : MapEntry), (∀ x ∈ es, IsKey d x.key) → es[j]? = some e → e.key = k → (∀ m e', m < j → es[m]? = some e' → e'.key ≠ k) → Instr.findNow d k es i = some (some (i + j, e.val))
  | [], _, _, _, _, h, _, _ => by simp at h
  | x :: es, i, j, e, hx, hj, he, hf => by
    obtain ⟨r, hr, hiff⟩ := sameNow_of_keys hk (hx x (.head _))
    cases j with
    | zero =>
      obtain rfl := Option.some.inj hj
      have : r = true := hiff.2 he.symm
      subst this
      simp [Instr.findNow, hr]
    | succ j =>
      have : r = false := by
        cases r with
        | false => rfl
        | true => exact absurd (hiff.1 rfl).symm (hf 0 x (by omega) rfl)
      subst this
      have := find_first hk es (i + 1) j e (fun y hy => hx y (.tail _ hy)) hj he (fun m e' hm h => hf (m + 1) e' (by omega) h)
      simp [Instr.findNow, hr, this]; omega
theorem find_no {d : TypeDesc} {k : Value} (hk : IsKey d k) {es : List MapEntry} (hx : ∀ x ∈ es, IsKey d x.key) (h : ∀ x ∈ es, x.key ≠ k) : Instr.findNow d k es 0 = some none := by
  rcases findNow_spec hk es 0 hx with ⟨h1, _⟩ | ⟨j, e, _, h2, h3⟩
  · exact h1
  · exact absurd h3 (h e (List.mem_of_getElem? h2))

theorem MapK.look (h : MapK kv vv w b l) (K : KeyOk P kt kv) (ht : P.underlying t = some (.map kt et)) {z : ν} (hz : (zeroValue et).run P w = .ok (vv z) w) (k : κ) (c : Bool) :
    (Instr.lookup t (.map (some b)) (kv k) c).run P w = .ok (if c then .tuple #[vv ((aget l k).getD z), .bool (aget l k).isSome] else vv ((aget l k).getD z)) w := by
  obtain ⟨es, cl, hb, he, hs⟩ := h
  obtain ⟨d, hd, hk⟩ := K.key
  have hks := keys_of K hd he
  rcases find_list K k es.toList l he with ⟨h1, h2⟩ | ⟨j, v, e, h1, h2, h3, h4, h5, _⟩
  · have hf := find_no (hk k) hks h2
    rw [h1]
    simp [Instr.lookup, run_underlying ht, MapKept.run_getObj_map hb, run_checkKey hd (hk k), run_findKey hd hf, hz, Result.andThen]
  · have hf := find_first (hk k) es.toList 0 j e hks h2 h3 h5
    rw [h1]
    simp [Instr.lookup, run_underlying ht, MapKept.run_getObj_map hb, run_checkKey hd (hk k), run_findKey hd hf, h4, Result.andThen]
theorem MapK.len (h : MapK kv vv w b l) (ht : P.underlying t = some (.map kt et)) (ty : TypeId) : (Builtin.len_ #[t] ty #[.map (some b)]).run P w = .ok (.int .i64 l.length) w := by
  obtain ⟨es, cl, hb, he, hs⟩ := h
  have : es.size = l.length := by simpa using congrArg List.length he
  simp [Builtin.len_, run_underlying ht, MapKept.run_getObj_map hb, goInt, Result.andThen, this]
theorem MapK.store (h : MapK kv vv w b l) (K : KeyOk P kt kv) (ht : P.underlying t = some (.map kt et)) (k : κ) (v : ν) :
    ∃ w', (Instr.mapUpdate t (.map (some b)) (kv k) (vv v)).run P w = .ok () w' ∧ MapK kv vv w' b (aput l k v) ∧ w.mapTurned w' b := by
  obtain ⟨es, cl, hb, he, hs⟩ := h
  obtain ⟨d, hd, hk⟩ := K.key
  have hks := keys_of K hd he
  rcases find_list K k es.toList l he with ⟨h1, h2⟩ | ⟨j, v0, e, h1, h2, h3, h4, h5, h6, _⟩
  · have hf := find_no (hk k) hks h2
    refine ⟨setBlock w b (.map (es.push ⟨kv k, vv v, cl⟩) (cl + 1)), ?_, ⟨_, _, heap_setBlock_same hb _, ?_, stamped_push hs h2⟩, ⟨es, cl, _, _, hb, rfl⟩⟩
    · simp [Instr.mapUpdate, run_underlying ht, MapKept.run_getObj_map hb, run_checkKey hd (hk k), run_findKey hd hf, MapKept.run_setObj_map _ hb, Result.andThen, setBlock]
    · have : aput l k v = l ++ [(k, v)] := by
        clear he
        rw [aget_none] at h1
        induction l with
        | nil => rfl
        | cons p l ih =>
          simp only [aput]
          rw [if_neg (h1 p List.mem_cons_self), ih (fun q hq => h1 q (List.mem_cons_of_mem _ hq))]; rfl
      rw [this, Array.toList_push, List.map_append, List.map_append, he]; rfl
  · have hf := find_first (hk k) es.toList 0 j e hks h2 h3 h5
    have hj : es[j]? = some e := by simpa using h2
    refine ⟨setBlock w b (.map (es.modify j fun e => { e with key := kv k, val := vv v }) cl), ?_, ⟨_, _, heap_setBlock_same hb _, ?_, ?_⟩, ⟨es, cl, _, _, hb, rfl⟩⟩
    · simp [Instr.mapUpdate, run_underlying ht, MapKept.run_getObj_map hb, run_checkKey hd (hk k), run_findKey hd hf, hj, h3, run_keyThatStays (hk k), MapKept.run_setObj_map _ hb, Result.andThen, setBlock]
    · rw [h6]
      apply List.ext_getElem?
      intro i
      have hi := congrArg (fun q => q[i]?) he
      simp only [List.getElem?_map, Array.getElem?_toList] at hi
      simp only [List.getElem?_map, Array.getElem?_toList, Array.getElem?_modify, List.getElem?_set]
      by_cases e1 : j = i
      · subst e1
        have hlt : j < l.length := by
          have hh : j < es.toList.length := (List.getElem?_eq_some_iff.1 h2).1
          have := congrArg List.length he
          rw [List.length_map, List.length_map] at this
          omega
        simp [hj, hlt]
      · rw [if_neg e1, if_neg e1]; exact hi
    · refine ⟨?_, ?_, ?_⟩
      · intro x hx
        rw [Array.mem_toList_iff, Array.mem_iff_getElem?] at hx
        obtain ⟨i, hi⟩ := hx
        rw [Array.getElem?_modify] at hi
        split at hi
        · rename_i e1
          subst e1
          rw [hj] at hi
          obtain rfl := Option.some.inj hi
          exact hs.1 e (List.mem_of_getElem? h2)
        · exact hs.1 x (by rw [Array.mem_toList_iff]; exact Array.mem_of_getElem? hi)
      · have : (es.modify j fun e => { e with key := kv k, val := vv v }).toList.map (·.born) = es.toList.map (·.born) := by
          apply List.ext_getElem?
          intro i
          simp only [List.getElem?_map, Array.getElem?_toList, Array.getElem?_modify]
          split
          · cases es[i]? <;> rfl
          · rfl
        rw [this]; exact hs.2.1
      · have : (es.modify j fun e => { e with key := kv k, val := vv v }).toList.map (·.key) = es.toList.map (·.key) := by
          apply List.ext_getElem?
          intro i
          simp only [List.getElem?_map, Array.getElem?_toList, Array.getElem?_modify]
          split
          · rename_i e1; subst e1; rw [hj]; simp [h3]
          · rfl
        rw [this]; exact hs.2.2
theorem MapK.drop (h : MapK kv vv w b l) (K : KeyOk P kt kv) (ht : P.underlying t = some (.map kt et)) (k : κ) (ty : TypeId) :
    ∃ w', (Builtin.delete_ #[t, kt] ty #[.map (some b), kv k]).run P w = .ok (.tuple #[]) w' ∧ MapK kv vv w' b (adel l k) ∧ w.mapTurned w' b := by
  obtain ⟨es, cl, hb, he, hs⟩ := h
  obtain ⟨d, hd, hk⟩ := K.key
  have hks := keys_of K hd he
  rcases find_list K k es.toList l he with ⟨h1, h2⟩ | ⟨j, v0, e, h1, h2, h3, h4, h5, h6, h7⟩
  · have hf := find_no (hk k) hks h2
    refine ⟨setBlock w b (.map es cl), ?_, ⟨_, _, heap_setBlock_same hb _, ?_, hs⟩, ⟨es, cl, _, _, hb, rfl⟩⟩
    · simp [Builtin.delete_, run_underlying ht, MapKept.run_getObj_map hb, run_checkKey hd (hk k), run_findKey hd hf, MapKept.run_setObj_map _ hb, Result.andThen, setBlock]
    · have : adel l k = l := by
        clear he
        rw [aget_none] at h1
        induction l with
        | nil => rfl
        | cons p l ih =>
          simp only [adel]
          rw [if_neg (h1 p List.mem_cons_self), ih (fun q hq => h1 q (List.mem_cons_of_mem _ hq))]
      rw [this, he]
  · have hf := find_first (hk k) es.toList 0 j e hks h2 h3 h5
    have hj : j < es.size := by
      have := (List.getElem?_eq_some_iff.1 h2).1
      simpa using this
    have e1 : (es.eraseIdxIfInBounds j).toList = es.toList.eraseIdx j := by
      rw [Array.eraseIdxIfInBounds, dif_pos hj, Array.toList_eraseIdx]
    refine ⟨setBlock w b (.map (es.eraseIdxIfInBounds j) cl), ?_, ⟨_, _, heap_setBlock_same hb _, ?_, ?_⟩, ⟨es, cl, _, _, hb, rfl⟩⟩
    · simp [Builtin.delete_, run_underlying ht, MapKept.run_getObj_map hb, run_checkKey hd (hk k), run_findKey hd hf, MapKept.run_setObj_map _ hb, Result.andThen, setBlock]
    · rw [e1, h7, map_eraseIdx, map_eraseIdx, he]
    · refine ⟨fun x hx => hs.1 x ?_, ?_, ?_⟩
      · rw [e1] at hx; exact (List.eraseIdx_sublist _ _).subset hx
      · rw [e1]; exact ((List.eraseIdx_sublist _ _).map _).nodup hs.2.1
      · rw [e1]; exact ((List.eraseIdx_sublist _ _).map _).nodup hs.2.2

/-! ### at the operation -/
variable {ops : Array Oper} {rest : List Oper} {o : Oper} {a : Act} {Q : Exit → Act → World → Prop}
end
end Go.Proofs.Yteffhomollmpdaa.X
