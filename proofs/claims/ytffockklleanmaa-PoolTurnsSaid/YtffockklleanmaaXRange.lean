/- Ranging over a map that the program itself holds, told as an association list: what is still to come is a list; each step takes one out of it. -/
import Derived.Test.YtffockklleanmaaXChg
import Derived.Maps.RangeWalk
namespace Go.Proofs.Ytffockklleanmaa.X
open Go.RowKit Go.MapKept Go.ChangeMaps Go.Proofs.YtffockklleanmaaW.PrintWords Go.Proofs.YtffockklleanmaaW.PrintMore
set_option linter.unusedVariables false
set_option linter.unusedSectionVars false

section
set_option linter.unusedSectionVars false
variable {κ ν : Type} [DecidableEq κ] {kv : κ → Value} {vv : ν → Value} {P : Program} {kt et t : TypeId} {w w' : World} {b r : Nat} {l todo : List (κ × ν)}
def IterK (kv : κ → Value) (vv : ν → Value) (w : World) (b r : Nat) (l todo : List (κ × ν)) : Prop :=
  ∃ es clock since seen c0, w.heap[b]? = some (.map es clock) ∧ es.toList.map (fun e => (e.key, e.val)) = l.map (fun p => (kv p.1, vv p.2)) ∧ Stamped es clock ∧
    w.heap[r]? = some (.mapIter (some b) since seen c0) ∧ (∀ x ∈ es.toList, x.born < since) ∧ since ≤ c0 ∧ since ≤ clock ∧ (leftOf es seen).toList.map (fun e => (e.key, e.val)) = todo.map (fun p => (kv p.1, vv p.2))
theorem IterK.map (h : IterK kv vv w b r l todo) : MapK kv vv w b l := by
  obtain ⟨es, clock, since, seen, c0, hb, he, hs, _⟩ := h
  exact ⟨es, clock, hb, he, hs⟩
theorem IterK.left_eq (h : IterK kv vv w b r l todo) : w.rangeLeft b r = todo.length := by
  obtain ⟨es, clock, since, seen, c0, hb, he, hs, hr, _, _, _, htd⟩ := h
  have h1 := congrArg List.length htd
  rw [List.length_map, List.length_map, Array.length_toList] at h1
  simp [World.rangeLeft, hb, hr, h1]
theorem IterK.chg {F : Nat → Prop} (h : IterK kv vv w b r l todo) (hc : Chg F w w') (hb' : ¬ F b) (hr' : ¬ F r) : IterK kv vv w' b r l todo := by
  obtain ⟨es, clock, since, seen, c0, hb, he, hs, hr, g⟩ := h
  exact ⟨es, clock, since, seen, c0, hc.blk hb hb', he, hs, hc.blk hr hr', g⟩
theorem MapK.range (h : MapK kv vv w b l) (ht : P.underlying t = some (.map kt et)) : ∃ w', (Instr.range t (.map (some b))).run P w = .ok (.pointer (some ⟨w.heap.size, 0, none⟩)) w' ∧ IterK kv vv w' b w.heap.size l l ∧ w' = w.alloc (.mapIter (some b) (match w.heap[b]? with | some (.map _ c) => c | _ => 0) #[] (match w.heap[b]? with | some (.map _ c) => c | _ => 0)) := by
  obtain ⟨es, clock, hb, he, hs⟩ := h
  refine ⟨w.alloc (.mapIter (some b) clock #[] clock), ?_, ⟨es, clock, clock, #[], clock, blk_alloc hb _, he, hs, heap_alloc_new w _, hs.1, Nat.le_refl _, Nat.le_refl _, ?_⟩, by rw [hb]⟩
  · exact run_range_map w t kt et b es clock ht hb
  · have : leftOf es #[] = es := by simp [leftOf]
    rw [this]; exact he
theorem set_other {w : World} {b r : Nat} (o : Obj) (h : b ≠ r) : (setBlock w r o).heap[b]? = w.heap[b]? := by
  simp only [setBlock, Array.getElem?_setIfInBounds]
  rw [if_neg (fun e => h e.symm)]
theorem set_same {w : World} {r : Nat} {o : Obj} (o' : Obj) (h : w.heap[r]? = some o) : (setBlock w r o').heap[r]? = some o' := by
  have hlt : r < w.heap.size := (Array.getElem?_eq_some_iff.1 h).1
  simp only [setBlock, Array.getElem?_setIfInBounds]
  simp [hlt]
theorem map_split {α β : Type} {f : α → β} {xs : List α} {a : α} {ys : List β} (h : xs.map f = ys) (ha : a ∈ xs) : ∃ p q, xs = p ++ a :: q ∧ ys = p.map f ++ f a :: q.map f := by
  obtain ⟨p, q, e⟩ := List.append_of_mem ha
  exact ⟨p, q, e, by rw [← h, e]; simp⟩
theorem IterK.next (h : IterK kv vv w b r l todo) (ty : TypeId) : (todo = [] ∧ (Instr.next (.pointer (some ⟨r, 0, none⟩)) false ty).run P w = .ok (.tuple #[.bool false]) w) ∨
    ∃ pre p post w', todo = pre ++ p :: post ∧ (Instr.next (.pointer (some ⟨r, 0, none⟩)) false ty).run P w = .ok (.tuple #[.bool true, kv p.1, vv p.2]) w' ∧ IterK kv vv w' b r l (pre ++ post) ∧ Chg (fun k => k = r) w w' ∧
      (Instr.entry (.pointer (some ⟨r, 0, none⟩))).run P w' = .ok (.tuple #[kv p.1, vv p.2]) w' := by
  obtain ⟨es, clock, since, seen, c0, hb, he, hs, hr, hold, hsc, hsk, htd⟩ := h
  rcases run_next_at (P := P) w ty r b since c0 seen es clock hr hb hold hsc with ⟨h0, hrun⟩ | ⟨e, hel, w1, hw1, hrun⟩
  · left
    refine ⟨?_, hrun⟩
    have h1 : (leftOf es seen).toList = [] := List.eq_nil_of_length_eq_zero (by rw [Array.length_toList]; exact h0)
    rw [h1] at htd
    have := congrArg List.length htd
    simp at this
    exact List.eq_nil_of_length_eq_zero (by omega)
  · right
    have hes : e ∈ es.toList := by
      unfold leftOf at hel
      rw [Array.toList_filter] at hel
      exact (List.mem_filter.1 hel).1
    obtain ⟨pe, qe, hsplit, _⟩ := map_split htd hel
    rw [hsplit, List.map_append, List.map_cons] at htd
    obtain ⟨pre, rest, rfl, hpre, hrest⟩ := List.append_eq_map_iff.1 htd
    cases rest with
    | nil => simp at hrest
    | cons p post =>
      simp only [List.map_cons, List.cons.injEq, Prod.mk.injEq] at hrest
      obtain ⟨⟨hk, hv⟩, hpost⟩ := hrest
      have hne : r ≠ b := by
        intro e1
        rw [e1, hb] at hr; cases hr
      have hb1 : w1.heap[b]? = some (.map es clock) := by rcases hw1 with rfl | rfl <;> exact hb
      have hr1 : w1.heap[r]? = some (.mapIter (some b) since seen c0) := by rcases hw1 with rfl | rfl <;> exact hr
      have hb2 : (setBlock w1 r (.mapIter (some b) since (seen.push e.born) clock)).heap[b]? = some (.map es clock) := (set_other _ (fun e1 => hne e1.symm)).trans hb1
      have hr2 : (setBlock w1 r (.mapIter (some b) since (seen.push e.born) clock)).heap[r]? = some (.mapIter (some b) since (seen.push e.born) clock) := set_same _ hr1
      have hn : (es.toList.map (·.born)).Nodup := hs.2.1
      refine ⟨pre, p, post, _, rfl, by rw [hrun, hk, hv], ⟨es, clock, since, seen.push e.born, clock, hb2, he, hs, hr2, hold, hsk, hsk, ?_⟩, ?_, ?_⟩
      · have hl : (leftOf es (seen.push e.born)).toList = ((leftOf es seen).toList.filter fun x => !(x.born == e.born)) := by
          unfold leftOf
          rw [Array.toList_filter, Array.toList_filter, List.filter_filter]
          refine List.filter_congr fun x _ => ?_
          rw [Array.contains_push]
          cases seen.contains x.born <;> cases (x.born == e.born) <;> simp_all
        rw [hl, hsplit, List.filter_append, List.filter_cons]
        have hsub : ((leftOf es seen).toList.map (·.born)).Nodup := by
          unfold leftOf
          rw [Array.toList_filter]
          exact ((List.filter_sublist).map _).nodup hn
        rw [hsplit, List.map_append, List.map_cons, List.nodup_append] at hsub
        obtain ⟨n1, n2, n3⟩ := hsub
        have f1 : pe.filter (fun x => !(x.born == e.born)) = pe := List.filter_eq_self.2 fun x hx => by
          have := n3 x.born (List.mem_map_of_mem hx) e.born List.mem_cons_self
          simpa using this
        have f2 : qe.filter (fun x => !(x.born == e.born)) = qe := List.filter_eq_self.2 fun x hx => by
          have := (List.nodup_cons.1 n2).1
          have h3 : ¬ x.born = e.born := fun e1 => this (by rw [← e1]; exact List.mem_map_of_mem hx)
          simpa using h3
        rw [f1, f2, if_neg (by simp), List.map_append, List.map_append, hpre, hpost]
      · refine ⟨?_, ?_, ?_, ?_, fun k hk hF => ?_⟩
        · rcases hw1 with rfl | rfl <;> rfl
        · rcases hw1 with rfl | rfl <;> rfl
        · rcases hw1 with rfl | rfl <;> rfl
        · rcases hw1 with rfl | rfl <;> simp [setBlock]
        · have := set_other (w := w1) (.mapIter (some b) since (seen.push e.born) clock) (fun e1 => hF e1)
          rw [this]
          rcases hw1 with rfl | rfl <;> rfl
      · rw [run_entry_at _ r b since seen es clock e hr2 hb2 hes hn, hk, hv]

/-! ### at the operation -/
variable {ops : Array Oper} {rest : List Oper} {o : Oper} {a : Act} {Q : Exit → Act → World → Prop}
theorem wp_range (h : MapK kv vv w b l) (hg : o.guard = none) (m : Operand) (t : TypeId) (hop : o.op = Op.range t m) (kt et : TypeId) (ht : P.underlying t = some (.map kt et)) (hm : a.eval m = .map (some b))
    (hK : ∀ w', IterK kv vv w' b w.heap.size l l → Below w.heap.size w w' → w'.heap.size = w.heap.size + 1 → wpList P ops Q rest (a.put o.dst (.pointer (some ⟨w.heap.size, 0, none⟩))) w') : wpList P ops Q (o :: rest) a w := by
  refine wpList_plain hg fun K' hK' => ?_
  obtain ⟨w', hrun, r1, r2⟩ := h.range ht
  unfold Oper.wp
  simp [execOp, hop, hm, hrun, Result.andThen]
  exact hK' _ _ (hK w' r1 (by rw [r2]; exact below_alloc (Below.refl _ _) _) (by rw [r2]; simp))
theorem wp_next (h : IterK kv vv w b r l todo) (hg : o.guard = none) (it : Operand) (hop : o.op = Op.next it false) (hit : a.eval it = .pointer (some ⟨r, 0, none⟩))
    (hDone : todo = [] → wpList P ops Q rest (a.put o.dst (.tuple #[.bool false])) w)
    (hMore : ∀ pre p post w', todo = pre ++ p :: post → IterK kv vv w' b r l (pre ++ post) → Chg (fun k => k = r) w w' → (Instr.entry (.pointer (some ⟨r, 0, none⟩))).run P w' = .ok (.tuple #[kv p.1, vv p.2]) w' → wpList P ops Q rest (a.put o.dst (.tuple #[.bool true, kv p.1, vv p.2])) w') :
    wpList P ops Q (o :: rest) a w := by
  refine wpList_plain hg fun K' hK' => ?_
  unfold Oper.wp
  rcases h.next (P := P) o.type with ⟨h0, hrun⟩ | ⟨pre, p, post, w', h1, hrun, h2, h3, h4⟩
  · simp [execOp, hop, hit, hrun, Result.andThen]
    exact hK' _ _ (hDone h0)
  · simp [execOp, hop, hit, hrun, Result.andThen]
    exact hK' _ _ (hMore pre p post w' h1 h2 h3 h4)
end
end Go.Proofs.Ytffockklleanmaa.X
