/- PoolBound on the machine. -/
import Derived.Test.YtffockklleanmaaPBX
namespace Go.Proofs.Ytffockklleanmaa.AM.SX
open Go Go.Proofs.Ytffockklleanmaa.X
set_option linter.unusedVariables false
set_option linter.unusedSimpArgs false
set_option maxRecDepth 100000
set_option maxHeartbeats 4000000
attribute [local irreducible] astep0 aev awants abin abuild
def lkv (k : Int) : Value × Value := (.int .i64 k, .bool true)
/-- what is lent: what isn't idle -/
def LentR (s : PS) (L : List Int) : Prop := ∀ k, k ∈ L ↔ ∃ x, s.find k = some x ∧ x.st ≠ 3
structure BPre (p lm : Nat) (sv : Value) (l : List OpT) (ids : List Nat) (bound : Int) (h : AHeap) (s : PS) (O : List Nat) (L : List Int) : Prop where
  pool : PoolAt h p s O
  wf : WF s
  most : s.most = bound
  map : h.get lm = some (.map (L.map lkv))
  nd : L.Nodup
  ml : lm ∉ O ∧ lm < h.next
  sc : ScriptAt h l sv ids
  scO : ∀ i ∈ ids, i ∉ O ∧ i ≠ lm ∧ i < h.next
section
variable {p lm : Nat} {sv : Value} {l : List OpT} {ids : List Nat} {bound : Int} {h h' : AHeap} {s s' : PS} {O : List Nat} {L : List Int}
theorem ScriptAt.keep (hs : ScriptAt h l sv ids) (hk : ∀ i ∈ ids, h'.get i = h.get i) : ScriptAt h' l sv ids := by
  rcases hs with hs | ⟨b, h1, h2, rfl⟩
  · exact .inl hs
  · exact .inr ⟨b, h1, by rw [hk b (.head _)]; exact h2, rfl⟩
theorem PoolAt.lt (hp : PoolAt h p s O) : ∀ i ∈ O, i < h.next := by
  obtain ⟨m, v, OI, hi, rfl⟩ := hp
  exact hi.lt
theorem PoolAt.keep' (hp : PoolAt h p s O) (hk : ∀ i ∈ O, h'.get i = h.get i) (hn : h.next ≤ h'.next) : PoolAt h' p s O := by
  obtain ⟨m, v, OI, hi, rfl⟩ := hp
  exact ⟨m, v, OI, hi.keep' hk hn, rfl⟩
theorem BPre.keep (b : BPre p lm sv l ids bound h s O L) (hk : Keep h h' []) : BPre p lm sv l ids bound h' s O L := by
  have hlt := b.pool.lt
  exact ⟨b.pool.keep' (fun i hi => hk.2 i (hlt i hi) (by simp)) hk.1, b.wf, b.most, by rw [hk.2 _ b.ml.2 (by simp)]; exact b.map, b.nd, ⟨b.ml.1, Nat.lt_of_lt_of_le b.ml.2 hk.1⟩, b.sc.keep fun i hi => hk.2 i (b.scO i hi).2.2 (by simp), fun i hi => ⟨(b.scO i hi).1, (b.scO i hi).2.1, Nat.lt_of_lt_of_le (b.scO i hi).2.2 hk.1⟩⟩
theorem BPre.upd (b : BPre p lm sv l ids bound h s O L) (hu : Upd h h' p O s') (hw : WF s') (hm : s'.most = s.most) : ∃ O', BPre p lm sv l ids bound h' s' O' L := by
  obtain ⟨O', g1, g2, g3⟩ := hu
  have hlt := b.pool.lt
  exact ⟨O', g1, hw, hm.trans b.most, by rw [g2.2 _ b.ml.2 b.ml.1]; exact b.map, b.nd, ⟨fun hi => by
    rcases g3 _ hi with h1 | h1
    · exact b.ml.1 h1
    · have := b.ml.2; omega, Nat.lt_of_lt_of_le b.ml.2 g2.1⟩, b.sc.keep fun i hi => g2.2 i (b.scO i hi).2.2 (b.scO i hi).1, fun i hi => ⟨fun ho => by
    rcases g3 _ ho with h1 | h1
    · exact (b.scO i hi).1 h1
    · have := (b.scO i hi).2.2; omega, (b.scO i hi).2.1, Nat.lt_of_lt_of_le (b.scO i hi).2.2 g2.1⟩⟩
theorem BPre.set (b : BPre p lm sv l ids bound h s O L) {L' : List Int} (hn : L'.Nodup) : BPre p lm sv l ids bound (h.set lm (.map (L'.map lkv))) s O L' :=
  ⟨b.pool.keep' (fun i hi => get_set_ne (fun e => b.ml.1 (e ▸ hi))) (Nat.le_refl _), b.wf, b.most, get_set_self _ _ _, hn, b.ml, b.sc.keep fun i hi => get_set_ne (b.scO i hi).2.1, b.scO⟩
/-! ### what is lent -/
theorem LentR.len (hl : LentR s L) (w : WF s) (hn : L.Nodup) : L.length ≤ s.all.length := by
  have h1 : L ⊆ s.all.map (·.k) := fun k hk => by
    obtain ⟨x, hx, _⟩ := (hl k).1 hk
    obtain ⟨hm, rfl⟩ := find_mem hx
    exact List.mem_map_of_mem hm
  simpa using nodup_sub hn h1
theorem LentR.full (hl : LentR s L) (w : WF s) (he : s.idles = []) : s.all.length ≤ L.length := by
  have h1 : s.all.map (·.k) ⊆ L := fun k hk => by
    obtain ⟨x, hx, rfl⟩ := List.mem_map.1 hk
    exact (hl _).2 ⟨x, find_mem_iff w.keys hx, fun e => by have := w.idle' x hx e; rw [he] at this; cases this⟩
  simpa using nodup_sub w.keys h1
theorem LentR.joined (hl : LentR s L) {k : Int} (hk : s.state k = 1) : LentR { s with all := setSt k 2 s.all } L := by
  intro j
  rw [hl j, find_setSt]
  constructor
  · rintro ⟨x, hx, hs⟩
    rw [hx]
    refine ⟨_, rfl, ?_⟩
    dsimp only
    split
    · show (2 : Int) ≠ 3; decide
    · exact hs
  · rintro ⟨y, hy, hs⟩
    obtain ⟨x, hx, rfl⟩ := Option.map_eq_some_iff.1 hy
    refine ⟨x, hx, ?_⟩
    by_cases e : x.k = k
    · have : s.find k = some x := by rw [← e, find_k hx]; exact hx
      unfold PS.state at hk
      rw [this] at hk
      have hk : x.st = 1 := hk
      rw [hk]; decide
    · rwa [if_neg e] at hs
theorem LentR.rest (hl : LentR s L) {k : Int} : LentR { s with all := setSt k 3 s.all, idles := s.idles ++ [k] } (L.filter (· != k)) := by
  intro j
  rw [List.mem_filter, hl j, find_setSt]
  constructor
  · rintro ⟨⟨x, hx, hs⟩, hj⟩
    have hj : j ≠ k := by simpa using hj
    rw [hx]
    refine ⟨_, rfl, ?_⟩
    dsimp only
    rw [if_neg (by rw [find_k hx]; exact hj)]
    exact hs
  · rintro ⟨y, hy, hs⟩
    obtain ⟨x, hx, rfl⟩ := Option.map_eq_some_iff.1 hy
    by_cases e : x.k = k
    · rw [if_pos e] at hs; exact absurd rfl hs
    · rw [if_neg e] at hs
      exact ⟨⟨x, hx, hs⟩, by simpa using fun e2 => e ((find_k hx).trans e2)⟩
theorem LentR.shut (hl : LentR s L) (k : Int) : LentR (shutF s k) (L.filter (· != k)) := by
  intro j
  unfold shutF
  rw [List.mem_filter, hl j, find_filter]
  by_cases e : j = k
  · subst e; simp
  · rw [if_neg e]
    constructor
    · rintro ⟨h1, _⟩; exact h1
    · intro h1; exact ⟨h1, by simpa using e⟩
theorem LentR.add (hl : LentR s L) (w : WF s) {id : Nat} {aim : ByteArray} {la : Int} (hla : ∀ x ∈ s.all, x.k ≠ la) : LentR { s with last := la, all := s.all ++ [⟨la, id, aim, 1⟩] } (L ++ [la]) := by
  intro j
  rw [List.mem_append, hl j, find_append, List.mem_singleton]
  constructor
  · rintro (⟨x, hx, hs⟩ | rfl)
    · exact ⟨x, by rw [hx]; rfl, hs⟩
    · cases hx : s.find j with
      | none => exact ⟨_, by rw [if_pos rfl]; rfl, by show (1 : Int) ≠ 3; decide⟩
      | some x => exact absurd (find_k hx) (hla x (find_mem hx).1)
  · rintro ⟨y, hy, hs⟩
    cases hx : s.find j with
    | some x =>
      rw [hx] at hy
      obtain rfl := Option.some.inj hy
      exact .inl ⟨x, rfl, hs⟩
    | none =>
      rw [hx] at hy
      by_cases e : la = j
      · exact .inr e.symm
      · rw [if_neg e] at hy; cases hy
theorem LentR.lent (hl : LentR s L) (w : WF s) {i : Nat} (hi : i < s.idles.length) : LentR { s with all := setSt s.idles[i] 2 s.all, idles := s.idles.eraseIdx i } (L ++ [s.idles[i]]) := by
  intro j
  rw [List.mem_append, hl j, find_setSt, List.mem_singleton]
  constructor
  · rintro (⟨x, hx, hs⟩ | rfl)
    · rw [hx]
      refine ⟨_, rfl, ?_⟩
      dsimp only
      split
      · show (2 : Int) ≠ 3; decide
      · exact hs
    · obtain ⟨x, hx, _⟩ := w.idle _ (List.getElem_mem hi)
      rw [hx]
      refine ⟨_, rfl, ?_⟩
      dsimp only
      rw [if_pos (find_k hx)]
      show (2 : Int) ≠ 3; decide
  · rintro ⟨y, hy, hs⟩
    obtain ⟨x, hx, rfl⟩ := Option.map_eq_some_iff.1 hy
    by_cases e : x.k = s.idles[i]
    · exact .inr ((find_k hx).symm.trans e)
    · rw [if_neg e] at hs; exact .inl ⟨x, hx, hs⟩
end
end Go.Proofs.Ytffockklleanmaa.AM.SX
