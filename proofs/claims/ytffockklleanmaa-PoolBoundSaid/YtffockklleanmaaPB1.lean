/- PoolBound on the machine. -/
import Derived.Test.YtffockklleanmaaPBX
namespace Go.Proofs.Ytffockklleanmaa.AM.SX
open Go Go.Proofs.Ytffockklleanmaa.X
set_option linter.unusedVariables false
set_option linter.unusedSimpArgs false
set_option maxRecDepth 100000
set_option maxHeartbeats 4000000
attribute [local irreducible] astep0 aev awants abin abuild
def lkv (k : Int) : Value × Value := (.int .i64 k, .bool true)
theorem mget_l (k : Int) : ∀ l : List Int, mget (l.map lkv) (.int .i64 k) = some (if k ∈ l then some (.bool true) else none)
  | [] => rfl
  | x :: l => by
    have e : keyEq (.int .i64 k) (.int .i64 x) = some (k == x) := by simp [keyEq]
    simp only [List.map_cons, lkv, mget, e]
    by_cases h : k = x
    · subst h; simp
    · have h1 : (k == x) = false := by simpa using h
      rw [h1]
      have ih := mget_l k l
      simp only [List.mem_cons, h, false_or]
      exact ih
theorem mput_l {k : Int} : ∀ {l : List Int}, k ∉ l → mput (l.map lkv) (.int .i64 k) (.bool true) = some ((l ++ [k]).map lkv)
  | [], _ => rfl
  | x :: l, h => by
    have h1 : k ≠ x := fun e => h (e ▸ .head _)
    have e : keyEq (.int .i64 k) (.int .i64 x) = some false := by simp [keyEq, h1]
    have ih := mput_l (l := l) (fun hm => h (.tail _ hm))
    simp only [List.map_cons, List.cons_append, mput, ih]
    simp only [lkv, e]
theorem mdel_l {k : Int} : ∀ {l : List Int}, l.Nodup → mdel (l.map lkv) (.int .i64 k) = some ((l.filter (· != k)).map lkv)
  | [], _ => rfl
  | x :: l, hn => by
    have e : keyEq (.int .i64 k) (.int .i64 x) = some (k == x) := by simp [keyEq]
    simp only [List.nodup_cons] at hn
    simp only [List.map_cons, mdel, List.filter_cons]
    simp only [lkv, e]
    by_cases h : k = x
    · subst h
      have h1 : l.filter (· != k) = l := by
        rw [List.filter_eq_self]
        intro y hy
        simp only [bne_iff_ne, ne_eq]
        exact fun e => hn.1 (e ▸ hy)
      simp [h1]
    · have h1 : (k == x) = false := by simpa using h
      have h2 : (x != k) = true := by simpa using fun e => h e.symm
      have ih := mdel_l (k := k) (l := l) hn.2
      rw [h1, h2]
      simp only [ih, if_true, List.map_cons]
      rfl
/-- what is lent: what isn't idle -/
def LentR (s : PS) (L : List Int) : Prop := ∀ k, k ∈ L ↔ ∃ x, s.find k = some x ∧ x.st ≠ 3
structure BPre (p lm : Nat) (sv : Value) (l : List OpT) (ids : List Nat) (bound : Int) (h : AHeap) (s : PS) (O : List Nat) (L : List Int) : Prop where
  pool : PoolAt h p s O
  wf : WF s
  most : s.most = bound
  map : h.get lm = some (.map (L.map lkv))
  nd : L.Nodup
  ml : lm ∉ O ∧ lm < h.next
  sc : ScriptAt h l sv ids
  scO : ∀ i ∈ ids, i ∉ O ∧ i ≠ lm ∧ i < h.next
section
variable {p lm : Nat} {sv : Value} {l : List OpT} {ids : List Nat} {bound : Int} {h h' : AHeap} {s s' : PS} {O : List Nat} {L : List Int}
theorem ScriptAt.keep (hs : ScriptAt h l sv ids) (hk : ∀ i ∈ ids, h'.get i = h.get i) : ScriptAt h' l sv ids := by
  rcases hs with hs | ⟨b, h1, h2, rfl⟩
  · exact .inl hs
  · exact .inr ⟨b, h1, by rw [hk b (.head _)]; exact h2, rfl⟩
theorem PoolAt.lt (hp : PoolAt h p s O) : ∀ i ∈ O, i < h.next := by
  obtain ⟨m, v, OI, hi, rfl⟩ := hp
  exact hi.lt
theorem PoolAt.keep' (hp : PoolAt h p s O) (hk : ∀ i ∈ O, h'.get i = h.get i) (hn : h.next ≤ h'.next) : PoolAt h' p s O := by
  obtain ⟨m, v, OI, hi, rfl⟩ := hp
  exact ⟨m, v, OI, hi.keep' hk hn, rfl⟩
theorem BPre.keep (b : BPre p lm sv l ids bound h s O L) (hk : Keep h h' []) : BPre p lm sv l ids bound h' s O L := by
  have hlt := b.pool.lt
  exact ⟨b.pool.keep' (fun i hi => hk.2 i (hlt i hi) (by simp)) hk.1, b.wf, b.most, by rw [hk.2 _ b.ml.2 (by simp)]; exact b.map, b.nd, ⟨b.ml.1, Nat.lt_of_lt_of_le b.ml.2 hk.1⟩, b.sc.keep fun i hi => hk.2 i (b.scO i hi).2.2 (by simp), fun i hi => ⟨(b.scO i hi).1, (b.scO i hi).2.1, Nat.lt_of_lt_of_le (b.scO i hi).2.2 hk.1⟩⟩
theorem BPre.upd (b : BPre p lm sv l ids bound h s O L) (hu : Upd h h' p O s') (hw : WF s') (hm : s'.most = s.most) : ∃ O', BPre p lm sv l ids bound h' s' O' L := by
  obtain ⟨O', g1, g2, g3⟩ := hu
  have hlt := b.pool.lt
  exact ⟨O', g1, hw, hm.trans b.most, by rw [g2.2 _ b.ml.2 b.ml.1]; exact b.map, b.nd, ⟨fun hi => by
    rcases g3 _ hi with h1 | h1
    · exact b.ml.1 h1
    · have := b.ml.2; omega, Nat.lt_of_lt_of_le b.ml.2 g2.1⟩, b.sc.keep fun i hi => g2.2 i (b.scO i hi).2.2 (b.scO i hi).1, fun i hi => ⟨fun ho => by
    rcases g3 _ ho with h1 | h1
    · exact (b.scO i hi).1 h1
    · have := (b.scO i hi).2.2; omega, (b.scO i hi).2.1, Nat.lt_of_lt_of_le (b.scO i hi).2.2 g2.1⟩⟩
theorem BPre.set (b : BPre p lm sv l ids bound h s O L) {L' : List Int} (hn : L'.Nodup) : BPre p lm sv l ids bound (h.set lm (.map (L'.map lkv))) s O L' :=
  ⟨b.pool.keep' (fun i hi => get_set_ne (fun e => b.ml.1 (e ▸ hi))) (Nat.le_refl _), b.wf, b.most, get_set_self _ _ _, hn, b.ml, b.sc.keep fun i hi => get_set_ne (b.scO i hi).2.1, b.scO⟩
/-! ### what is lent -/
theorem LentR.len (hl : LentR s L) (w : WF s) (hn : L.Nodup) : L.length ≤ s.all.length := by
  have h1 : L ⊆ s.all.map (·.k) := fun k hk => by
    obtain ⟨x, hx, _⟩ := (hl k).1 hk
    obtain ⟨hm, rfl⟩ := find_mem hx
    exact List.mem_map_of_mem hm
  simpa using nodup_sub hn h1
theorem LentR.full (hl : LentR s L) (w : WF s) (he : s.idles = []) : s.all.length ≤ L.length := by
  have h1 : s.all.map (·.k) ⊆ L := fun k hk => by
    obtain ⟨x, hx, rfl⟩ := List.mem_map.1 hk
    exact (hl _).2 ⟨x, find_mem_iff w.keys hx, fun e => by have := w.idle' x hx e; rw [he] at this; cases this⟩
  simpa using nodup_sub w.keys h1
theorem LentR.joined (hl : LentR s L) {k : Int} (hk : s.state k = 1) : LentR { s with all := setSt k 2 s.all } L := by
  intro j
  rw [hl j, find_setSt]
  constructor
  · rintro ⟨x, hx, hs⟩
    rw [hx]
    refine ⟨_, rfl, ?_⟩
    dsimp only
    split
    · show (2 : Int) ≠ 3; decide
    · exact hs
  · rintro ⟨y, hy, hs⟩
    obtain ⟨x, hx, rfl⟩ := Option.map_eq_some_iff.1 hy
    refine ⟨x, hx, ?_⟩
    by_cases e : x.k = k
    · have : s.find k = some x := by rw [← e, find_k hx]; exact hx
      unfold PS.state at hk
      rw [this] at hk
      have hk : x.st = 1 := hk
      rw [hk]; decide
    · rwa [if_neg e] at hs
theorem LentR.rest (hl : LentR s L) {k : Int} : LentR { s with all := setSt k 3 s.all, idles := s.idles ++ [k] } (L.filter (· != k)) := by
  intro j
  rw [List.mem_filter, hl j, find_setSt]
  constructor
  · rintro ⟨⟨x, hx, hs⟩, hj⟩
    have hj : j ≠ k := by simpa using hj
    rw [hx]
    refine ⟨_, rfl, ?_⟩
    dsimp only
    rw [if_neg (by rw [find_k hx]; exact hj)]
    exact hs
  · rintro ⟨y, hy, hs⟩
    obtain ⟨x, hx, rfl⟩ := Option.map_eq_some_iff.1 hy
    by_cases e : x.k = k
    · rw [if_pos e] at hs; exact absurd rfl hs
    · rw [if_neg e] at hs
      exact ⟨⟨x, hx, hs⟩, by simpa using fun e2 => e ((find_k hx).trans e2)⟩
theorem LentR.shut (hl : LentR s L) (k : Int) : LentR (shutF s k) (L.filter (· != k)) := by
  intro j
  unfold shutF
  rw [List.mem_filter, hl j, find_filter]
  by_cases e : j = k
  · subst e; simp
  · rw [if_neg e]
    constructor
    · rintro ⟨h1, _⟩; exact h1
    · intro h1; exact ⟨h1, by simpa using e⟩
theorem LentR.shut' (hl : LentR s L) {k : Int} (hk : k ∉ L) : LentR (shutF s k) L := by
  have h1 := hl.shut k
  have h2 : L.filter (· != k) = L := by
    rw [List.filter_eq_self]
    intro y hy
    simp only [bne_iff_ne, ne_eq]
    exact fun e => hk (e ▸ hy)
  rwa [h2] at h1
theorem LentR.add (hl : LentR s L) (w : WF s) {id : Nat} {aim : ByteArray} {la : Int} (hla : ∀ x ∈ s.all, x.k ≠ la) : LentR { s with last := la, all := s.all ++ [⟨la, id, aim, 1⟩] } (L ++ [la]) := by
  intro j
  rw [List.mem_append, hl j, find_append, List.mem_singleton]
  constructor
  · rintro (⟨x, hx, hs⟩ | rfl)
    · exact ⟨x, by rw [hx]; rfl, hs⟩
    · cases hx : s.find j with
      | none => exact ⟨_, by rw [if_pos rfl]; rfl, by show (1 : Int) ≠ 3; decide⟩
      | some x => exact absurd (find_k hx) (hla x (find_mem hx).1)
  · rintro ⟨y, hy, hs⟩
    cases hx : s.find j with
    | some x =>
      rw [hx] at hy
      obtain rfl := Option.some.inj hy
      exact .inl ⟨x, rfl, hs⟩
    | none =>
      rw [hx] at hy
      by_cases e : la = j
      · exact .inr e.symm
      · rw [if_neg e] at hy; cases hy
theorem idle_not (hl : LentR s L) (w : WF s) {k : Int} (hk : k ∈ s.idles) : k ∉ L := fun hm => by
  obtain ⟨x, hx, hs⟩ := (hl k).1 hm
  obtain ⟨y, hy, hst⟩ := w.idle k hk
  rw [hx] at hy
  obtain rfl := Option.some.inj hy
  exact hs hst
theorem LentR.lent (hl : LentR s L) (w : WF s) {i : Nat} (hi : i < s.idles.length) : LentR { s with all := setSt s.idles[i] 2 s.all, idles := s.idles.eraseIdx i } (L ++ [s.idles[i]]) := by
  intro j
  rw [List.mem_append, hl j, find_setSt, List.mem_singleton]
  constructor
  · rintro (⟨x, hx, hs⟩ | rfl)
    · rw [hx]
      refine ⟨_, rfl, ?_⟩
      dsimp only
      split
      · show (2 : Int) ≠ 3; decide
      · exact hs
    · obtain ⟨x, hx, _⟩ := w.idle _ (List.getElem_mem hi)
      rw [hx]
      refine ⟨_, rfl, ?_⟩
      dsimp only
      rw [if_pos (find_k hx)]
      show (2 : Int) ≠ 3; decide
  · rintro ⟨y, hy, hs⟩
    obtain ⟨x, hx, rfl⟩ := Option.map_eq_some_iff.1 hy
    by_cases e : x.k = s.idles[i]
    · exact .inr ((find_k hx).symm.trans e)
    · rw [if_neg e] at hs; exact .inl ⟨x, hx, hs⟩
theorem zero_not (hl : LentR s L) (w : WF s) : (0 : Int) ∉ L := fun hm => by
  obtain ⟨x, hx, _⟩ := (hl 0).1 hm
  obtain ⟨h1, h2⟩ := find_mem hx
  have := (w.klt x h1).1
  omega
theorem big_not (hl : LentR s L) (w : WF s) : s.last + 1 ∉ L := fun hm => by
  obtain ⟨x, hx, _⟩ := (hl _).1 hm
  obtain ⟨h1, h2⟩ := find_mem hx
  have := (w.klt x h1).2
  omega
/-- of what Take gives: all that PoolBound asks -/
theorem take_bound (hl : LentR s L) (w : WF s) (hn : L.Nodup) {aim : ByteArray} {H S e : Int} {F : Bool} (ht : TakeR s aim H S F e s') :
    (e = 6 ∧ s' = s ∧ H = 0 ∧ S = 0 ∧ F = false ∧ s.most ≤ L.length) ∨
    (e = 0 ∧ H ∉ L ∧ S ∉ L ∧ (F = true → H = s.last + 1 ∧ s'.last = s.last + 1) ∧ (F = false → S = 0 ∧ H ≤ s.last ∧ s'.last = s.last) ∧ s'.aim H = aim ∧ LentR s' (L ++ [H]) ∧ s'.most = s.most) := by
  cases ht with
  | lent i hi ha hlq =>
    refine .inr ⟨rfl, idle_not hl w (List.getElem_mem hi), zero_not hl w, fun e => (by cases e), fun _ => ⟨rfl, ?_, rfl⟩, ?_, hl.lent w hi, rfl⟩
    · obtain ⟨x, hx, _⟩ := w.idle _ (List.getElem_mem hi)
      obtain ⟨h1, h2⟩ := find_mem hx
      have := (w.klt x h1).2
      omega
    · unfold PS.aim
      rw [find_setSt]
      unfold PS.aim at ha
      obtain ⟨x, hx, _⟩ := w.idle _ (List.getElem_mem hi)
      rw [hx] at ha ⊢
      show (if x.k = s.idles[i] then ({ x with st := 2 } : Hd) else x).aim = aim
      rw [if_pos (find_k hx)]
      exact ha
  | full hnq hf he =>
    refine .inl ⟨rfl, rfl, rfl, rfl, rfl, ?_⟩
    have := hl.full w he
    omega
  | shut hnq hf k r he id =>
    have hk : S ∈ s.idles := by rw [he]; exact .head _
    have hkn := idle_not hl w hk
    refine .inr ⟨rfl, big_not hl w, hkn, fun _ => ⟨rfl, rfl⟩, fun e => (by cases e), ?_, LentR.add (hl.shut' hkn) (w.shut S) ?_, rfl⟩
    · unfold PS.aim
      rw [find_append]
      cases hx : (shutF s S).find (s.last + 1) with
      | none => rw [if_pos rfl]; rfl
      | some x =>
        obtain ⟨h1, h2⟩ := find_mem hx
        have := ((w.shut S).klt x h1).2
        have h3 : (shutF s S).last = s.last := rfl
        omega
    · intro x hx e
      have := ((w.shut S).klt x hx).2
      have h3 : (shutF s S).last = s.last := rfl
      omega
  | fresh hnq hf id =>
    refine .inr ⟨rfl, big_not hl w, zero_not hl w, fun _ => ⟨rfl, rfl⟩, fun e => (by cases e), ?_, hl.add w ?_, rfl⟩
    · unfold PS.aim
      rw [find_append]
      cases hx : s.find (s.last + 1) with
      | none => rw [if_pos rfl]; rfl
      | some x =>
        obtain ⟨h1, h2⟩ := find_mem hx
        have := (w.klt x h1).2
        omega
    · intro x hx e
      have := (w.klt x hx).2
      omega
end
end Go.Proofs.Ytffockklleanmaa.AM.SX
