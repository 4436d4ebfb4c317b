/- What the program's words on letters and lists of parts compute, on lists of bytes. -/
import Derived.Test.YtijindelbagpiaaDoorPFieldPartsx2
import Derived.Test.YtijindelbagpiaaDoorPFieldPartsx3
import Derived.Test.YtijindelbagpiaaDoorKFieldPartsXSign
namespace Go.Proofs.YtijindelbagpiaaDoor.X
open Go.RowKit Go.Proofs.YtijindelbagpiaaDoor.PFieldParts Go.Proofs.YtijindelbagpiaaDoorW.PrintWords Go.Proofs.YtijindelbagpiaaDoorW.PrintMore
set_option linter.unusedVariables false
set_option linter.unusedSimpArgs false

theorem suc2 {k m : Nat} (h : m < k) : ∃ j, k = j + 1 ∧ m ≤ j := ⟨k - 1, by omega, by omega⟩
def mkB (l : List UInt8) : ByteArray := ⟨l.toArray⟩
theorem L_mkB (l : List UInt8) : L (mkB l) = l := by simp [mkB, L]
theorem mkB_L (s : ByteArray) : mkB (L s) = s := L_inj (L_mkB _)
theorem size_mkB (l : List UInt8) : (mkB l).size = l.length := by rw [size_eq, L_mkB]
theorem mkB_inj {l m : List UInt8} (h : mkB l = mkB m) : l = m := by rw [← L_mkB l, h, L_mkB]

def foldL (l : List UInt8) : List UInt8 := l.map sign_Fold.c
def foldB (s : ByteArray) : ByteArray := mkB (foldL (L s))
def sameB (a b : ByteArray) : Bool := foldL (L a) == foldL (L b)
theorem fold_spec (s : ByteArray) (hs : s.size ≤ 140737488351232) : sign_Fold.f s = some (foldB s) := by unfold sign_Fold.f; rw [if_pos hs]; rfl
theorem same_spec (a b : ByteArray) (ha : a.size ≤ 140737488351232) (hb : b.size ≤ 140737488351232) : sign_Same.f a b = some (sameB a b) := by
  unfold sign_Same.f
  by_cases h : (a.size : Int) = (b.size : Int)
  · rw [if_pos h, fold_spec a ha, fold_spec b hb]
    simp only [Option.bind_some, toList_eq, foldB, L_mkB, sameB]
  · rw [if_neg h]
    have : ¬ foldL (L a) = foldL (L b) := fun e => h (by
      have := congrArg List.length e
      simp only [foldL, List.length_map, L_len] at this
      omega)
    unfold sameB
    rw [show (foldL (L a) == foldL (L b)) = false from by simpa using this]
theorem foldc2_fin : ∀ n : Fin 256, sign_Fold.c (sign_Fold.c (n.val.toUInt8)) = sign_Fold.c (n.val.toUInt8) := by decide +kernel
theorem foldc2 (c : UInt8) : sign_Fold.c (sign_Fold.c c) = sign_Fold.c c := by
  have h := foldc2_fin ⟨c.toNat, c.toNat_lt⟩
  have e : (c.toNat).toUInt8 = c := by simp
  simp only [e] at h
  exact h
theorem foldL_fold (l : List UInt8) : foldL (foldL l) = foldL l := by
  unfold foldL; rw [List.map_map]; exact List.map_congr_left fun c _ => foldc2 c
theorem size_foldB (s : ByteArray) : (foldB s).size = s.size := by unfold foldB; rw [size_mkB]; simp only [foldL, List.length_map, L_len]

def pieces (c : UInt8) : List UInt8 → List (List UInt8)
  | [] => [[]]
  | x :: l => if x = c then [] :: pieces c l else match pieces c l with
    | [] => [[x]]
    | p :: ps => (x :: p) :: ps
theorem pieces_none (c : UInt8) : ∀ l : List UInt8, c ∉ l → pieces c l = [l]
  | [], _ => rfl
  | x :: l, h => by
    have h1 : ¬ x = c := fun e => h (by rw [e]; exact List.mem_cons_self)
    have h2 : c ∉ l := fun e => h (List.mem_cons_of_mem _ e)
    unfold pieces
    rw [if_neg h1, pieces_none c l h2]
theorem pieces_app (c : UInt8) (b : List UInt8) : ∀ a : List UInt8, c ∉ a → pieces c (a ++ c :: b) = a :: pieces c b
  | [], _ => by
    rw [List.nil_append]
    conv => lhs; unfold pieces
    rw [if_pos rfl]
  | x :: a, h => by
    have h1 : ¬ x = c := fun e => h (by rw [e]; exact List.mem_cons_self)
    have h2 : c ∉ a := fun e => h (List.mem_cons_of_mem _ e)
    rw [List.cons_append]
    conv => lhs; unfold pieces
    rw [if_neg h1, pieces_app c b a h2]
theorem pieces_len (c : UInt8) : ∀ l : List UInt8, (pieces c l).length = l.count c + 1
  | [] => rfl
  | x :: l => by
    have ih := pieces_len c l
    unfold pieces
    by_cases h : x = c
    · rw [if_pos h, List.length_cons, ih, h, List.count_cons_self]
    · rw [if_neg h, List.count_cons_of_ne h]
      cases hp : pieces c l with
      | nil => rw [hp] at ih; simp at ih
      | cons p ps => rw [hp] at ih; exact ih
theorem pieces_le (c : UInt8) : ∀ l p, p ∈ pieces c l → p.length ≤ l.length
  | [], p, h => by
    have : p = [] := by simpa [pieces] using h
    rw [this]; exact Nat.le_refl _
  | x :: l, p, h => by
    have ih := pieces_le c l
    unfold pieces at h
    by_cases h1 : x = c
    · rw [if_pos h1] at h
      rcases List.mem_cons.1 h with h | h
      · rw [h]; simp
      · have := ih p h; simp only [List.length_cons]; omega
    · rw [if_neg h1] at h
      cases hp : pieces c l with
      | nil =>
        rw [hp] at h
        have : p = [x] := by simpa using h
        rw [this]; simp
      | cons q qs =>
        rw [hp] at h ih
        rcases List.mem_cons.1 h with h | h
        · rw [h]
          have := ih q List.mem_cons_self
          simp only [List.length_cons]; omega
        · have := ih p (List.mem_cons_of_mem _ h); simp only [List.length_cons]; omega
def parts (s : ByteArray) : List ByteArray := (((pieces 44 (L s)).map trimL).filter fun p => !p.isEmpty).map mkB

theorem set_take {α : Type} (a : List α) (j : Nat) (x : α) (h : j < a.length) : (a.set j x).take (j + 1) = a.take j ++ [x] := by
  rw [List.take_add_one, List.getElem?_set_self h, List.take_set_of_le (Nat.le_refl _)]
  rfl
theorem idx44 (s : ByteArray) : strings_Index.f s (⟨#[44]⟩ : ByteArray) = some (Lib.indexByte (L s) 44) := by
  unfold strings_Index.f stringslite_Index.f
  have h1 : (⟨#[44]⟩ : ByteArray).size = 1 := rfl
  rw [if_pos h1]; rfl
theorem split_at {l : List UInt8} {c : UInt8} (h : c ∈ l) : l = l.takeWhile (· != c) ++ c :: l.drop ((l.takeWhile (· != c)).length + 1) ∧ c ∉ l.takeWhile (· != c) ∧ (l.takeWhile (· != c)).length < l.length := by
  obtain ⟨a, b, e, hn⟩ := List.eq_append_cons_of_mem h
  have hp : ∀ x ∈ a, (x != c) = true := fun x hx => by
    simp only [bne_iff_ne, ne_eq]; rintro rfl; exact hn hx
  have ht : l.takeWhile (· != c) = a := by
    rw [e, List.takeWhile_append_of_pos hp, List.takeWhile_cons, if_neg (by simp), List.append_nil]
  rw [ht]
  refine ⟨?_, hn, ?_⟩
  · conv => lhs; rw [e]
    rw [e, List.drop_append, List.drop_of_length_le (by omega)]
    simp
  · rw [e]; simp
theorem sz44 : (⟨#[44]⟩ : ByteArray).size = 1 := rfl
theorem w44 (m : Nat) (hm : m < 9223372036854775807) : wrap64 ((m : Int) + (((⟨#[44]⟩ : ByteArray).size : Nat) : Int)) = ((m + 1 : Nat) : Int) := by
  rw [sz44, wrap64_in (by omega) (by omega)]; rfl
theorem w11 (m : Nat) (hm : m < 9223372036854775807) : wrap64 (((m + 1 : Nat) : Int) - 1) = (m : Int) := by rw [wrap64_in (by omega) (by omega)]; omega
theorem w00 (m : Nat) (hm : m < 9223372036854775807) : wrap64 ((m : Int) + 0) = (m : Int) := by rw [wrap64_in (by omega) (by omega)]; omega
theorem gen_loop (n : Nat) (hn : n ≤ 17592186044415) : ∀ d (x : ByteArray) (a : List ByteArray) j k, (L x).count 44 = d → j + d = n → a.length = n + 1 → d < k → x.size ≤ 140737488351232 → strings_genSplit.l0 k x (⟨#[44]⟩ : ByteArray) 0 (n : Int) a (j : Int) = some (a.take j ++ (pieces 44 (L x)).map mkB) := by
  intro d
  induction d with
  | zero =>
    intro x a j k hc hj ha hk hx; obtain ⟨k, rfl, _⟩ := suc hk
    have h44 : (44 : UInt8) ∉ L x := List.count_eq_zero.1 hc
    simp only [strings_genSplit.l0]
    rw [if_neg (by omega), if_pos (by omega), if_pos (by omega), succ_cast j (by omega), if_pos (by omega), if_pos (by omega), Int.toNat_natCast, Int.toNat_natCast, set_take a j x (by omega), pieces_none 44 _ h44, List.map_cons, List.map_nil, mkB_L]
  | succ d ih =>
    intro x a j k hc hj ha hk hx; obtain ⟨k, rfl, _⟩ := suc hk
    have h44 : (44 : UInt8) ∈ L x := List.count_pos_iff.1 (by omega)
    obtain ⟨e, hn1, hlt⟩ := split_at h44
    have hi := indexByte_spec 44 (L x)
    rw [if_pos h44] at hi
    generalize hm : ((L x).takeWhile (· != 44)).length = m at *
    rw [L_len] at hlt
    simp only [strings_genSplit.l0]
    rw [if_pos (by omega), idx44, hi, Option.bind_some, if_neg (by omega), w00 m (by omega), w44 m (by omega), if_pos (by omega), if_pos (by omega), if_pos (by omega), if_pos (by omega), if_pos (by omega), if_pos (by omega), succ_cast j (by omega), Int.toNat_natCast, Int.toNat_natCast, Int.toNat_natCast]
    have e1 : L (x.extract (m + 1) x.size) = (L x).drop (m + 1) := by
      rw [L_extract, List.take_of_length_le (by rw [List.length_drop, L_len]; omega)]
    have e2 : x.extract 0 m = mkB ((L x).takeWhile (· != 44)) := L_inj (by
      rw [L_mkB, L_extract, List.drop_zero, Nat.sub_zero, ← hm]
      exact takeWhile_take 44 _)
    have hcount : (L (x.extract (m + 1) x.size)).count 44 = d := by
      rw [e1]
      rw [e, List.count_append, List.count_eq_zero.2 hn1, List.count_cons_self] at hc
      omega
    rw [ih _ _ (j + 1) k hcount (by omega) (by rw [List.length_set]; exact ha) (by omega) (by rw [size_extract]; omega), set_take a j _ (by omega), e1, e2]
    have hpc : pieces 44 (L x) = (L x).takeWhile (· != 44) :: pieces 44 ((L x).drop (m + 1)) := by
      conv => lhs; rw [e]
      exact pieces_app 44 _ _ hn1
    rw [hpc, List.map_cons, List.append_assoc, List.singleton_append]
theorem ssplit_spec (s : ByteArray) (hs : s.size ≤ 17592186044415) (k : Nat) (hk : s.size + 1 < k) : strings_Split.f k s (⟨#[44]⟩ : ByteArray) = some ((pieces 44 (L s)).map mkB) := by
  unfold strings_Split.f strings_genSplit.f strings_Count.f
  have hcl : (L s).count 44 ≤ s.size := by rw [← L_len]; exact List.count_le_length
  have hc : Lib.countByte s.data.toList (bt (⟨#[44]⟩ : ByteArray) 0).toNat.toUInt8 = (L s).count 44 := rfl
  rw [if_neg (by omega), toList_eq, if_neg (by decide), if_pos (by omega), if_pos sz44, hc]
  simp only [Option.bind_some]
  rw [succ_cast _ (by omega)]
  obtain ⟨k, rfl, _⟩ := suc (show 0 < k by omega)
  have hmn : mn (((L s).count 44 + 1 : Nat) : Int) (wrap64 ((s.size : Int) + 1)) = (((L s).count 44 + 1 : Nat) : Int) := by
    rw [succ_cast s.size (by omega)]
    unfold mn
    split
    · omega
    · rfl
  simp only [strings_genSplit.j0]
  rw [hmn, if_pos (by omega), Int.toNat_natCast, if_pos (by omega), w11 _ (by omega)]
  have h := gen_loop ((L s).count 44) (by omega) _ s (List.replicate ((L s).count 44 + 1) (⟨#[]⟩ : ByteArray)) 0 k rfl (by omega) (by rw [List.length_replicate]) (by omega) (by omega)
  rw [Int.natCast_zero, List.take_zero, List.nil_append] at h
  rw [h]
  rfl

theorem rd_get {α : Type} (d : α) (l : List α) (i : Nat) (h : i < l.length) : rdOf d l (i : Int) = l[i] := by
  unfold rdOf; rw [Int.toNat_natCast, List.getD_eq_getElem?_getD, List.getElem?_eq_getElem h]; rfl
def keepT (l : List ByteArray) : List ByteArray := (l.map trimB).filter fun p => !(L p).isEmpty
theorem keepT_cons (x : ByteArray) (l : List ByteArray) : keepT (x :: l) = (if L (trimB x) = [] then [] else [trimB x]) ++ keepT l := by
  unfold keepT
  rw [List.map_cons, List.filter_cons]
  cases h : L (trimB x) with
  | nil => rfl
  | cons a b => rw [if_pos (by rfl), if_neg (by simp)]; rfl
theorem keepT_len (l : List ByteArray) : (keepT l).length ≤ l.length := by
  unfold keepT
  have := List.length_filter_le (fun p => !(L p).isEmpty) (l.map trimB)
  rwa [List.length_map] at this
theorem split_loop (v : List ByteArray) (hv : v.length ≤ 4398046511104) (hs : ∀ x ∈ v, x.size ≤ 140737488351232) : ∀ d i k acc, i + d = v.length → d < k → acc.length + d ≤ 4398046511104 → sign_Split.l0 k acc v (v.length : Int) (i : Int) = some (acc ++ keepT (v.drop i)) := by
  intro d
  induction d with
  | zero =>
    intro i k acc hi hk ha; obtain ⟨k, rfl, _⟩ := suc hk
    simp only [sign_Split.l0]; rw [if_neg (by omega), List.drop_of_length_le (by omega)]; simp [keepT]
  | succ d ih =>
    intro i k acc hi hk ha; obtain ⟨k, rfl, _⟩ := suc hk
    have h : i < v.length := by omega
    simp only [sign_Split.l0]
    rw [if_pos (by omega), if_pos (by omega), if_pos (by omega), rd_get _ v i h, trim_spec _ (hs _ (List.getElem_mem h)), Option.bind_some, toList_eq, succ_cast i (by omega), List.drop_eq_getElem_cons h, keepT_cons]
    by_cases he : L (trimB v[i]) = []
    · rw [if_pos he, if_pos he, ih (i + 1) k acc (by omega) (by omega) (by omega), List.nil_append]
    · rw [if_neg he, if_neg he, if_pos (by omega), ih (i + 1) k _ (by omega) (by omega) (by rw [List.length_append, List.length_singleton]; omega), List.append_assoc]
theorem keepT_pieces (s : ByteArray) : keepT ((pieces 44 (L s)).map mkB) = parts s := by
  unfold keepT parts
  generalize pieces 44 (L s) = ps
  induction ps with
  | nil => rfl
  | cons p ps ih =>
    rw [List.map_cons, List.map_cons, List.map_cons, List.filter_cons, List.filter_cons, L_trimB, L_mkB, ih]
    have e : trimB (mkB p) = mkB (trimL p) := L_inj (by rw [L_trimB, L_mkB, L_mkB])
    cases h : trimL p with
    | nil => rfl
    | cons a b => simp [e, h]
theorem pieces_len_le (s : ByteArray) : (pieces 44 (L s)).length ≤ s.size + 1 := by
  rw [pieces_len]
  have : (L s).count 44 ≤ s.size := by rw [← L_len]; exact List.count_le_length
  omega
theorem split_spec (s : ByteArray) (hs : s.size ≤ 2199023255552) (k : Nat) (hk : s.size + 1 < k) : sign_Split.f k s = some (parts s) := by
  unfold sign_Split.f
  rw [ssplit_spec s (by omega) k hk, Option.bind_some]
  have hl := pieces_len_le s
  have h := split_loop ((pieces 44 (L s)).map mkB) (by rw [List.length_map]; omega) (fun x hx => by
    obtain ⟨p, hp, rfl⟩ := List.mem_map.1 hx
    have := pieces_le 44 _ p hp
    rw [L_len] at this
    rw [size_mkB]; omega) ((pieces 44 (L s)).map mkB).length 0 k [] (by omega) (by rw [List.length_map]; omega) (by rw [List.length_map]; simp; omega)
  rw [Int.natCast_zero, List.drop_zero, List.nil_append, keepT_pieces] at h
  exact h
theorem parts_len (s : ByteArray) : (parts s).length ≤ s.size + 1 := by
  rw [← keepT_pieces]
  have h1 := keepT_len ((pieces 44 (L s)).map mkB)
  have h2 := pieces_len_le s
  rw [List.length_map] at h1
  omega
theorem parts_size (s : ByteArray) : ∀ p ∈ parts s, p.size ≤ s.size := by
  intro p hp
  unfold parts at hp
  obtain ⟨q, hq, rfl⟩ := List.mem_map.1 hp
  obtain ⟨r, hr, rfl⟩ := List.mem_map.1 (List.mem_filter.1 hq).1
  have h1 := pieces_le 44 _ r hr
  have h2 := trimL_le r
  rw [L_len] at h1
  rw [size_mkB]; omega

end Go.Proofs.YtijindelbagpiaaDoor.X
