/- What is left without some names has none of them; nothing of others has gone: for every input, no condition (nothing is ever split: of what is left no field has the name). -/
import Derived.Test.YtijindelbagpiaaDoorPFieldPartsx8
import Derived.Test.YtijindelbagpiaaDoorKFieldPartsXBulk
import Derived.Test.YtijindelbagpiaaDoorKFieldPartsXAliveL
import Derived.Test.YtijindelbagpiaaDoorKFieldPartsXFoldR
import Derived.Test.YtijindelbagpiaaDoorKFieldPartsXSameR
import Derived.Test.YtijindelbagpiaaDoorKFieldPartsXField3
namespace Go.Proofs.YtijindelbagpiaaDoor.Pure
open Go.RowKit Go.Proofs.YtijindelbagpiaaDoor.PFieldParts Go.Proofs.YtijindelbagpiaaDoor.X Go.Proofs.YtijindelbagpiaaDoorW.PrintWords Go.Proofs.YtijindelbagpiaaDoorW.PrintMore
set_option linter.unusedVariables false
set_option linter.unusedSimpArgs false

theorem same_eq (a b : ByteArray) : sameB a b = true ↔ foldL (L a) = foldL (L b) := by
  unfold sameB; simp
theorem same_symm (a b : ByteArray) : sameB a b = sameB b a := by
  rw [Bool.eq_iff_iff, same_eq, same_eq]; exact ⟨Eq.symm, Eq.symm⟩
theorem tw_eq (m n : ByteArray) : ((foldB m).toList == (foldB n).toList) = sameB m n := by
  rw [Bool.eq_iff_iff, same_eq, beq_iff_eq]
  constructor
  · intro h
    have h2 : L (foldB m) = L (foldB n) := by rw [Lib.toList_data, Lib.toList_data] at h; exact h
    unfold foldB at h2
    rw [L_mkB, L_mkB] at h2
    exact h2
  · intro h
    have h2 : foldB m = foldB n := by unfold foldB; rw [h]
    rw [h2]
theorem left_none (fs : List FdT) (ns : List ByteArray) (n : ByteArray) (hn : n ∈ ns) : getM (withM fs ns) n = [] := by
  unfold getM withM
  rw [List.filter_filter, List.map_eq_nil_iff, List.filter_eq_nil_iff]
  intro f _ h
  simp only [Bool.and_eq_true, Bool.not_eq_true'] at h
  have h2 : anyM ns f.f0 = true := by
    unfold anyM
    rw [List.any_eq_true]
    exact ⟨n, hn, by rw [same_symm]; exact h.1⟩
  rw [h2] at h
  exact absurd h.2 (by simp)
theorem left_hasnt (fs : List FdT) (ns : List ByteArray) (n p : ByteArray) (hn : n ∈ ns) : hasM (withM fs ns) n p = false := by
  unfold hasM listM
  rw [left_none fs ns n hn]
  rfl
def goneM (fs : List FdT) (ns : List ByteArray) : Nat := (fs.filter fun f => anyM ns f.f0).length
theorem gone_all (fs : List FdT) (ns : List ByteArray) : (withM fs ns).length + goneM fs ns = fs.length := by
  unfold withM goneM
  induction fs with
  | nil => rfl
  | cons f fs ih =>
    rw [List.filter_cons, List.filter_cons]
    cases anyM ns f.f0 <;> simp <;> omega
theorem gone_le (fs : List FdT) (ns : List ByteArray) : goneM fs ns ≤ fs.length := List.length_filter_le _ _
theorem any_snoc (ns : List ByteArray) (n q : ByteArray) : anyM (ns ++ [n]) q = (anyM ns q || sameB n q) := by
  unfold anyM; simp
theorem gone_same (fs : List FdT) (ns : List ByteArray) (n : ByteArray) (h : anyM ns n = true) : goneM fs (ns ++ [n]) = goneM fs ns := by
  unfold goneM
  congr 1
  refine List.filter_congr fun f _ => ?_
  rw [any_snoc]
  cases hs : sameB n f.f0 with
  | false => simp
  | true =>
    have h2 : anyM ns f.f0 = true := by
      unfold anyM at h ⊢
      rw [List.any_eq_true] at h ⊢
      obtain ⟨m, hm, e⟩ := h
      exact ⟨m, hm, by rw [same_eq] at e hs ⊢; exact e.trans hs⟩
    rw [h2]; rfl
theorem gone_more (fs : List FdT) (ns : List ByteArray) (n : ByteArray) (h : anyM ns n = false) : goneM fs (ns ++ [n]) = goneM fs ns + (getM fs n).length := by
  unfold goneM getM
  rw [List.length_map]
  induction fs with
  | nil => rfl
  | cons f fs ih =>
    rw [List.filter_cons, List.filter_cons, List.filter_cons, any_snoc, same_symm f.f0 n]
    cases hs : sameB n f.f0 with
    | false => cases anyM ns f.f0 <;> simp <;> omega
    | true =>
      have h2 : anyM ns f.f0 = false := by
        cases h3 : anyM ns f.f0 with
        | false => rfl
        | true =>
          exfalso
          have h4 : anyM ns n = true := by
            unfold anyM at h3 ⊢
            rw [List.any_eq_true] at h3 ⊢
            obtain ⟨m, hm, e⟩ := h3
            exact ⟨m, hm, by rw [same_eq] at e hs ⊢; exact e.trans hs.symm⟩
          rw [h4] at h; cases h
      rw [h2]
      simp
      omega
theorem l2_ok (a x : List FdT) (ha : a.length ≤ 100) (N : Nat) (hN : N ≤ 100) : ∀ d i k (x6 : List FdT), x6.length = N → i + d = N → d + 102 < k → tollbarlaw04_FieldParts.l2 k a a x6 (N : Int) (i : Int) = some true
  | 0, i, k, x6, hx, hi, hk => by
    obtain ⟨k, rfl, _⟩ := suc (show 0 < k by omega)
    simp only [tollbarlaw04_FieldParts.l2]
    rw [if_neg (by omega), rsames_self a (by omega) k (by omega)]
    rfl
  | d + 1, i, k, x6, hx, hi, hk => by
    obtain ⟨k, rfl, _⟩ := suc (show 0 < k by omega)
    simp only [tollbarlaw04_FieldParts.l2]
    rw [if_pos (by omega), if_pos (by omega), if_pos (by omega), succ_cast i (by omega)]
    exact l2_ok a x ha N hN d (i + 1) k _ (by rw [List.length_set]; exact hx) (by omega) (by omega)
def endF (a left : List FdT) (gone : Int) (seen : List ByteArray) (n : ByteArray) (ns : List ByteArray) (x33 x34 : Int) (k : Nat) (b : Bool) : Option Bool :=
  if b = true then tollbarlaw04_FieldParts.l0 k a a left gone seen ns x33 (wrap64 (x34 + 1)) else (field_Get.f k a n).bind fun t241 => (if seen.length < 8796093022208 then tollbarlaw04_FieldParts.l0 k a a left (wrap64 (gone + (t241.length : Int))) (seen ++ [n]) ns x33 (wrap64 (x34 + 1)) else none)
theorem l1_ok (a left : List FdT) (gone : Int) (seen : List ByteArray) (n : ByteArray) (ns : List ByteArray) (x33 x34 : Int) (hn : n.size ≤ 140737488351232) (hs : ∀ m ∈ seen, m.size ≤ 140737488351232) (hl : seen.length ≤ 100) (B : Nat) (hB : 140737488351233 ≤ B) (R : Option Bool)
    : ∀ d j k (b : Bool), j + d = seen.length → (∀ k', B < k' → endF a left gone seen n ns x33 x34 k' (b || anyM (seen.drop j) n) = R) → d + B + 1 < k → tollbarlaw04_FieldParts.l1 k a a left gone seen n b ns x33 x34 seen (seen.length : Int) (j : Int) = R
  | 0, j, k, b, hj, hR, hk => by
    obtain ⟨k, rfl, _⟩ := suc (show 0 < k by omega)
    simp only [tollbarlaw04_FieldParts.l1]
    rw [if_neg (by omega)]
    have h := hR k (by omega)
    rw [List.drop_of_length_le (by omega), show anyM [] n = false from rfl, Bool.or_false] at h
    exact h
  | d + 1, j, k, b, hj, hR, hk => by
    obtain ⟨k, rfl, _⟩ := suc (show 0 < k by omega)
    have hjl : j < seen.length := by omega
    have hdr : seen.drop j = seen[j] :: seen.drop (j + 1) := List.drop_eq_getElem_cons hjl
    have hrd : rdOf ByteArray.empty seen (j : Int) = seen[j] := by
      unfold rdOf
      rw [Int.toNat_natCast, List.getD_eq_getElem?_getD, List.getElem?_eq_getElem hjl]
      rfl
    have hm := hs _ (List.getElem_mem hjl)
    simp only [tollbarlaw04_FieldParts.l1]
    rw [if_pos (by omega), if_pos (by omega), if_pos (by omega), succ_cast j (by omega), hrd]
    cases b with
    | true =>
      rw [if_pos rfl]
      exact l1_ok a left gone seen n ns x33 x34 hn hs hl B hB R d (j + 1) k true (by omega) (fun k' hk' => by simpa using hR k' hk') (by omega)
    | false =>
      rw [if_neg (by simp), rfold_spec _ (by omega) k (by omega), Option.bind_some, rfold_spec _ (by omega) k (by omega), Option.bind_some, tw_eq]
      refine l1_ok a left gone seen n ns x33 x34 hn hs hl B hB R d (j + 1) k _ (by omega) (fun k' hk' => ?_) (by omega)
      have h := hR k' hk'
      rw [hdr] at h
      have e : anyM (seen[j] :: seen.drop (j + 1)) n = (sameB seen[j] n || anyM (seen.drop (j + 1)) n) := rfl
      rw [e, Bool.false_or] at h
      exact h
structure PInv (ns seen : List ByteArray) (i : Nat) : Prop where
  any : ∀ q, anyM seen q = anyM (ns.take i) q
  len : seen.length ≤ i
  mem : ∀ m ∈ seen, m ∈ ns
theorem l0_ok (a : List FdT) (ns : List ByteArray) (ha : Fit a) (hla : a.length ≤ 100) (hln : ns.length ≤ 100) (hns : ∀ n ∈ ns, n.size ≤ 140737488351232) (K : Nat) (hK : 140737488355000 ≤ K) : ∀ d i k seen, i + d = ns.length → PInv ns seen i → d * 200 + K < k → tollbarlaw04_FieldParts.l0 k a a (withM a ns) (goneM a (ns.take i) : Int) seen ns (ns.length : Int) (i : Int) = some true
  | 0, i, k, seen, hi, hP, hk => by
    obtain ⟨k, rfl, _⟩ := suc (show 0 < k by omega)
    have h1 := gone_all a ns
    have hw : (withM a ns).length ≤ a.length := List.length_filter_le _ _
    simp only [tollbarlaw04_FieldParts.l0]
    rw [if_neg (by omega), List.take_of_length_le (by omega), wrap64_in (by omega) (by omega), if_pos (by omega)]
    exact l2_ok a a hla (withM a ns).length (by omega) (withM a ns).length 0 k _ rfl (by omega) (by omega)
  | d + 1, i, k, seen, hi, hP, hk => by
    obtain ⟨k, rfl, _⟩ := suc (show 0 < k by omega)
    have hil : i < ns.length := by omega
    have hrd : rdOf ByteArray.empty ns (i : Int) = ns[i] := by
      unfold rdOf
      rw [Int.toNat_natCast, List.getD_eq_getElem?_getD, List.getElem?_eq_getElem hil]
      rfl
    have hmem : ns[i] ∈ ns := List.getElem_mem hil
    have hn := hns _ hmem
    have hw : (withM a ns).length ≤ a.length := List.length_filter_le _ _
    have hLw : Fit (withM a ns) := fun x hx => ha x (List.mem_filter.1 (show x ∈ a.filter (fun f => !anyM ns f.f0) from hx)).1
    have hg0 := left_none a ns _ hmem
    have hh0 := left_hasnt a ns _ (⟨#[120]⟩ : ByteArray) hmem
    have hx1 : (⟨#[120]⟩ : ByteArray).size = 1 := rfl
    have hgone := gone_le a (ns.take i)
    have hgl := getM_len a ns[i]
    have htk : ns.take (i + 1) = ns.take i ++ [ns[i]] := List.take_succ_eq_append_getElem hil
    simp only [tollbarlaw04_FieldParts.l0]
    rw [if_pos (by omega), if_pos (by omega), if_pos (by omega), hrd, get_spec _ _ hLw (by omega) (by omega) k (by omega), Option.bind_some, hg0, if_pos (by simp), has_spec _ _ _ hLw (by omega) (by omega) (by rw [hg0]; exact ⟨by simp, by simp⟩) (by omega) k (by omega) (by omega), Option.bind_some, hh0]
    obtain ⟨k, rfl, _⟩ := suc (show 0 < k by omega)
    simp only [tollbarlaw04_FieldParts.j2]
    rw [if_neg (by simp)]
    have hsl := hP.len
    obtain ⟨B, hB⟩ : ∃ B, B = d * 200 + K := ⟨_, rfl⟩
    have e0 : (0 : Int) = ((0 : Nat) : Int) := rfl
    rw [e0]
    refine l1_ok a (withM a ns) _ seen ns[i] ns _ _ hn (fun m hm => hns m (hP.mem m hm)) (by omega) B (by omega) (some true) seen.length 0 k false (by omega) (fun k' hk' => ?_) (by omega)
    rw [List.drop_zero, Bool.false_or, hP.any]
    unfold endF
    rw [succ_cast i (by omega)]
    cases hA : anyM (ns.take i) ns[i] with
    | true =>
      rw [if_pos rfl, ← gone_same a (ns.take i) ns[i] hA, ← htk]
      refine l0_ok a ns ha hla hln hns K hK d (i + 1) k' seen (by omega) ⟨fun q => ?_, by omega, hP.mem⟩ (by omega)
      rw [hP.any, htk, any_snoc]
      cases hs : sameB ns[i] q with
      | false => simp
      | true =>
        have h2 : anyM (ns.take i) q = true := by
          unfold anyM at hA ⊢
          rw [List.any_eq_true] at hA ⊢
          obtain ⟨m, hm, e⟩ := hA
          exact ⟨m, hm, by rw [same_eq] at e hs ⊢; exact e.trans hs⟩
        rw [h2]; rfl
    | false =>
      rw [if_neg (by simp), get_spec _ _ ha (by omega) (by omega) k' (by omega), Option.bind_some, if_pos (by omega), wrap64_in (by omega) (by omega)]
      have e : (goneM a (ns.take i) : Int) + ((getM a ns[i]).length : Int) = (goneM a (ns.take (i + 1)) : Int) := by
        rw [htk, gone_more a (ns.take i) ns[i] hA]; rfl
      rw [e]
      refine l0_ok a ns ha hla hln hns K hK d (i + 1) k' _ (by omega) ⟨fun q => ?_, by rw [List.length_append, List.length_singleton]; omega, fun m hm => ?_⟩ (by omega)
      · rw [any_snoc, hP.any, htk, any_snoc]
      · rcases List.mem_append.1 hm with h | h
        · exact hP.mem m h
        · rw [List.mem_singleton.1 h]; exact hmem
theorem FieldParts : tollbarlaw04_FieldParts.Pure := by
  intro a ns hfa hfn
  have ha : Fit a := fun x hx => hfa.2 x hx
  have hns : ∀ n ∈ ns, n.size ≤ 140737488351232 := fun n hn => hfn.2 n hn
  have key : ∀ (K : Nat) (c : Bool), 140737488380000 ≤ K → (c = false → a.length ≤ 100 ∧ ns.length ≤ 100) → tollbarlaw04_FieldParts.j0 (K + 1) a ns c = some true := by
    intro K c hK hc
    cases c with
    | true => simp only [tollbarlaw04_FieldParts.j0]; rw [if_pos trivial]
    | false =>
      obtain ⟨h1, h2⟩ := hc rfl
      simp only [tollbarlaw04_FieldParts.j0, Option.bind_some, List.length_nil, List.nil_append]
      rw [if_neg (by simp), if_pos (by omega), without_spec a ns ha (fun p hp => by have := hns p hp; omega) (by omega), Option.bind_some]
      obtain ⟨K0, hK0⟩ : ∃ K0, K0 = 140737488355000 := ⟨_, rfl⟩
      have h := l0_ok a ns ha h1 h2 hns K0 (by omega) ns.length 0 K [] (by omega) ⟨fun q => rfl, Nat.le_refl _, fun m hm => by cases hm⟩ (by omega)
      have e : goneM a (ns.take 0) = 0 := by
        unfold goneM
        rw [List.take_zero]
        have : (a.filter fun f => anyM [] f.f0) = [] := by
          rw [List.filter_eq_nil_iff]; intro f _; simp [anyM]
        rw [this]; rfl
      rw [e] at h
      exact h
  have all : ∀ K : Nat, 140737488380000 ≤ K → tollbarlaw04_FieldParts.f (K + 1) a ns = some true := by
    intro K hK
    unfold tollbarlaw04_FieldParts.f
    rw [looking_ok _ (by omega), Option.bind_some, if_pos rfl]
    split
    · exact key K _ hK (fun h => by cases h)
    · exact key K _ hK (fun h => by
        have := of_decide_eq_false h
        omega)
  exact ⟨140737488380000 + 1, all _ (Nat.le_refl _)⟩
end Go.Proofs.YtijindelbagpiaaDoor.Pure
