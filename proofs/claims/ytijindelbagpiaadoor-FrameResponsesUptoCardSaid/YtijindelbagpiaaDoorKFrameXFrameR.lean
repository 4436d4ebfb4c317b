/- What the document's words on a body's length compute: the same. -/
import Derived.Test.YtijindelbagpiaaDoorPFramex4
import Derived.Test.YtijindelbagpiaaDoorPFramex5
import Derived.Test.YtijindelbagpiaaDoorPFramex6
import Derived.Test.YtijindelbagpiaaDoorPFramex7
import Derived.Test.YtijindelbagpiaaDoorKFrameXFrame
import Derived.Test.YtijindelbagpiaaDoorKFrameXGetR
import Derived.Test.YtijindelbagpiaaDoorKFrameXDecR
namespace Go.Proofs.YtijindelbagpiaaDoor.X
open Go.RowKit Go.Proofs.YtijindelbagpiaaDoor.PFrame Go.Proofs.YtijindelbagpiaaDoorW.PrintWords Go.Proofs.YtijindelbagpiaaDoorW.PrintMore
set_option linter.unusedVariables false
set_option linter.unusedSimpArgs false

def rCL : ByteArray := ⟨#[99, 111, 110, 116, 101, 110, 116, 45, 108, 101, 110, 103, 116, 104]⟩
def rTE : ByteArray := ⟨#[116, 114, 97, 110, 115, 102, 101, 114, 45, 101, 110, 99, 111, 100, 105, 110, 103]⟩
def rCo : ByteArray := ⟨#[99, 111, 110, 110, 101, 99, 116, 105, 111, 110]⟩
theorem s_rCL : rCL.size = 14 := rfl
theorem s_rTE : rTE.size = 17 := rfl
theorem s_rCo : rCo.size = 10 := rfl
theorem getM_fold (fs : List FdT) {n m : ByteArray} (h : foldL (L n) = foldL (L m)) : getM fs n = getM fs m := by
  unfold getM sameB; rw [h]
theorem get_CL (fs : List FdT) : getM fs rCL = getM fs nCL := getM_fold fs (by decide +kernel)
theorem get_TE (fs : List FdT) : getM fs rTE = getM fs nTE := getM_fold fs (by decide +kernel)
theorem get_Co (fs : List FdT) : getM fs rCo = getM fs nCo := getM_fold fs (by decide +kernel)
theorem list_CL (fs : List FdT) : listM fs rCL = listM fs nCL := by unfold listM; rw [get_CL]
theorem list_TE (fs : List FdT) : listM fs rTE = listM fs nTE := by unfold listM; rw [get_TE]
theorem has_Co (fs : List FdT) (p : ByteArray) : hasM fs rCo p = hasM fs nCo p := by unfold hasM listM; rw [get_Co]
/-- fields of a MB at most: names, too -/
theorem rthere_spec (fs : List FdT) (n : ByteArray) (h : Lite fs) (hn : n.size ≤ 1000) (k : Nat) (hk : 2097155 < k) : tollbarref07_There.f k fs n = some (hasN fs n) := by
  have hl := h.1
  unfold tollbarref07_There.f hasN
  rw [rget_spec fs n h.fit (by omega) (by omega) 1048577 h.b0 (by omega) k (by omega), Option.bind_some]
  congr 1
  simp only [decide_eq_decide]; omega
theorem hasN_CL (fs : List FdT) : hasN fs rCL = hasN fs nCL := by unfold hasN; rw [get_CL]
theorem hasN_TE (fs : List FdT) : hasN fs rTE = hasN fs nTE := by unfold hasN; rw [get_TE]
theorem rlen_loop (ps : List ByteArray) (hps : ∀ p ∈ ps, p.size ≤ 1048576) (hl : ps.length ≤ 4398046511104) (n : Int) (b : Bool) : ∀ d i k, i + d = ps.length → d + 100 < k → tollbarref07_Length.l0 k ps n b (i : Int) = some (if (ps.drop i).all (fun q => match decM q with | some m => decide ((m : Int) = n) | none => false) = true then (n, b) else (0, false)) := by
  intro d
  induction d with
  | zero =>
    intro i k hi hk; obtain ⟨k, rfl, _⟩ := suc hk
    simp only [tollbarref07_Length.l0]; rw [if_neg (by omega), List.drop_of_length_le (by omega)]; rfl
  | succ d ih =>
    intro i k hi hk; obtain ⟨k, rfl, _⟩ := suc hk
    have h : i < ps.length := by omega
    have hp := hps _ (List.getElem_mem h)
    simp only [tollbarref07_Length.l0]
    rw [if_pos (by omega), if_pos (by omega), rd_get _ ps i h, rdec_spec _ (by omega) k (by omega), Option.bind_some, List.drop_eq_getElem_cons h, List.all_cons, succ_cast i (by omega)]
    cases hd : decM ps[i] with
    | none => simp
    | some m =>
      simp only
      rw [if_pos trivial]
      by_cases hm : (m : Int) = n
      · rw [if_pos hm, ih (i + 1) k (by omega) (by omega)]; simp [hm]
      · rw [if_neg hm]; simp [hm]
theorem all_same (ps : List ByteArray) (n : Nat) : ps.all (fun q => match decM q with | some m => decide ((m : Int) = (n : Int)) | none => false) = ps.all (fun q => decM q == some n) := by
  congr 1
  funext q
  cases decM q with
  | none => rfl
  | some m =>
    by_cases h : m = n
    · subst h; simp
    · have h2 : ¬ (m : Int) = (n : Int) := by omega
      have h3 : (some m == some n) = false := by simp [h]
      rw [h3]; exact decide_eq_false h2
theorem rlength_spec (fs : List FdT) (h : Lite fs) (k : Nat) (hk : 1100000000000 < k) : tollbarref07_Length.f k fs = some (match lenM (listM fs nCL) with | some n => ((n : Int), true) | none => (0, false)) := by
  have hl := h.1
  have hm := h.mid
  have hll := listM_len h nCL
  unfold tollbarref07_Length.f
  show (tollbarref04_List.f k fs rCL).bind _ = _
  rw [rlist_spec fs rCL h.fit (by rw [s_rCL]; omega) (h.get _) (by omega) 1048577 h.b0 (by rw [s_rCL]; omega) k (by omega) (by omega), Option.bind_some, list_CL]
  have hps := listM_size hm.2.2.1
  generalize listM fs nCL = ps at *
  cases ps with
  | nil => rfl
  | cons p r =>
    have hp := hps p List.mem_cons_self
    have e0 : rdOf ByteArray.empty (p :: r) 0 = p := rfl
    rw [if_neg (by simp only [List.length_cons]; omega), if_pos (by simp only [List.length_cons]; omega), e0, rdec_spec _ (by omega) k (by omega), Option.bind_some]
    unfold lenM
    cases hd : decM p with
    | none =>
      have hr := rlen_loop (p :: r) hps (by omega) 0 false (r.length + 1) 0 k (by simp) (by simp at hll; omega)
      rw [Int.natCast_zero] at hr
      simp only
      rw [hr]
      simp [hd]
    | some n =>
      have hr := rlen_loop (p :: r) hps (by omega) (n : Int) true (r.length + 1) 0 k (by simp) (by simp at hll; omega)
      rw [Int.natCast_zero] at hr
      simp only
      rw [hr, all_same]
      simp only [List.drop_zero, List.all_cons, hd, beq_self_eq_true, Bool.true_and, Option.bind_some]
      split <;> rfl
theorem rcoded_spec (fs : List FdT) (h : Lite fs) (k : Nat) (hk : 1100000000000 < k) : tollbarref07_Coded.f k fs = some (chunkM fs) := by
  have hl := h.1
  have hm := h.mid
  unfold tollbarref07_Coded.f chunkM
  show (tollbarref04_List.f k fs rTE).bind _ = _
  rw [rlist_spec fs rTE h.fit (by rw [s_rTE]; omega) (h.get _) (by omega) 1048577 h.b0 (by rw [s_rTE]; omega) k (by omega) (by omega), Option.bind_some, list_TE]
  have hps := listM_size hm.2.2.2.1
  generalize listM fs nTE = ps at *
  match ps, hps with
  | [], _ => rfl
  | [p], hps =>
    have hp := hps p List.mem_cons_self
    have e0 : rdOf ByteArray.empty [p] 0 = p := rfl
    rw [if_pos (by rfl), if_pos (by simp), e0, rfold_spec p (by omega) k (by omega), Option.bind_some]
    congr 1
    have e1 : (foldB p).toList = foldL (L p) := by
      rw [toList_eq]; unfold foldB; rw [L_mkB]
    have e2 : foldL (L tCh) = [99, 104, 117, 110, 107, 101, 100] := by decide +kernel
    unfold sameB
    rw [e1, e2]
  | p :: q :: r, _ => rw [if_neg (by simp; omega)]
theorem rrequest_spec (fs : List FdT) (h : Lite fs) (minor : Int) (k : Nat) (hk : 1100000000001 < k) : tollbarref07_Request.f k fs minor = some (reqM fs minor) := by
  unfold tollbarref07_Request.f
  show (tollbarref07_There.f k fs rCL).bind _ = _
  rw [rthere_spec fs _ h (by rw [s_rCL]; omega) k (by omega), Option.bind_some]
  show (tollbarref07_There.f k fs rTE).bind _ = _
  rw [rthere_spec fs _ h (by rw [s_rTE]; omega) k (by omega), Option.bind_some, hasN_CL, hasN_TE]
  obtain ⟨k, rfl, _⟩ := suc hk
  simp only [tollbarref07_Request.j0]
  rw [rcoded_spec fs h k (by omega), rlength_spec fs h k (by omega)]
  unfold reqM
  cases hasN fs nTE <;> cases hasN fs nCL <;> cases hm : (minor == 0) <;> cases chunkM fs <;> simp [hm] <;>
    (cases lenM (listM fs nCL) <;> simp) <;> (try (split <;> rfl))
theorem rcloses_spec (fs : List FdT) (h : Lite fs) (minor : Int) (k : Nat) (hk : 1100000000000 < k) : tollbarref07_Closes.f k fs minor = some (closeM fs minor) := by
  have hl := h.1
  unfold tollbarref07_Closes.f closeM
  show (tollbarref04_Has.f k fs rCo tCl).bind _ = _
  rw [rhas_spec fs rCo tCl h.fit (by rw [s_rCo]; omega) (by rw [s_tCl]; omega) (h.get _) (by omega) 1048577 h.b0 (by rw [s_rCo]; omega) (by rw [s_tCl]; omega) (by omega) k (by omega) (by omega), Option.bind_some, has_Co]
  cases hasM fs nCo tCl with
  | true => rfl
  | false =>
    rw [if_neg (by simp)]
    by_cases hm : minor = 0
    · rw [if_pos hm]
      show (tollbarref04_Has.f k fs rCo tKA).bind _ = _
      rw [rhas_spec fs rCo tKA h.fit (by rw [s_rCo]; omega) (by rw [s_tKA]; omega) (h.get _) (by omega) 1048577 h.b0 (by rw [s_rCo]; omega) (by rw [s_tKA]; omega) (by omega) k (by omega) (by omega), Option.bind_some, has_Co, hm]
      simp
    · rw [if_neg hm]; simp [hm]
theorem rresponse_spec (method : ByteArray) (code : Int) (r : ByteArray) (minor : Int) (fs : List FdT) (body : List Int) (h : Lite fs) (k : Nat) (hk : 1100000000004 < k) : tollbarref07_Response.f k method code r minor fs body = some (respM method code minor fs) := by
  obtain ⟨k, rfl, _⟩ := suc hk
  obtain ⟨k1, rfl, _⟩ := suc (show 0 < k by omega)
  obtain ⟨k2, rfl, _⟩ := suc (show 0 < k1 by omega)
  have key : ∀ b : Bool, b = bare method code → tollbarref07_Response.j0 (k2 + 1 + 1 + 1) b code r minor fs body = some (respM method code minor fs) := by
    intro b hb
    unfold respM
    rw [← hb]
    simp only [tollbarref07_Response.j0]
    cases b with
    | true => rfl
    | false =>
      rw [if_neg (by simp), if_neg (by simp)]
      show (tollbarref07_There.f (k2 + 1 + 1) fs rCL).bind _ = _
      rw [rthere_spec fs _ h (by rw [s_rCL]; omega) _ (by omega), Option.bind_some]
      show (tollbarref07_There.f (k2 + 1 + 1) fs rTE).bind _ = _
      rw [rthere_spec fs _ h (by rw [s_rTE]; omega) _ (by omega), Option.bind_some, hasN_CL, hasN_TE, rlength_spec fs h _ (by omega), Option.bind_some]
      simp only [tollbarref07_Response.j1, tollbarref07_Response.j2]
      rw [rcoded_spec fs h _ (by omega)]
      unfold reqM
      by_cases hm : minor = 0 <;> cases hasN fs nTE <;> cases hasN fs nCL <;> cases chunkM fs <;> simp [hm] <;>
        (first | done | (cases lenM (listM fs nCL) <;> simp) | skip) <;> (try (split <;> simp_all)) 
  unfold tollbarref07_Response.f
  unfold bare at key
  rw [toList_eq]
  by_cases h1 : L method = [72, 69, 65, 68]
  · rw [if_pos h1]; exact key true (by simp [h1])
  · rw [if_neg h1]
    by_cases h2 : code < 200
    · rw [if_pos h2]; exact key true (by simp [h2])
    · rw [if_neg h2]
      by_cases h3 : code = 204
      · rw [if_pos h3]; exact key true (by simp [h3])
      · rw [if_neg h3]; exact key _ (by simp [h1, h2, h3])
end Go.Proofs.YtijindelbagpiaaDoor.X
