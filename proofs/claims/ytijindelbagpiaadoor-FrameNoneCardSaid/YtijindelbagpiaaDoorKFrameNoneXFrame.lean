/- What the program's words on a body's length compute. -/
import Derived.Test.YtijindelbagpiaaDoorPFrameNonex1
import Derived.Test.YtijindelbagpiaaDoorPFrameNonex2
import Derived.Test.YtijindelbagpiaaDoorPFrameNonex3
import Derived.Test.YtijindelbagpiaaDoorKFrameNoneXBulk
import Derived.Test.YtijindelbagpiaaDoorKFrameNoneXDec
namespace Go.Proofs.YtijindelbagpiaaDoor.X
open Go.RowKit Go.Proofs.YtijindelbagpiaaDoor.PFrameNone Go.Proofs.YtijindelbagpiaaDoorW.PrintWords Go.Proofs.YtijindelbagpiaaDoorW.PrintMore
set_option linter.unusedVariables false
set_option linter.unusedSimpArgs false

def nCL : ByteArray := ⟨#[67, 111, 110, 116, 101, 110, 116, 45, 76, 101, 110, 103, 116, 104]⟩
def nTE : ByteArray := ⟨#[84, 114, 97, 110, 115, 102, 101, 114, 45, 69, 110, 99, 111, 100, 105, 110, 103]⟩
def nCo : ByteArray := ⟨#[67, 111, 110, 110, 101, 99, 116, 105, 111, 110]⟩
def tCl : ByteArray := ⟨#[99, 108, 111, 115, 101]⟩
def tKA : ByteArray := ⟨#[107, 101, 101, 112, 45, 97, 108, 105, 118, 101]⟩
def tCh : ByteArray := ⟨#[99, 104, 117, 110, 107, 101, 100]⟩
theorem s_nCL : nCL.size = 14 := rfl
theorem s_nTE : nTE.size = 17 := rfl
theorem s_nCo : nCo.size = 10 := rfl
theorem s_tCl : tCl.size = 5 := rfl
theorem s_tKA : tKA.size = 10 := rfl
theorem s_tCh : tCh.size = 7 := rfl
/-- fields whose values of these two names are of at most a MB: all that is asked of them here -/
def Mid (fs : List FdT) : Prop := fs.length ≤ 1048576 ∧ Fit fs ∧ Small (getM fs nCL) ∧ Small (getM fs nTE) ∧ Small (getM fs nCo)
theorem Lite.mid {fs : List FdT} (h : Lite fs) : Mid fs := ⟨h.1, h.fit, h.get _, h.get _, h.get _⟩
def hasN (fs : List FdT) (n : ByteArray) : Bool := decide ((getM fs n).length > 0)
theorem there_spec (fs : List FdT) (n : ByteArray) (hf : Fit fs) (hl : fs.length ≤ 1048576) (hn : n.size ≤ 1000) (k : Nat) (hk : fs.length < k) : frame_there.f k fs n = some (hasN fs n) := by
  unfold frame_there.f hasN
  rw [get_spec fs n hf (by omega) (by omega) k hk, Option.bind_some]
  congr 1
  simp only [decide_eq_decide]; omega

def lenM : List ByteArray → Option Nat
  | [] => none
  | p :: r => (decM p).bind fun n => if r.all (fun q => decM q == some n) = true then some n else none
theorem len_loop (ps : List ByteArray) (hps : ∀ p ∈ ps, p.size ≤ 1048576) (hl : ps.length ≤ 4398046511104) : ∀ d i k (n : Nat), i + d = ps.length → d + 2097155 < k → n < 1000000000000000000 → frame_length.l0 k (n : Int) ps (ps.length : Int) (i : Int) = some (if (ps.drop i).all (fun q => decM q == some n) = true then ((n : Int), true) else (0, false)) := by
  intro d
  induction d with
  | zero =>
    intro i k n hi hk hn; obtain ⟨k, rfl, _⟩ := suc hk
    simp only [frame_length.l0]; rw [if_neg (by omega), List.drop_of_length_le (by omega), decide_eq_true (by omega)]; rfl
  | succ d ih =>
    intro i k n hi hk hn; obtain ⟨k, rfl, _⟩ := suc hk
    have h : i < ps.length := by omega
    have hp := hps _ (List.getElem_mem h)
    simp only [frame_length.l0]
    rw [if_pos (by omega), if_pos (by omega), if_pos (by omega), rd_get _ ps i h, dec_spec _ (by omega) k (by omega), Option.bind_some, List.drop_eq_getElem_cons h, List.all_cons, succ_cast i (by omega)]
    cases hd : decM ps[i] with
    | none => simp
    | some m =>
      simp only
      rw [if_pos trivial, if_pos (by omega)]
      by_cases hm : (m : Int) = (n : Int)
      · have e : m = n := by omega
        subst e
        rw [if_pos rfl, ih (i + 1) k m (by omega) (by omega) hn]; simp
      · rw [if_neg hm]
        have : (some m == some n) = false := by simp; omega
        rw [this]; simp
theorem length_spec (fs : List FdT) (h : Mid fs) (k : Nat) (hk : 4398046511104 < k) : frame_length.f k fs = some (if listM fs nCL = [] then (-1, false) else match lenM (listM fs nCL) with | some n => ((n : Int), true) | none => (0, false)) := by
  have hl := h.1
  have hs := h.2.2.1
  have hlen := flatP_len (getM fs nCL) hs.2
  have hs1 := hs.1
  have hll : (listM fs nCL).length ≤ 1099512676352 := by
    have h3 : (listM fs nCL).length = (flatP (getM fs nCL)).length := rfl
    omega
  unfold frame_length.f
  show (field_List.f k fs nCL).bind _ = _
  rw [list_spec fs nCL h.2.1 (by rw [s_nCL]; omega) hs (by omega) k (by omega) (by omega), Option.bind_some]
  have hps := listM_size hs
  generalize listM fs nCL = ps at *
  cases ps with
  | nil =>
    rw [if_pos rfl]
    obtain ⟨k, rfl, _⟩ := suc hk
    simp only [frame_length.l0]
    rw [if_neg (by simp)]; rfl
  | cons p r =>
    rw [if_neg (by simp)]
    have hp := hps p List.mem_cons_self
    obtain ⟨k, rfl, _⟩ := suc hk
    simp only [frame_length.l0]
    have e0 : rdOf ByteArray.empty (p :: r) 0 = p := rfl
    rw [if_pos (by simp only [List.length_cons]; omega), if_pos (by omega), if_pos (by simp only [List.length_cons]; omega), e0, dec_spec _ (by omega) k (by omega), Option.bind_some]
    unfold lenM
    cases hd : decM p with
    | none => simp [hd]
    | some n =>
      have hn := decM_lt hd
      have hlp := len_loop (p :: r) hps (by omega) r.length 1 k n (by simp; omega) (by simp at hll; omega) hn
      simp only
      rw [if_pos trivial, if_neg (by omega), show wrap64 (0 + 1) = ((1 : Nat) : Int) from by rw [wrap64_in (by omega) (by omega)]; rfl, hlp]
      simp only [List.drop_succ_cons, List.drop_zero, hd, Option.bind_some]
      split
      · rfl
      · rfl
def chunkM (fs : List FdT) : Bool := match listM fs nTE with
  | [p] => sameB p tCh
  | _ => false
theorem chunked_spec (fs : List FdT) (h : Mid fs) (k : Nat) (hk : 4398046511104 < k) : frame_chunked.f k fs = some (chunkM fs) := by
  have hl := h.1
  have hs := h.2.2.2.1
  unfold frame_chunked.f chunkM
  show (field_List.f k fs nTE).bind _ = _
  rw [list_spec fs nTE h.2.1 (by rw [s_nTE]; omega) hs (by omega) k (by omega) (by omega), Option.bind_some]
  have hps := listM_size hs
  generalize listM fs nTE = ps at *
  match ps, hps with
  | [], _ => rfl
  | [p], hps =>
    have hp := hps p List.mem_cons_self
    have e0 : rdOf ByteArray.empty [p] 0 = p := rfl
    rw [if_pos (by rfl), if_pos (by simp), e0]
    show (sign_Same.f p tCh).bind _ = _
    rw [same_spec p tCh (by omega) (by rw [s_tCh]; omega)]; rfl
  | p :: q :: r, _ => rw [if_neg (by simp; omega)]
/-- what a body's length is: its length, is it chunked, and the refusal -/
def reqM (fs : List FdT) (minor : Int) : Int × Bool × Int :=
  if (hasN fs nTE && (hasN fs nCL || minor == 0)) = true then (0, false, 400)
  else if hasN fs nTE = true then (if chunkM fs = true then (0, true, 0) else (0, false, 501))
  else if hasN fs nCL = true then (match lenM (listM fs nCL) with
    | none => (0, false, 400)
    | some n => if (n : Int) > 4096 then (0, false, 413) else ((n : Int), false, 0))
  else (0, false, 0)
theorem request_spec (fs : List FdT) (h : Mid fs) (minor : Int) (k : Nat) (hk : 4398046511106 < k) : frame_Request.f k fs minor = some (reqM fs minor) := by
  have hl := h.1
  unfold frame_Request.f
  show (frame_there.f k fs nCL).bind _ = _
  rw [there_spec fs nCL h.2.1 hl (by rw [s_nCL]; omega) k (by omega), Option.bind_some]
  show (frame_there.f k fs nTE).bind _ = _
  rw [there_spec fs nTE h.2.1 hl (by rw [s_nTE]; omega) k (by omega), Option.bind_some, length_spec fs h k (by omega), Option.bind_some]
  obtain ⟨k, rfl, _⟩ := suc hk
  obtain ⟨k', rfl, _⟩ := suc (show 0 < k by omega)
  simp only [frame_Request.j0, frame_Request.j1]
  rw [chunked_spec fs h (k' + 1) (by omega)]
  unfold reqM
  have he : listM fs nCL = [] → lenM (listM fs nCL) = none := fun e => by rw [e]; rfl
  cases hasN fs nTE <;> cases hasN fs nCL <;> cases hm : (minor == 0) <;> cases chunkM fs <;> simp [hm] <;>
    (by_cases e : listM fs nCL = [] <;> simp [e, he] <;> (first | done | (cases lenM (listM fs nCL) <;> simp) | (cases hq : lenM ([] : List ByteArray) <;> simp_all [lenM]))) <;>
    (try (split <;> rfl))
def closeM (fs : List FdT) (minor : Int) : Bool := hasM fs nCo tCl || (minor == 0 && !hasM fs nCo tKA)
theorem closes_spec (fs : List FdT) (h : Mid fs) (minor : Int) (k : Nat) (hk : 4398046511104 < k) : frame_Closes.f k fs minor = some (closeM fs minor) := by
  have hl := h.1
  unfold frame_Closes.f closeM
  show (field_Has.f k fs nCo tCl).bind _ = _
  rw [has_spec fs nCo tCl h.2.1 (by rw [s_nCo]; omega) (by rw [s_tCl]; omega) h.2.2.2.2 (by omega) k (by omega) (by omega), Option.bind_some]
  cases hasM fs nCo tCl with
  | true => rfl
  | false =>
    rw [if_neg (by simp)]
    by_cases hm : minor = 0
    · rw [if_pos hm]
      show (field_Has.f k fs nCo tKA).bind _ = _
      rw [has_spec fs nCo tKA h.2.1 (by rw [s_nCo]; omega) (by rw [s_tKA]; omega) h.2.2.2.2 (by omega) k (by omega) (by omega), Option.bind_some, hm]
      simp
    · rw [if_neg hm]; simp [hm]
/-- has a response of this method and status a body at all? -/
def bare (method : ByteArray) (code : Int) : Bool := decide (L method = [72, 69, 65, 68]) || decide (code < 200) || code == 204 || code == 304
def respM (method : ByteArray) (code : Int) (minor : Int) (fs : List FdT) : Int × Int × Bool :=
  if bare method code = true then (0, 0, true) else
  if (reqM fs minor).2.2 ≠ 0 then (0, 0, false) else if (reqM fs minor).2.1 = true then (2, 0, true) else if hasN fs nCL = true then (1, (reqM fs minor).1, true) else (3, 0, true)
theorem response_bare (method : ByteArray) (code : Int) (r : ByteArray) (minor : Int) (fs : List FdT) (body : List Int) (hb : bare method code = true) (k : Nat) (hk : 0 < k) : frame_Response.f k method code r minor fs body = some (0, 0, true) := by
  obtain ⟨k, rfl, _⟩ := suc hk
  unfold frame_Response.f
  simp only [frame_Response.j0, toList_eq]
  by_cases h1 : L method = [72, 69, 65, 68]
  · rw [if_pos h1, if_pos trivial]
  · rw [if_neg h1]
    by_cases h2 : code < 200
    · rw [if_pos h2, if_pos trivial]
    · rw [if_neg h2]
      by_cases h3 : code = 204
      · rw [if_pos h3, if_pos trivial]
      · rw [if_neg h3]
        have h4 : (code == 304) = true := by
          unfold bare at hb
          simpa [h1, h2, h3] using hb
        rw [if_pos h4]
theorem response_spec (method : ByteArray) (code : Int) (r : ByteArray) (minor : Int) (fs : List FdT) (body : List Int) (h : Mid fs) (k : Nat) (hk : 4398046511108 < k) : frame_Response.f k method code r minor fs body = some (respM method code minor fs) := by
  unfold respM
  cases hb : bare method code with
  | true => rw [response_bare method code r minor fs body hb k (by omega)]; rfl
  | false =>
    have hl := h.1
    obtain ⟨k, rfl, _⟩ := suc hk
    unfold bare at hb
    simp only [Bool.or_eq_false_iff, decide_eq_false_iff_not] at hb
    unfold frame_Response.f
    rw [toList_eq, if_neg hb.1.1.1, if_neg hb.1.1.2, if_neg (by simpa using hb.1.2)]
    simp only [frame_Response.j0]
    rw [hb.2, if_neg (by simp), request_spec fs h minor k (by omega), Option.bind_some]
    by_cases h0 : (reqM fs minor).2.2 = 0
    · rw [if_pos h0, if_neg (show ¬ false = true by simp), if_neg (show ¬ (reqM fs minor).2.2 ≠ 0 by simpa using h0)]
      cases (reqM fs minor).2.1 with
      | true => rfl
      | false =>
        rw [if_neg (by simp), if_neg (by simp)]
        show (frame_there.f k fs nCL).bind _ = _
        rw [there_spec fs nCL h.2.1 hl (by rw [s_nCL]; omega) k (by omega), Option.bind_some]
        cases hasN fs nCL <;> rfl
    · rw [if_neg h0, if_neg (show ¬ false = true by simp), if_pos (show (reqM fs minor).2.2 ≠ 0 from h0)]
end Go.Proofs.YtijindelbagpiaaDoor.X
