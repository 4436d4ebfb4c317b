/- The responses that have no body have none, whatever their fields are; and a request without either name: for every input, no condition. -/
import Derived.Test.YtijindelbagpiaaDoorPFrameNonex4
import Derived.Test.YtijindelbagpiaaDoorKFrameNoneXAliveF
import Derived.Test.YtijindelbagpiaaDoorKFrameNoneXFrame
import Derived.Test.YtijindelbagpiaaDoorXBits
namespace Go.Proofs.YtijindelbagpiaaDoor.Pure
open Go.RowKit Go.Proofs.YtijindelbagpiaaDoor.PFrameNone Go.Proofs.YtijindelbagpiaaDoor.X Go.Proofs.YtijindelbagpiaaDoorW.PrintWords Go.Proofs.YtijindelbagpiaaDoorW.PrintMore
set_option linter.unusedVariables false
set_option linter.unusedSimpArgs false
theorem lite_x5 : Lite ([(⟨⟨#[88]⟩, ⟨#[53]⟩⟩ : FdT)]) := ⟨by simp, fun x hx => by rw [List.mem_singleton.1 hx]; exact ⟨by show (1 : Nat) ≤ 1048576; omega, by show (1 : Nat) ≤ 1048576; omega⟩⟩
theorem has_x5 : hasN ([(⟨⟨#[88]⟩, ⟨#[53]⟩⟩ : FdT)]) nTE = false ∧ hasN ([(⟨⟨#[88]⟩, ⟨#[53]⟩⟩ : FdT)]) nCL = false := by decide +kernel
theorem lite_nil : Lite ([] : List FdT) := ⟨by simp, fun x hx => by cases hx⟩
theorem bare_204 (m : ByteArray) : bare m 204 = true := by unfold bare; simp
theorem bare_304 (m : ByteArray) : bare m 304 = true := by unfold bare; simp
theorem bare_1 (m : ByteArray) (c : Int) (h : c < 200) : bare m c = true := by unfold bare; simp [h]
theorem bare_head (c : Int) : bare (⟨#[72, 69, 65, 68]⟩ : ByteArray) c = true := by
  unfold bare
  have : L (⟨#[72, 69, 65, 68]⟩ : ByteArray) = [72, 69, 65, 68] := rfl
  rw [decide_eq_true this]; rfl
theorem bare_get : bare (⟨#[71, 69, 84]⟩ : ByteArray) 200 = false := by decide +kernel
theorem FrameNone : tollbarlaw07_FrameNone.Pure := by
  intro fs method code hfs hm hc
  suffices hh : ∀ k, 4398046511199 < k → tollbarlaw07_FrameNone.f k fs method code = some true from ⟨4398046511200, hh _ (by omega)⟩
  intro k hk
  unfold tollbarlaw07_FrameNone.f
  rw [if_pos]
  refine ⟨alive_ok k (by omega), .inr ⟨?_, ?_, ?_, ?_, ?_, ?_⟩⟩
  · exact response_bare _ _ _ _ _ _ (bare_204 _) k (by omega)
  · exact response_bare _ _ _ _ _ _ (bare_304 _) k (by omega)
  · exact response_bare _ _ _ _ _ _ (bare_1 _ _ (by omega)) k (by omega)
  · exact response_bare _ _ _ _ _ _ (bare_head _) k (by omega)
  · rw [request_spec _ lite_x5.mid code k (by omega)]
    unfold reqM
    rw [has_x5.1, has_x5.2]; rfl
  · rw [response_spec _ _ _ _ _ _ lite_nil.mid k (by omega)]
    unfold respM reqM
    have h1 : hasN ([] : List FdT) nTE = false := rfl
    have h2 : hasN ([] : List FdT) nCL = false := rfl
    rw [bare_get, h1, h2]; simp
end Go.Proofs.YtijindelbagpiaaDoor.Pure
