/- Strings as lists of bytes: what the print's words on byte arrays say of lists. -/
import Derived.Test.YtffockklleanmaaWWords
import Derived.Test.YtffockklleanmaaWMore
import Derived.Lib.Bytealg
import Derived.Lib.Strings
namespace Go.Proofs.Ytffockklleanmaa.X
open Go.RowKit Go.Proofs.YtffockklleanmaaW.PrintWords Go.Proofs.YtffockklleanmaaW.PrintMore
set_option linter.unusedVariables false
set_option linter.unusedSimpArgs false

/-- a string's bytes -/
abbrev L (s : ByteArray) : List UInt8 := s.data.toList
theorem size_eq (s : ByteArray) : s.size = (L s).length := by rcases s with ⟨⟨l⟩⟩; rfl
theorem L_len (s : ByteArray) : (L s).length = s.size := by rcases s with ⟨⟨l⟩⟩; rfl
theorem L_append (s t : ByteArray) : L (s ++ t) = L s ++ L t := by rcases s with ⟨⟨l⟩⟩; rcases t with ⟨⟨m⟩⟩; simp [L, ByteArray.data_append]
theorem size_append (s t : ByteArray) : (s ++ t).size = s.size + t.size := by rw [size_eq, L_append, List.length_append, L_len, L_len]
end Go.Proofs.Ytffockklleanmaa.X
