/-
  AwCl: what the row's closed facts ask of the program as a whole, whatever the statement. Own work.
-/
import Derived.Test.YtdababcblhbpeaaRows
import Derived.JoinedOf
import Derived.KernelRfl
set_option linter.unusedSimpArgs false
set_option linter.unusedVariables false
namespace Go.Aw
open Go.Proofs Go.Proofs.Ytdababcblhbpeaa
def signs : List Char := List.map Char.ofNat [104, 97, 114, 110, 101, 115, 115, 32, 57, 57, 101, 53, 102, 51, 56, 102, 50, 50, 54, 101, 51, 56, 99, 98, 97, 52, 50, 98, 99, 52, 100, 53, 48, 52, 102, 49, 52, 97, 52, 100, 97, 48, 55, 100, 48, 50, 52, 52, 97, 53, 56, 100, 50, 99, 55, 56, 49, 54, 49, 99, 52, 51, 50, 101, 51, 55, 48, 56, 53, 55, 55, 98, 32, 99, 117, 116, 32, 97, 116, 32, 99, 111, 114, 97, 99, 108, 101, 47, 99, 111, 114, 97, 99, 108, 101, 108, 97, 119, 49, 46, 78, 117, 109, 83, 105, 122, 101, 115, 32, 99, 111, 114, 97, 99, 108, 101, 47, 99, 111, 114, 97, 99, 108, 101, 108, 97, 119, 49, 46, 78, 117, 109, 82, 101, 97, 100, 115, 32, 99, 111, 114, 97, 99, 108, 101, 47, 99, 111, 114, 97, 99, 108, 101, 108, 97, 119, 49, 46, 78, 117, 109, 82, 111, 119, 32, 99, 111, 114, 97, 99, 108, 101, 47, 99, 111, 114, 97, 99, 108, 101, 108, 97, 119, 49, 46, 78, 117, 109, 79, 114, 100, 101, 114, 32, 99, 111, 114, 97, 99, 108, 101, 47, 99, 111, 114, 97, 99, 108, 101, 108, 97, 119, 50, 46, 83, 104, 97, 65, 108, 108, 32, 99, 111, 114, 97, 99, 108, 101, 47, 99, 111, 114, 97, 99, 108, 101, 108, 97, 119, 50, 46, 83, 104, 97, 83, 117, 109, 115, 32, 99, 111, 114, 97, 99, 108, 101, 47, 99, 111, 114, 97, 99, 108, 101, 108, 97, 119, 49, 51, 46, 83, 99, 114, 105, 112, 116, 71, 114, 111, 119, 115, 32, 99, 111, 114, 97, 99, 108, 101, 47, 99, 111, 114, 97, 99, 108, 101, 108, 97, 119, 49, 51, 46, 83, 99, 114, 105, 112, 116, 65, 103, 101, 115, 32, 99, 111, 114, 97, 99, 108, 101, 47, 99, 111, 114, 97, 99, 108, 101, 108, 97, 119, 49, 51, 46, 83, 99, 114, 105, 112, 116, 65, 115, 107, 115, 32, 99, 111, 114, 97, 99, 108, 101, 47, 99, 111, 114, 97, 99, 108, 101, 108, 97, 119, 49, 52, 46, 87, 105, 116, 110, 101, 115, 115, 82, 105, 112, 101, 110, 115, 32, 99, 111, 114, 97, 99, 108, 101, 47, 99, 111, 114, 97, 99, 108, 101, 108, 97, 119, 49, 52, 46, 87, 105, 116, 110, 101, 115, 115, 65, 115, 107, 115, 32, 99, 111, 114, 97, 99, 108, 101, 47, 99, 111, 114, 97, 99, 108, 101, 108, 97, 119, 49, 52, 46, 87, 105, 116, 110, 101, 115, 115, 72, 111, 108, 100, 115, 32, 99, 111, 114, 97, 99, 108, 101, 47, 99, 111, 114, 97, 99, 108, 101, 108, 97, 119, 49, 48, 46, 67, 104, 97, 105, 110, 69, 118, 101, 110, 116, 115, 32, 99, 111, 114, 97, 99, 108, 101, 47, 99, 111, 114, 97, 99, 108, 101, 108, 97, 119, 49, 48, 46, 67, 104, 97, 105, 110, 68, 101, 101, 112, 32, 99, 111, 114, 97, 99, 108, 101, 47, 99, 111, 114, 97, 99, 108, 101, 108, 97, 119, 49, 48, 46, 67, 104, 97, 105, 110, 70, 111, 114, 103, 101, 116, 115, 32, 99, 111, 114, 97, 99, 108, 101, 47, 99, 111, 114, 97, 99, 108, 101, 108, 97, 119, 49, 48, 46, 67, 104, 97, 105, 110, 87, 97, 105, 116, 115, 32, 99, 111, 114, 97, 99, 108, 101, 47, 99, 111, 114, 97, 99, 108, 101, 108, 97, 119, 49, 48, 46, 67, 104, 97, 105, 110, 79, 114, 100, 101, 114, 32, 99, 111, 114, 97, 99, 108, 101, 47, 99, 111, 114, 97, 99, 108, 101, 108, 97, 119, 49, 48, 46, 67, 104, 97, 105, 110, 66, 101, 115, 116, 32, 99, 111, 114, 97, 99, 108, 101, 47, 99, 111, 114, 97, 99, 108, 101, 108, 97, 119, 49, 48, 46, 67, 104, 97, 105, 110, 80, 108, 97, 121, 115]
set_option maxRecDepth 100000 in
theorem order_text : Try.pinned.checked.prog.initOrder = String.ofList signs := by kernel_rfl
theorem order_signs : Try.pinned.checked.prog.initOrder.toList = signs := by rw [order_text, String.toList_ofList]
/- the program is but a letter till its head is read -/
set_option maxRecDepth 100000 in
theorem enter_of (P : Program) (hP : Try.pinned.checked.prog = P) (h : P.initOrder.toList = signs) : P.mayEnter = true := by
  unfold Program.mayEnter
  rw [h]
  subst hP
  kernel_rfl
set_option maxRecDepth 100000 in
theorem make_of (P : Program) (hP : Try.pinned.checked.prog = P) (h : P.initOrder.toList = signs) : P.make = some .cut := by
  unfold Program.make
  rw [h]
  subst hP
  kernel_rfl
set_option maxRecDepth 100000 in
theorem lifts_of (P : Program) (hP : Try.pinned.checked.prog = P) (h : P.initOrder.toList = signs) : P.liftsFinal = false := by
  unfold Program.liftsFinal Program.headLifts
  rw [h]
  subst hP
  kernel_rfl
theorem may_enter : Try.pinned.checked.prog.mayEnter = true := enter_of _ rfl order_signs
theorem made_cut : Try.pinned.checked.prog.make = some .cut := make_of _ rfl order_signs
theorem lifts_none : Try.pinned.checked.prog.liftsFinal = false := lifts_of _ rfl order_signs
end Go.Aw
