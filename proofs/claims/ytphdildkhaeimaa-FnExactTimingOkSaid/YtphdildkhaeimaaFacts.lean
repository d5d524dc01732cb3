/-
  Own work, printed by my facts.py: small closed facts on the types of this seat's translation, and for each region that draws its order the order that the walk takes.
-/
import Derived.Test.YtphdildkhaeimaaEvI
import Derived.Test.YtphdildkhaeimaaProg
namespace Go.Proofs.Ytphdildkhaeimaa
open Go Go.Ev Go.Proofs

theorem follows : Try.prog.follows .mixedOrders = true := by kernel_rfl
theorem fl_7_0 : fldOf Try.prog 7 0 = some (0, 0 + 1) := by kernel_rfl
theorem fl_7_1 : fldOf Try.prog 7 1 = some (1, 0 + 1) := by kernel_rfl
theorem fl_7_2 : fldOf Try.prog 7 2 = some (2, 0 + 1) := by kernel_rfl
theorem fl_7_3 : fldOf Try.prog 7 3 = some (3, 0 + 1) := by kernel_rfl
theorem fl_8_0 : fldOf Try.prog 8 0 = some (0, 0 + 1) := by kernel_rfl
theorem fl_8_1 : fldOf Try.prog 8 1 = some (1, 0 + 1) := by kernel_rfl
theorem fl_8_2 : fldOf Try.prog 8 2 = some (2, 0 + 1) := by kernel_rfl
theorem fl_8_3 : fldOf Try.prog 8 3 = some (3, 0 + 1) := by kernel_rfl
theorem fl_13_0 : fldOf Try.prog 13 0 = some (0, 0 + 1) := by kernel_rfl
theorem fl_13_1 : fldOf Try.prog 13 1 = some (1, 0 + 1) := by kernel_rfl
theorem fl_14_0 : fldOf Try.prog 14 0 = some (0, 0 + 1) := by kernel_rfl
theorem fl_14_1 : fldOf Try.prog 14 1 = some (1, 0 + 1) := by kernel_rfl
theorem fl_18_0 : fldOf Try.prog 18 0 = some (0, 0 + 1) := by kernel_rfl
theorem fl_19_0 : fldOf Try.prog 19 0 = some (0, 0 + 1) := by kernel_rfl
theorem fl_24_0 : fldOf Try.prog 24 0 = some (0, 0 + 1) := by kernel_rfl
theorem fl_24_1 : fldOf Try.prog 24 1 = some (1, 0 + 1) := by kernel_rfl
theorem fl_24_2 : fldOf Try.prog 24 2 = some (2, 0 + 1) := by kernel_rfl
theorem fl_24_3 : fldOf Try.prog 24 3 = some (3, 0 + 1) := by kernel_rfl
theorem zr_24 : zeroT Try.prog 24 = some [.int 0, .int 0, .int 0, .int 0] := by kernel_rfl
theorem fl_25_0 : fldOf Try.prog 25 0 = some (0, 0 + 1) := by kernel_rfl
theorem fl_25_1 : fldOf Try.prog 25 1 = some (1, 0 + 1) := by kernel_rfl
theorem fl_25_2 : fldOf Try.prog 25 2 = some (2, 0 + 1) := by kernel_rfl
theorem fl_25_3 : fldOf Try.prog 25 3 = some (3, 0 + 1) := by kernel_rfl
theorem zr_25 : zeroT Try.prog 25 = some [.int 0, .int 0, .int 0, .int 0] := by kernel_rfl
theorem el_26 : elemOf' Try.prog 26 = some 3 := by kernel_rfl
theorem es_26 : elSz Try.prog 26 = some (0 + 1) := by kernel_rfl
theorem sz_3 : szOf Try.prog 3 = 0 + 1 := by kernel_rfl
theorem zr_3 : zeroT Try.prog 3 = some [.int 0] := by kernel_rfl
theorem fl_28_0 : fldOf Try.prog 28 0 = some (0, 0 + 1) := by kernel_rfl
theorem fl_28_1 : fldOf Try.prog 28 1 = some (1, 0 + 1) := by kernel_rfl
theorem fl_28_2 : fldOf Try.prog 28 2 = some (2, 0 + 1) := by kernel_rfl
theorem fl_28_3 : fldOf Try.prog 28 3 = some (3, 0 + 1) := by kernel_rfl
theorem zr_28 : zeroT Try.prog 28 = some [.int 0, .int 0, .int 0, .int 0] := by kernel_rfl
theorem el_37 : elemOf' Try.prog 37 = some 59 := by kernel_rfl
theorem es_37 : elSz Try.prog 37 = some (2 + 1) := by kernel_rfl
theorem sz_59 : szOf Try.prog 59 = 2 + 1 := by kernel_rfl
theorem zr_59 : zeroT Try.prog 59 = some [.int 0, .int 0, .int 0] := by kernel_rfl
theorem fl_38_0 : fldOf Try.prog 38 0 = some (0, 0 + 1) := by kernel_rfl
theorem fl_38_1 : fldOf Try.prog 38 1 = some (1, 0 + 1) := by kernel_rfl
theorem zr_38 : zeroT Try.prog 38 = some [.int 0, .nil] := by kernel_rfl
theorem fl_39_0 : fldOf Try.prog 39 0 = some (0, 0 + 1) := by kernel_rfl
theorem fl_39_1 : fldOf Try.prog 39 1 = some (1, 0 + 1) := by kernel_rfl
theorem zr_39 : zeroT Try.prog 39 = some [.int 0, .nil] := by kernel_rfl
theorem el_42 : elemOf' Try.prog 42 = some 55 := by kernel_rfl
theorem es_42 : elSz Try.prog 42 = some (2 + 1) := by kernel_rfl
theorem sz_55 : szOf Try.prog 55 = 2 + 1 := by kernel_rfl
theorem zr_55 : zeroT Try.prog 55 = some [.int 0, .int 0, .int 0] := by kernel_rfl
theorem fl_43_0 : fldOf Try.prog 43 0 = some (0, 0 + 1) := by kernel_rfl
theorem fl_43_1 : fldOf Try.prog 43 1 = some (1, 0 + 1) := by kernel_rfl
theorem zr_43 : zeroT Try.prog 43 = some [.int 0, .nil] := by kernel_rfl
theorem fl_44_0 : fldOf Try.prog 44 0 = some (0, 0 + 1) := by kernel_rfl
theorem fl_44_1 : fldOf Try.prog 44 1 = some (1, 0 + 1) := by kernel_rfl
theorem zr_44 : zeroT Try.prog 44 = some [.int 0, .nil] := by kernel_rfl
theorem fl_54_0 : fldOf Try.prog 54 0 = some (0, 0 + 1) := by kernel_rfl
theorem fl_54_1 : fldOf Try.prog 54 1 = some (1, 0 + 1) := by kernel_rfl
theorem fl_54_2 : fldOf Try.prog 54 2 = some (2, 0 + 1) := by kernel_rfl
theorem zr_54 : zeroT Try.prog 54 = some [.int 0, .int 0, .int 0] := by kernel_rfl
theorem fl_55_0 : fldOf Try.prog 55 0 = some (0, 0 + 1) := by kernel_rfl
theorem fl_55_1 : fldOf Try.prog 55 1 = some (1, 0 + 1) := by kernel_rfl
theorem fl_55_2 : fldOf Try.prog 55 2 = some (2, 0 + 1) := by kernel_rfl
theorem fl_59_0 : fldOf Try.prog 59 0 = some (0, 0 + 1) := by kernel_rfl
theorem fl_59_1 : fldOf Try.prog 59 1 = some (1, 0 + 1) := by kernel_rfl
theorem fl_59_2 : fldOf Try.prog 59 2 = some (2, 0 + 1) := by kernel_rfl
theorem fl_62_0 : fldOf Try.prog 62 0 = some (0, 0 + 1) := by kernel_rfl
theorem fl_62_1 : fldOf Try.prog 62 1 = some (1, 0 + 1) := by kernel_rfl
theorem fl_62_2 : fldOf Try.prog 62 2 = some (2, 0 + 1) := by kernel_rfl
theorem fl_62_3 : fldOf Try.prog 62 3 = some (3, 0 + 1) := by kernel_rfl
theorem fl_63_0 : fldOf Try.prog 63 0 = some (0, 0 + 1) := by kernel_rfl
theorem fl_63_1 : fldOf Try.prog 63 1 = some (1, 0 + 1) := by kernel_rfl
theorem fl_63_2 : fldOf Try.prog 63 2 = some (2, 0 + 1) := by kernel_rfl
theorem fl_63_3 : fldOf Try.prog 63 3 = some (3, 0 + 1) := by kernel_rfl
theorem zr_65 : zeroT Try.prog 65 = some [] := by kernel_rfl
theorem zr_66 : zeroT Try.prog 66 = some [] := by kernel_rfl
theorem fl_75_0 : fldOf Try.prog 75 0 = some (0, 0 + 1) := by kernel_rfl
theorem fl_75_1 : fldOf Try.prog 75 1 = some (1, 0 + 1) := by kernel_rfl
theorem fl_75_2 : fldOf Try.prog 75 2 = some (2, 0 + 1) := by kernel_rfl
theorem fl_75_3 : fldOf Try.prog 75 3 = some (3, 0 + 1) := by kernel_rfl
theorem fl_75_4 : fldOf Try.prog 75 4 = some (4, 0 + 1) := by kernel_rfl
theorem fl_75_5 : fldOf Try.prog 75 5 = some (5, 0 + 1) := by kernel_rfl
theorem fl_75_6 : fldOf Try.prog 75 6 = some (6, 0 + 1) := by kernel_rfl
theorem fl_75_7 : fldOf Try.prog 75 7 = some (7, 0 + 1) := by kernel_rfl
theorem fl_75_8 : fldOf Try.prog 75 8 = some (8, 0 + 1) := by kernel_rfl
theorem fl_75_9 : fldOf Try.prog 75 9 = some (9, 0 + 1) := by kernel_rfl
theorem fl_75_10 : fldOf Try.prog 75 10 = some (10, 0 + 1) := by kernel_rfl
theorem fl_76_0 : fldOf Try.prog 76 0 = some (0, 0 + 1) := by kernel_rfl
theorem fl_76_1 : fldOf Try.prog 76 1 = some (1, 0 + 1) := by kernel_rfl
theorem fl_76_2 : fldOf Try.prog 76 2 = some (2, 0 + 1) := by kernel_rfl
theorem fl_76_3 : fldOf Try.prog 76 3 = some (3, 0 + 1) := by kernel_rfl
theorem fl_76_4 : fldOf Try.prog 76 4 = some (4, 0 + 1) := by kernel_rfl
theorem fl_76_5 : fldOf Try.prog 76 5 = some (5, 0 + 1) := by kernel_rfl
theorem fl_76_6 : fldOf Try.prog 76 6 = some (6, 0 + 1) := by kernel_rfl
theorem fl_76_7 : fldOf Try.prog 76 7 = some (7, 0 + 1) := by kernel_rfl
theorem fl_76_8 : fldOf Try.prog 76 8 = some (8, 0 + 1) := by kernel_rfl
theorem fl_76_9 : fldOf Try.prog 76 9 = some (9, 0 + 1) := by kernel_rfl
theorem fl_76_10 : fldOf Try.prog 76 10 = some (10, 0 + 1) := by kernel_rfl
def pm8 : Nat → List Nat
  | 10 => [0, 1, 2, 3, 4]
  | _ => []
def pm17 : Nat → List Nat
  | 6 => [0, 1, 2, 3, 4, 5, 6, 7, 8]
  | _ => []
def pm18 : Nat → List Nat
  | 3 => [0, 1, 5, 6, 7, 8, 10, 2, 3, 4, 9, 11, 12]
  | _ => []
def pm19 : Nat → List Nat
  | 1 => [0, 1, 2, 3, 4, 5, 6, 7, 8, 9, 10, 11, 12, 13, 14, 15, 16, 17, 18, 19, 20, 21, 22, 23, 24, 25]
  | 3 => [0, 1, 5, 6, 7, 8, 10, 2, 3, 4, 9, 11, 12]
  | _ => []
def pm28 : Nat → List Nat
  | 3 => [0, 1, 2, 3, 4, 5, 6, 7, 8]
  | _ => []
def pm31 : Nat → List Nat
  | 1 => [0, 1, 2, 3, 4, 5, 6, 7, 8]
  | _ => []
def pm34 : Nat → List Nat
  | 3 => [0, 1, 2, 3, 5, 8, 4, 6, 7, 9, 10, 11]
  | 4 => [0, 1, 2, 3, 5, 8, 4, 6, 7, 9, 10, 11]
  | _ => []
def pm37 : Nat → List Nat
  | 1 => [0, 1, 2, 3, 4, 5, 6, 7, 8, 9]
  | _ => []
def pm42 : Nat → List Nat
  | 1 => [0, 1, 2, 3, 4, 5, 6, 7, 8, 9]
  | _ => []
def pm45 : Nat → List Nat
  | 6 => [0, 1, 2, 3, 4, 5, 6, 7, 8, 9]
  | _ => []
end Go.Proofs.Ytphdildkhaeimaa
