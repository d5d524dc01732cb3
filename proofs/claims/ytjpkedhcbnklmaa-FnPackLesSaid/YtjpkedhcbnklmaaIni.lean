/-
  Own work, printed by my tool: the load's first words, as lists of signs (the kernel need not decode a string).
-/
import Derived.Test.YtjpkedhcbnklmaaRows
import Derived.JoinedOf
namespace Go.Proofs.Ytjpkedhcbnklmaa
open Go Go.Proofs
namespace Ini
abbrev c:=Char.ofNat
set_option maxRecDepth 100000
theorem word_end (w:List Char)(h:w.all (fun x=>x !=c 32)=true):wordsSigns w=[w]:=by
 induction w with
 | nil=>rfl
 | cons a r ih=>
  rw[List.all_cons,Bool.and_eq_true]at h;have ha:a≠c 32:=by simpa using h.1
  rw[wordsSigns.eq_3 a r (by intro e;exact ha e),ih h.2]
theorem word_next (w:List Char)(h:w.all (fun x=>x !=c 32)=true)(r:List Char):wordsSigns (w++c 32::r)=w::wordsSigns r:=by
 induction w with
 | nil=>rfl
 | cons a r' ih=>
  rw[List.all_cons,Bool.and_eq_true]at h;have ha:a≠c 32:=by simpa using h.1
  rw[List.cons_append,wordsSigns.eq_3 a _ (by intro e;exact ha e),ih h.2]
theorem make_of {P : Program} {a b c : List Char} {r : List (List Char)} (h : wordsSigns P.initOrder.toList = a :: b :: c :: r) (h0 : ((a == "harness".toList || a == "ownmain".toList) && isSumSigns b) = true) (h1 : (c == "gc".toList || c == "spec".toList) = false) (h2 : (c == "cut".toList) = true) : P.make = some .cut := by
 have hb:behindMainWord (wordsSigns P.initOrder.toList)=c::r:=by
  rw[h];unfold behindMainWord;simp only[h0,if_true]
 unfold Program.make;rw[hb];simp only[h1,h2,Bool.true_or,if_true,Bool.false_eq_true,if_false]
theorem strip_of {c:List Char}(r:List (List Char)):∀(os:List String),os.all (fun o=> !(c==o.toList))=true->stripLifts os (c::r)=([],c::r)
 | [],_=>rfl
 | o::os,h=>by
  rw[List.all_cons,Bool.and_eq_true,Bool.not_eq_true']at h;have ih:=strip_of r os h.2;unfold stripLifts;rw[h.1];exact ih
theorem enter_of {P : Program} {a b c : List Char} {r : List (List Char)} (h : wordsSigns P.initOrder.toList = a :: b :: c :: r) (h0 : ((a == "harness".toList || a == "ownmain".toList) && isSumSigns b) = true) (h2 : (c == "cut".toList) = true) (h3 : liftWords.all (fun o => !(c == o.toList)) = true) (h4 : P.laysLater = false) (h5 : P.bearsReflect = false) (h6 : P.doorFits [] = true) : P.mayEnter = true := by
 have hb:behindMainWord (wordsSigns P.initOrder.toList)=c::r:=by
  rw[h];unfold behindMainWord;simp only[h0,if_true]
 have hc : (some c == some "cut".toList) = true := h2
 unfold Program.mayEnter;rw[hb];dsimp only;rw[strip_of r liftWords h3];simp only[h4,h5,h6,List.head?_cons,hc,Bool.not_false,Bool.or_true,Bool.and_true,Bool.and_self]
 have hn : (([] : List String).contains "leanrows") = false := rfl
 rw[hn];simp only[Bool.not_false,Bool.or_true,Bool.and_true]
def w0:List Char:=[c 104,c 97,c 114,c 110,c 101,c 115,c 115]
def w1:List Char:=[c 56,c 57,c 57,c 97,c 57,c 99,c 53,c 101,c 55,c 55,c 56,c 102,c 100,c 101,c 97,c 54,c 101,c 53,c 102,c 49,c 56,c 56,c 53,c 50,c 100,c 54,c 100,c 52,c 55,c 48,c 56,c 97,c 55,c 97,c 98,c 98,c 49,c 50,c 97,c 102,c 99,c 52,c 101,c 99,c 57,c 49,c 100,c 102,c 98,c 52,c 98,c 99,c 52,c 56,c 51,c 50,c 102,c 52,c 49,c 98,c 55,c 54,c 55,c 52]
def w2:List Char:=[c 99,c 117,c 116]
def w3:List Char:=[c 97,c 116]
def w4:List Char:=[c 108,c 111,c 111,c 112,c 46,c 101,c 120,c 97,c 109,c 112,c 108,c 101,c 47,c 103,c 48,c 51,c 51,c 49,c 49,c 47,c 108,c 97,c 119,c 115,c 46,c 70,c 110,c 69,c 120,c 97,c 99,c 116,c 80,c 97,c 99,c 107,c 79,c 107]
def w5:List Char:=[c 108,c 111,c 111,c 112,c 46,c 101,c 120,c 97,c 109,c 112,c 108,c 101,c 47,c 103,c 48,c 51,c 51,c 49,c 49,c 47,c 108,c 97,c 119,c 115,c 46,c 70,c 110,c 69,c 120,c 97,c 99,c 116,c 80,c 97,c 99,c 107]
def w6:List Char:=[c 108,c 111,c 111,c 112,c 46,c 101,c 120,c 97,c 109,c 112,c 108,c 101,c 47,c 103,c 48,c 51,c 51,c 49,c 49,c 47,c 108,c 97,c 119,c 115,c 46,c 70,c 110,c 69,c 120,c 97,c 99,c 116,c 67,c 111,c 110,c 110,c 115,c 79,c 102]
def w7:List Char:=[c 108,c 111,c 111,c 112,c 46,c 101,c 120,c 97,c 109,c 112,c 108,c 101,c 47,c 103,c 48,c 51,c 51,c 49,c 49,c 47,c 108,c 97,c 119,c 115,c 46,c 70,c 110,c 69,c 120,c 97,c 99,c 116,c 82,c 111,c 117,c 116,c 101,c 65,c 108,c 108]
def w8:List Char:=[c 108,c 111,c 111,c 112,c 46,c 101,c 120,c 97,c 109,c 112,c 108,c 101,c 47,c 103,c 48,c 51,c 51,c 49,c 49,c 47,c 108,c 97,c 119,c 115,c 46,c 70,c 110,c 80,c 97,c 99,c 107,c 75,c 101,c 101,c 112,c 115]
def w9:List Char:=[c 108,c 111,c 111,c 112,c 46,c 101,c 120,c 97,c 109,c 112,c 108,c 101,c 47,c 103,c 48,c 51,c 51,c 49,c 49,c 47,c 108,c 97,c 119,c 115,c 46,c 70,c 110,c 67,c 111,c 115,c 116,c 83,c 117,c 109]
def w10:List Char:=[c 108,c 111,c 111,c 112,c 46,c 101,c 120,c 97,c 109,c 112,c 108,c 101,c 47,c 103,c 48,c 51,c 51,c 49,c 49,c 47,c 108,c 97,c 119,c 115,c 46,c 70,c 110,c 80,c 97,c 99,c 107,c 76,c 101,c 115]
def signs:List Char:=w0++c 32::(w1++c 32::(w2++c 32::(w3++c 32::(w4++c 32::(w5++c 32::(w6++c 32::(w7++c 32::(w8++c 32::(w9++c 32::(w10))))))))))
theorem str:Try.prog.initOrder=String.ofList signs:=by kernel_rfl
theorem list:wordsSigns Try.prog.initOrder.toList=[w0,w1,w2,w3,w4,w5,w6,w7,w8,w9,w10]:=by rw[str,String.toList_ofList];exact(word_next w0 (by kernel_rfl) _).trans (congrArg (w0::·) ((word_next w1 (by kernel_rfl) _).trans (congrArg (w1::·) ((word_next w2 (by kernel_rfl) _).trans (congrArg (w2::·) ((word_next w3 (by kernel_rfl) _).trans (congrArg (w3::·) ((word_next w4 (by kernel_rfl) _).trans (congrArg (w4::·) ((word_next w5 (by kernel_rfl) _).trans (congrArg (w5::·) ((word_next w6 (by kernel_rfl) _).trans (congrArg (w6::·) ((word_next w7 (by kernel_rfl) _).trans (congrArg (w7::·) ((word_next w8 (by kernel_rfl) _).trans (congrArg (w8::·) ((word_next w9 (by kernel_rfl) _).trans (congrArg (w9::·) (word_end w10 (by kernel_rfl)))))))))))))))))))))
theorem enter:Try.prog.mayEnter=true:=enter_of list (by kernel_rfl) (by kernel_rfl) (by kernel_rfl) (by kernel_rfl) (by kernel_rfl) (by kernel_rfl)
theorem lifts:Try.prog.liftsFinal=false:=by unfold Program.liftsFinal Program.headLifts;rw[list];kernel_rfl
theorem make:Try.prog.make=some .cut:=make_of list (by kernel_rfl) (by kernel_rfl) (by kernel_rfl)
end Ini
end Go.Proofs.Ytjpkedhcbnklmaa
