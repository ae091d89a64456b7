/- A part of the library of this claim: rules of an abstract machine (values in place of addresses), proved against the model, and contracts of the functions. -/
import Derived.Test.YtfbmgodfpjeanaaQsA
set_option linter.unusedVariables false
set_option linter.unusedSimpArgs false
namespace Go.Qd
open Go Go.Proofs
section
variable {ops : Array Oper} {s : AS} {N : AS → Prop} {c : Code} {K : Exit → AS → Prop}
theorem AOps.backF {A : Prop} (f : A) {l : List Oper} {Q : Prop} (hq : Q) (h : A → Goal Q → AOps Try.prog ops l s N := by intro hA hQ; (simp (config := {decide := true}) only [AS.enter, AS.backL, AS.back, AS.backK, convA, convL, convH, convO, rhoL, rhoT, rhoK, eput, hget, reduceIte, Nat.reduceEqDiff, Nat.reduceLT, Nat.reduceBEq, AS.top, Nat.reduceMul, Nat.reduceAdd, entryEnv, List.filter_nil, List.filterMap_nil, List.filterMap_cons, List.find?_nil, List.find?_cons, List.all_nil, List.all_cons, List.map_cons, List.map_nil, true_and, and_true, ne_eq, not_false_eq_true, not_true_eq_false, and_false, false_and, List.append_nil, List.nil_append, List.cons_append, takeW, takeK, lenW, lenK, splW, splW', clW, klW, splK, clK, klK, keysW, keysK, renW, renK, hA]); exact hQ.out) : AOps Try.prog ops l s N := h f ⟨hq⟩
theorem AWP.enterF {A : Prop} (f : A) {Q : Prop} (hq : Q) (h : A → Goal Q → AWP Try.prog c s K := by intro hA hQ; (simp (config := {decide := true}) only [AS.enter, AS.backL, AS.back, AS.backK, convA, convL, convH, convO, rhoL, rhoT, rhoK, eput, hget, reduceIte, Nat.reduceEqDiff, Nat.reduceLT, Nat.reduceBEq, AS.top, Nat.reduceMul, Nat.reduceAdd, entryEnv, List.filter_nil, List.filterMap_nil, List.filterMap_cons, List.find?_nil, List.find?_cons, List.all_nil, List.all_cons, List.map_cons, List.map_nil, true_and, and_true, ne_eq, not_false_eq_true, not_true_eq_false, and_false, false_and, List.append_nil, List.nil_append, List.cons_append, takeW, takeK, lenW, lenK, splW, splW', clW, klW, splK, clK, klK, keysW, keysK, renW, renK, hA]); exact hQ.out) : AWP Try.prog c s K := h f ⟨hq⟩
end
end Go.Qd
