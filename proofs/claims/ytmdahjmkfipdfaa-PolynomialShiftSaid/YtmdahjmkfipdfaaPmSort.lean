/- sort.Strings at a row of the call's own -/
import Derived.Test.YtmdahjmkfipdfaaPmNorm2
import Derived.Test.YtmdahjmkfipdfaaPoly2
import Derived.Test.YtmdahjmkfipdfaaShelf
import Derived.Sort.OwnSorted
namespace Go.Proofs.Ytmdahjmkfipdfaa
set_option linter.unusedVariables false
set_option linter.unusedSimpArgs false
open Go.RowKit Go.Sort Go.Proofs.YtmdahjmkfipdfaaW.PrintWords Go.Proofs.YtmdahjmkfipdfaaW.PrintLast Go.Proofs.YtmdahjmkfipdfaaW.PrintMore
theorem sortStrings_calls (base : Nat) (v : Value) (ss : List (List UInt8)) (w : World) (h : w.ownsRow base 9 1 v ss.length (ss.map encStr)) (hl : ss.length < 4611686018427387904) :
    Calls Try.prog 39 #[v] w fun e w' => e = .returned (.tuple #[]) ∧ w'.ownsRow base 9 1 v ss.length ((ss.mergeSort leB).map encStr) ∧ w.grownBy w' v.ownBlock := by
  rcases h.2 with ⟨rfl, h0⟩ | ⟨g, cap, cur, rfl, hbase, hb, h1, h2, h3, h4⟩
  · rw [h0]
    have e := List.eq_nil_of_length_eq_zero h0
    subst e
    refine (shelf_sort_Strings_none none 0 w).mono ?_
    rintro e w' ⟨rfl, rfl⟩
    refine ⟨rfl, by simpa using h, rfl, rfl, rfl, Nat.le_refl _, fun _ _ _ => rfl⟩
  · refine (shelf_sort_Strings g 0 cap ss w (holds_of_block hb (by simpa using h4)) (Array.getElem?_eq_some_iff.1 hb).1 hl).mono ?_
    rintro e w' ⟨rfl, n, os, rfl⟩
    have hm : (ss.mergeSort leB).length = ss.length := List.length_mergeSort ss
    have q := ownsRow_sorted (n := n) (os := os) (ss := ss) (ts := ss.mergeSort leB) hm hbase hb h1 h2 h3
    refine ⟨rfl, q, ?_⟩
    exact grownBy_sorted _
end Go.Proofs.Ytmdahjmkfipdfaa
