/- The normal form of a sum of terms: its keys with a coefficient that is not 0, sorted. Plain Lean. -/
import Derived.Test.YtmdahjmkfipdfaaPoly1
import Derived.Sort.KeysCollected
namespace Go.Proofs.Ytmdahjmkfipdfaa
set_option linter.unusedVariables false
set_option linter.unusedSimpArgs false
def expsOf (k : List UInt8) : List Int := k.map fun b => (b.toNat : Int)
/-- The keys that have a coefficient. -/
def nzKeys (T : Tm) : List (List UInt8) := (T.map (·.1)).eraseDups.filter fun k => decide (tsum T k % 18446744073709551616 ≠ 0)
def monoAt (T : Tm) (k : List UInt8) : Mono := ⟨expsOf k, tsum T k % 18446744073709551616⟩
def normOut (T : Tm) : List Mono := ((nzKeys T).mergeSort leB).map (monoAt T)
def polyNorm (p : Pat) (vars : Int) : Option (List Mono) := if patValid p vars 0 = true then (pterms vars.toNat p).map normOut else none
theorem nodup_eraseDups {α : Type} [BEq α] [LawfulBEq α] : ∀ (n : Nat) (l : List α), l.length ≤ n → l.eraseDups.Nodup
  | _, [], _ => by simp
  | 0, _ :: _, h => by simp at h
  | n + 1, a :: l, h => by
    rw [List.eraseDups_cons, List.nodup_cons]
    refine ⟨fun hm => ?_, nodup_eraseDups n _ (Nat.le_trans (List.length_filter_le _ _) (by simpa using h))⟩
    have := List.mem_eraseDups.1 hm
    simp at this
theorem tsum_ne_zero {T : Tm} {k : List UInt8} (h : tsum T k % 18446744073709551616 ≠ 0) : k ∈ T.map (·.1) := by
  refine Classical.byContradiction fun hn => h ?_
  have : tsum T k = 0 := by
    clear h
    induction T with
    | nil => rfl
    | cons p T ih =>
      rw [tsum_cons, ih (fun hm => hn (by simp at hm ⊢; exact Or.inr hm)), if_neg]
      · rfl
      · intro e; exact hn (by simp [e])
  rw [this]; rfl
theorem nzKeys_nodup (T : Tm) : (nzKeys T).Nodup := (nodup_eraseDups _ _ (Nat.le_refl _)).filter _
theorem mem_nzKeys (T : Tm) (k : List UInt8) : k ∈ nzKeys T ↔ tsum T k % 18446744073709551616 ≠ 0 := by
  unfold nzKeys
  rw [List.mem_filter, List.mem_eraseDups]
  simp only [decide_eq_true_eq]
  exact ⟨fun h => h.2, fun h => ⟨tsum_ne_zero h, h⟩⟩
end Go.Proofs.Ytmdahjmkfipdfaa
