/- The terms of a pattern (polynomial.normalize), and which patterns it is asked of. Plain Lean. -/
import Derived.Test.YtmdahjmkfipdfaaPure1
import Derived.Test.YtmdahjmkfipdfaaPoly0
namespace Go.Proofs.Ytmdahjmkfipdfaa
set_option linter.unusedVariables false
set_option linter.unusedSimpArgs false
def zeroK (v : Nat) : List UInt8 := List.replicate v 0
def unitK (v n : Nat) : List UInt8 := (List.replicate v 0).set n 1
/-- What normalize makes of the terms of the operands. -/
def opTerms (v : Nat) (op : Int) (L : List Tm) : Option Tm :=
  let a := L.getD 0 []; let b := L.getD 1 []
  if op = 4 then some (a ++ b) else if op = 5 then some (a ++ scaleT 18446744073709551615 b) else if op = 6 then some (prodT a b)
  else if op = 20 then some (scaleT 18446744073709551615 a) else if op = 21 then some ((zeroK v, 18446744073709551615) :: scaleT 18446744073709551615 a) else none
mutual
def pterms (v : Nat) : Pat → Option Tm
  | ⟨var, op, imm, _, ks⟩ =>
    if var > 0 then some [(unitK v (var - 1).toNat, 1)]
    else if op = 1 then some [(zeroK v, imm)]
    else if op = 12 then shlTerms v ks
    else (ptermss v ks).bind (opTerms v op)
def shlTerms (v : Nat) : List Pat → Option Tm
  | a :: b :: _ => if b.op = 1 then (pterms v a).map (scaleT (2 ^ (b.imm % 64).toNat)) else none
  | _ => none
def ptermss (v : Nat) : List Pat → Option (List Tm)
  | [] => some []
  | k :: ks => (pterms v k).bind fun t => (ptermss v ks).map (t :: ·)
end
mutual
/-- Variables in range and the right number of operands. -/
def shape (v : Nat) : Pat → Prop
  | ⟨var, op, _, _, ks⟩ => if var ≠ 0 then 1 ≤ var ∧ var ≤ v else (∃ kids s, opSorts op = some (kids, s) ∧ ks.length = kids.length) ∧ shapes v ks
def shapes (v : Nat) : List Pat → Prop
  | [] => True
  | k :: ks => shape v k ∧ shapes v ks
end
theorem shapes_get {v : Nat} : ∀ {ks : List Pat} {i : Nat} {q : Pat}, shapes v ks → ks[i]? = some q → shape v q
  | [], _, _, _, h => by simp at h
  | k :: ks, 0, q, hs, h => by simp at h; subst h; rw [shapes] at hs; exact hs.1
  | k :: ks, i + 1, q, hs, h => by rw [shapes] at hs; exact shapes_get hs.2 (by simpa using h)
theorem valids_shape (imms : Int) : ∀ (ks : List Pat) (s vars : List Int), (∀ k ∈ ks, ∀ (sort : Int) (vars : List Int), (valid imms k sort vars).1 = true → shape vars.length k) → (valids imms ks s vars).1 = true → shapes vars.length ks
  | [], _, _, _, _ => by rw [shapes]; trivial
  | k :: ks, s, vars, h, hv => by
    rw [valids] at hv
    by_cases e : (valid imms k (s.headD 0) vars).1 = true
    · rw [if_pos e] at hv
      rw [shapes]
      refine ⟨h k (by simp) _ _ e, ?_⟩
      have := valids_shape imms ks _ _ (fun q hq => h q (by simp [hq])) hv
      rwa [valid_len] at this
    · rw [if_neg e] at hv
      cases hv
theorem valid_shape (imms : Int) : ∀ (p : Pat) (sort : Int) (vars : List Int), (valid imms p sort vars).1 = true → shape vars.length p := by
  refine Pat.ind ?_
  rintro ⟨v, o, i, iv, ks⟩ ih sort vars h
  rw [shape]
  by_cases h0 : v ≠ 0
  · rw [if_pos h0]
    rw [valid, if_pos h0] at h
    by_cases h1 : v < 1 ∨ v > vars.length ∨ o ≠ 0 ∨ i ≠ 0 ∨ iv ≠ 0 ∨ ks.length > 0
    · rw [if_pos h1] at h; cases h
    · omega
  · rw [if_neg h0]
    have h0' : v = 0 := Classical.not_not.1 h0
    subst h0'
    rcases hos : opSorts o with _ | ⟨kids, own⟩
    · rw [valid_none hos] at h; cases h
    · rw [valid_some hos] at h
      by_cases h1 : ks.length ≠ kids.length ∨ (sort ≠ 0 ∧ sort ≠ own) ∨ validImm ⟨0, o, i, iv, ks⟩ imms = false
      · rw [if_pos h1] at h; cases h
      · rw [if_neg h1] at h
        exact ⟨⟨kids, own, rfl, Classical.byContradiction fun e => h1 (Or.inl e)⟩, valids_shape imms ks kids vars ih h⟩
theorem sizes_nonneg : ∀ ks : List Pat, (∀ k ∈ ks, 1 ≤ k.size) → 0 ≤ Pat.sizes ks
  | [], _ => by simp [Pat.sizes]
  | k :: ks, h => by rw [Pat.sizes]; have h1 := h k (by simp); have h2 := sizes_nonneg ks (fun q hq => h q (by simp [hq])); omega
theorem size_pos : ∀ p : Pat, 1 ≤ p.size := by
  refine Pat.ind ?_
  intro p ih
  rw [Pat.size_eq]
  have := sizes_nonneg p.kids ih
  omega
theorem size_kid {p : Pat} {i : Nat} {q : Pat} (h : p.kids[i]? = some q) : q.size + 1 ≤ p.size := by
  rw [Pat.size_eq p]
  have h1 := sizes_take_succ h
  have h2 := sizes_append (p.kids.take (i + 1)) (p.kids.drop (i + 1))
  rw [List.take_append_drop] at h2
  have h3 := sizes_nonneg (p.kids.take i) (fun k _ => size_pos k)
  have h4 := sizes_nonneg (p.kids.drop (i + 1)) (fun k _ => size_pos k)
  omega
end Go.Proofs.Ytmdahjmkfipdfaa
