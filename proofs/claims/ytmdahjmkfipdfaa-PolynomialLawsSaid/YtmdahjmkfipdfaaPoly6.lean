/- The laws of sums and products, by their normal forms. Plain Lean.; p - p and p + NOT p + 1. Plain Lean. -/
import Derived.Test.YtmdahjmkfipdfaaPoly3
namespace Go.Proofs.Ytmdahjmkfipdfaa
set_option linter.unusedVariables false
set_option linter.unusedSimpArgs false
theorem lsum_fun_add (T : Tm) (f g : List UInt8 → Int) : lsum T (fun a => f a + g a) = lsum T f + lsum T g := by
  induction T with
  | nil => simp [lsum_nil]
  | cons p T ih => rw [lsum_cons, lsum_cons, lsum_cons, ih, Int.mul_add]; omega
theorem lsum_fun_zero (T : Tm) : lsum T (fun _ => 0) = 0 := by
  induction T with
  | nil => rfl
  | cons p T ih => rw [lsum_cons, ih]; simp
theorem lsum_swap (A B : Tm) (g : List UInt8 → List UInt8 → Int) : lsum A (fun a => lsum B (fun b => g a b)) = lsum B (fun b => lsum A (fun a => g a b)) := by
  induction A with
  | nil => rw [lsum_nil]; exact (lsum_fun_zero B).symm
  | cons p A ih =>
    have e : (fun b => lsum (p :: A) (fun a => g a b)) = fun b => p.2 * g p.1 b + lsum A (fun a => g a b) := by funext b; rw [lsum_cons]
    rw [lsum_cons, ih, e, lsum_fun_add, lsum_fun_scale]
theorem addK_comm : ∀ a b : List UInt8, addK a b = addK b a
  | [], [] => rfl
  | [], _ :: _ => rfl
  | _ :: _, [] => rfl
  | x :: a, y :: b => by
    have := addK_comm a b
    simp only [addK, List.zipWith_cons_cons] at this ⊢
    rw [this, UInt8.add_comm]
theorem addK_assoc : ∀ a b c : List UInt8, addK (addK a b) c = addK a (addK b c)
  | [], _, _ => by simp [addK]
  | _ :: _, [], _ => by simp [addK]
  | _ :: _, _ :: _, [] => by simp [addK]
  | x :: a, y :: b, z :: c => by
    have := addK_assoc a b c
    simp only [addK, List.zipWith_cons_cons] at this ⊢
    rw [this, UInt8.add_assoc]
def binP (k : Int) (p q : Pat) : Pat := ⟨0, k, 0, 0, [p, q]⟩
def unP (k : Int) (p : Pat) : Pat := ⟨0, k, 0, 0, [p]⟩
def cP (n : Int) : Pat := ⟨0, 1, n, 0, []⟩
theorem pterms_bin {v : Nat} {op : Int} {p q : Pat} {A B : Tm} (h1 : op ≠ 1) (h12 : op ≠ 12) (hp : pterms v p = some A) (hq : pterms v q = some B) : pterms v (binP op p q) = opTerms v op [A, B] := by
  rw [binP, pterms, if_neg (by omega), if_neg h1, if_neg h12, ptermss, ptermss, ptermss, hp, hq]; rfl
theorem pterms_un {v : Nat} {op : Int} {p : Pat} {A : Tm} (h1 : op ≠ 1) (h12 : op ≠ 12) (hp : pterms v p = some A) : pterms v (unP op p) = opTerms v op [A] := by
  rw [unP, pterms, if_neg (by omega), if_neg h1, if_neg h12, ptermss, ptermss, hp]; rfl
theorem pterms_c {v : Nat} {n : Int} : pterms v (cP n) = some [(zeroK v, n)] := by rw [cP, pterms, if_neg (by omega), if_pos rfl]
/-- The pairs of PolynomialLaws. -/
def lawPairs (p q r : Pat) : List (Pat × Pat) :=
  [(binP 4 p q, binP 4 q p), (binP 6 p q, binP 6 q p), (binP 6 p (binP 4 q r), binP 4 (binP 6 p q) (binP 6 p r)), (binP 5 p q, binP 4 p (unP 20 q)),
   (binP 6 (binP 6 p q) r, binP 6 p (binP 6 q r)), (unP 21 (binP 5 p q), binP 5 q (binP 4 p (cP 1)))]
/-- Two patterns have terms that come to the same. -/
def SameTerms (v : Nat) (p q : Pat) : Prop := ∃ T U, pterms v p = some T ∧ pterms v q = some U ∧ normOut T = normOut U
theorem SameTerms.norm {vars : Int} {p q : Pat} (h : SameTerms vars.toNat p q) (hp : patValid p vars 0 = true) (hq : patValid q vars 0 = true) : ∃ ms, polyNorm p vars = some ms ∧ polyNorm q vars = some ms := by
  obtain ⟨T, U, h1, h2, h3⟩ := h
  refine ⟨normOut T, ?_, ?_⟩
  · rw [polyNorm, if_pos hp, h1]; rfl
  · rw [polyNorm, if_pos hq, h2, h3]; rfl
theorem laws_same {v : Nat} {p q r : Pat} {A B C : Tm} (hp : pterms v p = some A) (hq : pterms v q = some B) (hr : pterms v r = some C) : ∀ z ∈ lawPairs p q r, SameTerms v z.1 z.2 := by
  intro z hz
  simp only [lawPairs, List.mem_cons, List.not_mem_nil, or_false] at hz
  have h4 : ∀ {p q : Pat} {A B : Tm}, pterms v p = some A → pterms v q = some B → pterms v (binP 4 p q) = some (A ++ B) := fun h1 h2 => by rw [pterms_bin (by decide) (by decide) h1 h2]; rfl
  have h5 : ∀ {p q : Pat} {A B : Tm}, pterms v p = some A → pterms v q = some B → pterms v (binP 5 p q) = some (A ++ scaleT 18446744073709551615 B) := fun h1 h2 => by rw [pterms_bin (by decide) (by decide) h1 h2]; rfl
  have h6 : ∀ {p q : Pat} {A B : Tm}, pterms v p = some A → pterms v q = some B → pterms v (binP 6 p q) = some (prodT A B) := fun h1 h2 => by rw [pterms_bin (by decide) (by decide) h1 h2]; rfl
  have h20 : ∀ {p : Pat} {A : Tm}, pterms v p = some A → pterms v (unP 20 p) = some (scaleT 18446744073709551615 A) := fun h1 => by rw [pterms_un (by decide) (by decide) h1]; rfl
  have h21 : ∀ {p : Pat} {A : Tm}, pterms v p = some A → pterms v (unP 21 p) = some ((zeroK v, 18446744073709551615) :: scaleT 18446744073709551615 A) := fun h1 => by rw [pterms_un (by decide) (by decide) h1]; rfl
  rcases hz with rfl | rfl | rfl | rfl | rfl | rfl
  · refine ⟨_, _, h4 hp hq, h4 hq hp, normOut_lsum fun f => ?_⟩
    rw [lsum_append, lsum_append, Int.add_comm]
  · refine ⟨_, _, h6 hp hq, h6 hq hp, normOut_lsum fun f => ?_⟩
    rw [lsum_prodT, lsum_prodT, lsum_swap]
    simp only [addK_comm]
  · refine ⟨_, _, h6 hp (h4 hq hr), h4 (h6 hp hq) (h6 hp hr), normOut_lsum fun f => ?_⟩
    rw [lsum_prodT, lsum_append, lsum_prodT, lsum_prodT, ← lsum_fun_add]
    simp only [lsum_append]
  · exact ⟨_, _, h5 hp hq, h4 hp (h20 hq), rfl⟩
  · refine ⟨_, _, h6 (h6 hp hq) hr, h6 hp (h6 hq hr), normOut_lsum fun f => ?_⟩
    rw [lsum_prodT, lsum_prodT, lsum_prodT]
    simp only [lsum_prodT, addK_assoc]
  · refine ⟨_, _, h21 (h5 hp hq), h5 hq (h4 hp pterms_c), normOut_lsum fun f => ?_⟩
    rw [lsum_cons, lsum_scaleT, lsum_append, lsum_scaleT, lsum_append, lsum_scaleT, lsum_append, lsum_one]
    simp only [Int.mul_add]
    generalize lsum A f = a
    generalize lsum B f = b
    generalize f (zeroK v) = z
    omega
/-- What the generator makes has terms. -/
theorem genPat_terms (vars : Int) (hv : 1 ≤ vars) (v : Nat) : ∀ (d : Nat) (ls : List Int), ∃ T, pterms v (genPat vars d ls).1 = some T
  | 0, ls => by
    have h1 := Int.emod_nonneg ((ls.headD 0).tdiv 11 % 1000) (show vars ≠ 0 by omega)
    rw [genPat, pterms, if_pos (by omega)]
    exact ⟨_, rfl⟩
  | d + 1, ls => by
    have h1 := Int.emod_nonneg ((ls.headD 0).tdiv 11 % 1000) (show vars ≠ 0 by omega)
    obtain ⟨A, hA⟩ := genPat_terms vars hv v d ls.tail
    obtain ⟨B, hB⟩ := genPat_terms vars hv v d (genPat vars d ls.tail).2
    simp only [genPat]
    repeat' split
    all_goals first
      | exact ⟨_, by rw [pterms, if_pos (by omega)]⟩
      | exact ⟨_, pterms_c⟩
      | exact ⟨_, by rw [pterms, if_neg (by omega), if_neg (by omega), if_pos rfl, shlTerms, if_pos rfl, hA]; rfl⟩
      | exact ⟨_, pterms_un (by decide) (by decide) hA⟩
      | exact ⟨_, pterms_bin (by decide) (by decide) hA hB⟩
end Go.Proofs.Ytmdahjmkfipdfaa
namespace Go.Proofs.Ytmdahjmkfipdfaa
set_option linter.unusedVariables false
set_option linter.unusedSimpArgs false
theorem normOut_zero {T : Tm} (h : ∀ f : List UInt8 → Int, lsum T f % 18446744073709551616 = 0) : normOut T = [] := by
  have : normOut T = normOut [] := normOut_lsum fun f => by rw [h f, lsum_nil]; rfl
  rw [this]
  simp [normOut, nzKeys]
def cancelA (p : Pat) : Pat := binP 5 p p
def cancelB (p : Pat) : Pat := binP 4 (binP 4 p (unP 21 p)) (cP 1)
theorem cancelA_norm {p : Pat} {A : Tm} (hp : pterms 2 p = some A) (hv : patValid (cancelA p) 2 0 = true) : polyNorm (cancelA p) 2 = some [] := by
  have h5 : pterms 2 (cancelA p) = some (A ++ scaleT 18446744073709551615 A) := by rw [cancelA, pterms_bin (by decide) (by decide) hp hp]; rfl
  rw [polyNorm, if_pos hv, show (2 : Int).toNat = 2 from rfl, h5, Option.map_some, normOut_zero fun f => ?_]
  rw [lsum_append, lsum_scaleT]
  omega
theorem cancelB_norm {p : Pat} {A : Tm} (hp : pterms 2 p = some A) (hv : patValid (cancelB p) 2 0 = true) : polyNorm (cancelB p) 2 = some [] := by
  have h21 : pterms 2 (unP 21 p) = some ((zeroK 2, 18446744073709551615) :: scaleT 18446744073709551615 A) := by rw [pterms_un (by decide) (by decide) hp]; rfl
  have h4 : pterms 2 (binP 4 p (unP 21 p)) = some (A ++ ((zeroK 2, 18446744073709551615) :: scaleT 18446744073709551615 A)) := by rw [pterms_bin (by decide) (by decide) hp h21]; rfl
  have h5 : pterms 2 (cancelB p) = some ((A ++ ((zeroK 2, 18446744073709551615) :: scaleT 18446744073709551615 A)) ++ [(zeroK 2, 1)]) := by rw [cancelB, pterms_bin (by decide) (by decide) h4 pterms_c]; rfl
  rw [polyNorm, if_pos hv, show (2 : Int).toNat = 2 from rfl, h5, Option.map_some, normOut_zero fun f => ?_]
  rw [lsum_append, lsum_append, lsum_cons, lsum_scaleT, lsum_one]
  simp only
  omega
theorem opSorts4 : opSorts 4 = some ([1, 1], 1) := by decide
theorem opSorts5 : opSorts 5 = some ([1, 1], 1) := by decide
theorem opSorts21 : opSorts 21 = some ([1], 1) := by decide
theorem valids_two {imms : Int} {p q : Pat} {vars : List Int} : (valids imms [p, q] [1, 1] vars).1 = true ↔ (valid imms p 1 vars).1 = true ∧ (valid imms q 1 (valid imms p 1 vars).2).1 = true := by
  rw [valids, valids, valids]
  simp only [List.headD_cons, List.tail_cons]
  by_cases h1 : (valid imms p 1 vars).1 = true
  · by_cases h2 : (valid imms q 1 (valid imms p 1 vars).2).1 = true
    · simp [h1, h2]
    · simp [h1, h2]
  · simp [h1]
theorem valid_bin {imms : Int} {op : Int} {p q : Pat} {vars : List Int} {sort : Int} (ho : opSorts op = some ([1, 1], 1)) (hs : sort = 0 ∨ sort = 1) (hi : validImm (binP op p q) imms = true) :
    (valid imms (binP op p q) sort vars).1 = true ↔ (valid imms p 1 vars).1 = true ∧ (valid imms q 1 (valid imms p 1 vars).2).1 = true := by
  rw [binP] at hi ⊢
  rw [valid_some ho, if_neg (by rw [hi]; simp; omega), valids_two]
theorem valid_un1 {imms : Int} {p : Pat} {vars : List Int} (h : (valid imms (unP 21 p) 1 vars).1 = true) : (valid imms p 1 vars).1 = true := by
  rw [unP, valid_some opSorts21] at h
  split at h
  · cases h
  · rw [valids, valids] at h
    simp only [List.headD_cons, List.tail_cons] at h
    by_cases h1 : (valid imms p 1 vars).1 = true
    · exact h1
    · simp [h1] at h
theorem cancel_valid {p : Pat} (hz : p.size ≤ 1000) (h : patValid (cancelB p) 2 0 = true) : patValid (cancelA p) 2 0 = true := by
  have hp := size_pos p
  unfold patValid at h ⊢
  have e1 : (cancelB p).size = 2 * p.size + 4 := by simp [cancelB, binP, unP, cP, Pat.size, Pat.sizes]; omega
  have e2 : (cancelA p).size = 2 * p.size + 1 := by simp [cancelA, binP, Pat.size, Pat.sizes]; omega
  rw [e1] at h
  rw [e2]
  split at h
  · cases h
  · rename_i h1
    unfold wrap64' at h1 ⊢
    rw [if_neg (by omega)]
    rw [cancelB, valid_bin opSorts4 (Or.inl rfl) (by simp [validImm, binP])] at h
    have h2 := (valid_bin opSorts4 (Or.inr rfl) (by simp [validImm, binP])).1 h.1
    rw [cancelA, valid_bin opSorts5 (Or.inl rfl) (by simp [validImm, binP])]
    exact ⟨h2.1, valid_un1 h2.2⟩
end Go.Proofs.Ytmdahjmkfipdfaa
