/- Sums of terms: a list of keys with coefficients; what it says of a key, modulo 2^64. Plain Lean.; The terms of a pattern (polynomial.normalize), and which patterns it is asked of. Plain Lean. -/
import Derived.Test.YtmdahjmkfipdfaaPure1
namespace Go.Proofs.Ytmdahjmkfipdfaa
set_option linter.unusedVariables false
set_option linter.unusedSimpArgs false
section
variable {K : Type}
/-- The sum of the coefficients at a key. -/
def tsum [DecidableEq K] (T : List (K × Int)) (k : K) : Int := (T.map fun p => if p.1 = k then p.2 else 0).sum
theorem tsum_nil [DecidableEq K] (k : K) : tsum ([] : List (K × Int)) k = 0 := rfl
theorem tsum_cons [DecidableEq K] (p : K × Int) (T : List (K × Int)) (k : K) : tsum (p :: T) k = (if p.1 = k then p.2 else 0) + tsum T k := by simp [tsum]
theorem tsum_append [DecidableEq K] (A B : List (K × Int)) (k : K) : tsum (A ++ B) k = tsum A k + tsum B k := by
  induction A with
  | nil => simp [tsum_nil]
  | cons p A ih => simp only [List.cons_append, tsum_cons, ih]; omega
theorem tsum_perm [DecidableEq K] {A B : List (K × Int)} (h : A.Perm B) (k : K) : tsum A k = tsum B k := by
  induction h with
  | nil => rfl
  | cons p _ ih => simp only [tsum_cons, ih]
  | swap p q _ => simp only [tsum_cons]; omega
  | trans _ _ h1 h2 => exact h1.trans h2
/-- T lists the entries of M, each once. -/
def Terms (M : K → Option Int) (T : List (K × Int)) : Prop := (T.map (·.1)).Nodup ∧ ∀ k c, (k, c) ∈ T ↔ M k = some c
/-- T lists the entries of M that are no longer to come. -/
def Done (M : K → Option Int) (left : K → Bool) (T : List (K × Int)) : Prop := (T.map (·.1)).Nodup ∧ ∀ k c, (k, c) ∈ T ↔ M k = some c ∧ left k = false
theorem Done.start (M : K → Option Int) : Done M (fun k => (M k).isSome) [] := ⟨by simp, fun k c => by simp; intro h; simp [h]⟩
theorem Done.step [DecidableEq K] {M : K → Option Int} {left : K → Bool} {T : List (K × Int)} (h : Done M left T) {s : K} {c : Int} (hs : left s = true) (hM : M s = some c) : Done M (fun k => left k && !decide (k = s)) (T ++ [(s, c)]) := by
  refine ⟨?_, fun k x => ?_⟩
  · rw [List.map_append, List.nodup_append]
    refine ⟨h.1, by simp, fun a ha b hb => ?_⟩
    obtain ⟨⟨k, x⟩, hk, rfl⟩ := List.mem_map.1 ha
    have := ((h.2 k x).1 hk).2
    have hb' : b = s := by simpa using hb
    subst hb'
    rintro rfl
    simp only at this hs
    rw [hs] at this
    cases this
  · rw [List.mem_append, h.2]
    simp only [List.mem_singleton, Prod.mk.injEq, Bool.and_eq_false_iff, Bool.not_eq_false', decide_eq_true_eq]
    constructor
    · rintro (⟨h1, h2⟩ | ⟨rfl, rfl⟩)
      · exact ⟨h1, Or.inl h2⟩
      · exact ⟨hM, Or.inr rfl⟩
    · rintro ⟨h1, h2 | rfl⟩
      · exact Or.inl ⟨h1, h2⟩
      · exact Or.inr ⟨rfl, by rw [hM] at h1; injection h1 with h1; exact h1.symm⟩
theorem Done.end_ {M : K → Option Int} {left : K → Bool} {T : List (K × Int)} (h : Done M left T) (hl : ∀ k, left k = false) : Terms M T := ⟨h.1, fun k c => by rw [h.2]; simp [hl]⟩
theorem nodup_of_map {α β : Type} (f : α → β) : ∀ {l : List α}, (l.map f).Nodup → l.Nodup
  | [], _ => List.nodup_nil
  | a :: l, h => by
    rw [List.map_cons, List.nodup_cons] at h
    exact List.nodup_cons.2 ⟨fun ha => h.1 (List.mem_map.2 ⟨a, ha, rfl⟩), nodup_of_map f h.2⟩
theorem Terms.perm {M : K → Option Int} {A B : List (K × Int)} (ha : Terms M A) (hb : Terms M B) : A.Perm B :=
  (List.perm_ext_iff_of_nodup (nodup_of_map _ ha.1) (nodup_of_map _ hb.1)).2 fun ⟨k, c⟩ => by rw [ha.2, hb.2]
theorem Terms.tsum [DecidableEq K] {M : K → Option Int} {T : List (K × Int)} (h : Terms M T) (k : K) : tsum T k = (M k).getD 0 := by
  obtain ⟨hn, hm⟩ := h
  have key : ∀ T : List (K × Int), (T.map (·.1)).Nodup → ((∀ c, (k, c) ∉ T) → Go.Proofs.Ytmdahjmkfipdfaa.tsum T k = 0) ∧ ∀ c, (k, c) ∈ T → Go.Proofs.Ytmdahjmkfipdfaa.tsum T k = c := by
    intro T
    induction T with
    | nil => exact fun _ => ⟨fun _ => rfl, fun c h => by cases h⟩
    | cons p T ih =>
      intro hn
      rw [List.map_cons, List.nodup_cons] at hn
      obtain ⟨i1, i2⟩ := ih hn.2
      refine ⟨fun h => ?_, fun c h => ?_⟩
      · rw [tsum_cons, i1 (fun c hc => h c (List.mem_cons_of_mem _ hc)), if_neg]
        · rfl
        · intro e
          exact h p.2 (by rw [← e]; exact List.mem_cons_self)
      · rw [tsum_cons]
        rcases List.mem_cons.1 h with rfl | h
        · rw [i1 (fun c hc => hn.1 (List.mem_map.2 ⟨_, hc, rfl⟩))]
          simp
        · rw [i2 c h, if_neg]
          · omega
          · intro e
            exact hn.1 (List.mem_map.2 ⟨_, h, e.symm⟩)
  cases hM : M k with
  | none => exact (key T hn).1 (fun c hc => by have := (hm k c).1 hc; rw [hM] at this; cases this)
  | some c => exact (key T hn).2 c ((hm k c).2 hM)
end
/-- The bytes of a product's key. -/
def addK (a b : List UInt8) : List UInt8 := List.zipWith (· + ·) a b
abbrev Tm := List (List UInt8 × Int)
def prodT (A B : Tm) : Tm := A.flatMap fun p => B.map fun q => (addK p.1 q.1, p.2 * q.2)
def scaleT (t : Int) (A : Tm) : Tm := A.map fun p => (p.1, t * p.2)
/-- The sum of the coefficients, each times what f says of its key. -/
def lsum {K : Type} (T : List (K × Int)) (f : K → Int) : Int := (T.map fun p => p.2 * f p.1).sum
theorem lsum_nil {K : Type} (f : K → Int) : lsum [] f = 0 := rfl
theorem lsum_cons {K : Type} (p : K × Int) (T : List (K × Int)) (f : K → Int) : lsum (p :: T) f = p.2 * f p.1 + lsum T f := by simp [lsum]
theorem lsum_append {K : Type} (A B : List (K × Int)) (f : K → Int) : lsum (A ++ B) f = lsum A f + lsum B f := by
  induction A with
  | nil => simp [lsum_nil]
  | cons p A ih => simp only [List.cons_append, lsum_cons, ih]; omega
theorem tsum_lsum {K : Type} [DecidableEq K] (T : List (K × Int)) (k : K) : tsum T k = lsum T (fun x => if x = k then 1 else 0) := by
  induction T with
  | nil => rfl
  | cons p T ih =>
    rw [tsum_cons, lsum_cons, ih]
    by_cases e : p.1 = k <;> simp [e]
/-- The terms at a key, taken out. -/
theorem lsum_split {K : Type} [DecidableEq K] (T : List (K × Int)) (k : K) (f : K → Int) : lsum T f = tsum T k * f k + lsum (T.filter fun p => !decide (p.1 = k)) f := by
  induction T with
  | nil => simp [lsum_nil, tsum_nil]
  | cons p T ih =>
    rw [lsum_cons, tsum_cons, ih]
    by_cases e : p.1 = k
    · rw [if_pos e, List.filter_cons_of_neg (by simp [e]), e, Int.add_mul]; omega
    · rw [if_neg e, Int.zero_add, List.filter_cons_of_pos (by simp [e]), lsum_cons]; omega
theorem tsum_filter {K : Type} [DecidableEq K] (T : List (K × Int)) (k x : K) : tsum (T.filter fun p => !decide (p.1 = k)) x = if x = k then 0 else tsum T x := by
  induction T with
  | nil => simp [tsum_nil]
  | cons p T ih =>
    by_cases e : p.1 = k
    · rw [List.filter_cons_of_neg (by simp [e]), ih, tsum_cons]
      by_cases h : x = k
      · rw [if_pos h, if_pos h]
      · rw [if_neg h, if_neg h, if_neg (fun h' => h (h'.symm.trans e))]; omega
    · rw [List.filter_cons_of_pos (by simp [e]), tsum_cons, tsum_cons, ih]
      by_cases h : x = k
      · subst h; rw [if_pos rfl, if_pos rfl, if_neg e]; rfl
      · rw [if_neg h, if_neg h]
theorem lsum_zero {K : Type} [DecidableEq K] (m : Int) (f : K → Int) : ∀ (n : Nat) (T : List (K × Int)), T.length ≤ n → (∀ k, tsum T k % m = 0) → lsum T f % m = 0
  | _, [], _, _ => by simp [lsum_nil]
  | 0, _ :: _, h, _ => by simp at h
  | n + 1, p :: T, h, hz => by
    rw [lsum_split _ p.1]
    have h1 := lsum_zero m f n ((p :: T).filter fun q => !decide (q.1 = p.1)) (by
      have := List.length_filter_le (fun q => !decide (q.1 = p.1)) T
      rw [List.filter_cons_of_neg (by simp)]
      simp at h
      omega) (fun k => by
        rw [tsum_filter]
        by_cases e : k = p.1
        · rw [if_pos e]; rfl
        · rw [if_neg e]; exact hz k)
    have h2 := hz p.1
    rw [Int.add_emod, h1, Int.mul_emod, h2]
    simp
theorem lsum_scale {K : Type} (t : Int) (T : List (K × Int)) (f : K → Int) : lsum (T.map fun p => (p.1, t * p.2)) f = t * lsum T f := by
  induction T with
  | nil => simp [lsum_nil]
  | cons p T ih => rw [List.map_cons, lsum_cons, lsum_cons, ih, Int.mul_add, Int.mul_assoc]
theorem tsum_scale {K : Type} [DecidableEq K] (t : Int) (T : List (K × Int)) (k : K) : tsum (T.map fun p => (p.1, t * p.2)) k = t * tsum T k := by
  rw [tsum_lsum, tsum_lsum, lsum_scale]
/-- What two sums of terms that say the same of each key come to. -/
theorem lsum_congr {K : Type} [DecidableEq K] {m : Int} {A B : List (K × Int)} (h : ∀ k, tsum A k % m = tsum B k % m) (f : K → Int) : lsum A f % m = lsum B f % m := by
  have hz : lsum (A ++ B.map fun p => (p.1, (-1) * p.2)) f % m = 0 := lsum_zero m f _ _ (Nat.le_refl _) (fun k => by
    rw [tsum_append, tsum_scale]
    have := h k
    rw [show tsum A k + -1 * tsum B k = tsum A k - tsum B k by omega]
    exact Int.emod_eq_emod_iff_emod_sub_eq_zero.1 this)
  rw [lsum_append, lsum_scale, show lsum A f + -1 * lsum B f = lsum A f - lsum B f by omega] at hz
  exact Int.emod_eq_emod_iff_emod_sub_eq_zero.2 hz
theorem lsum_mapK {K L : Type} (g : K → L) (c : Int) (T : List (K × Int)) (f : L → Int) : lsum (T.map fun q => (g q.1, c * q.2)) f = c * lsum T (fun k => f (g k)) := by
  induction T with
  | nil => simp [lsum_nil]
  | cons p T ih => rw [List.map_cons, lsum_cons, lsum_cons, ih, Int.mul_add, Int.mul_assoc]
theorem lsum_prodT (A B : Tm) (f : List UInt8 → Int) : lsum (prodT A B) f = lsum A (fun a => lsum B (fun b => f (addK a b))) := by
  induction A with
  | nil => rfl
  | cons p A ih =>
    have : prodT (p :: A) B = (B.map fun q => (addK p.1 q.1, p.2 * q.2)) ++ prodT A B := by simp [prodT]
    rw [this, lsum_append, ih, lsum_cons, lsum_mapK (addK p.1) p.2 B f]
theorem lsum_congr_f {K : Type} {m : Int} (A : List (K × Int)) {f g : K → Int} (h : ∀ k, f k % m = g k % m) : lsum A f % m = lsum A g % m := by
  induction A with
  | nil => rfl
  | cons p A ih => rw [lsum_cons, lsum_cons, Int.add_emod, ih, Int.mul_emod, h, ← Int.mul_emod, ← Int.add_emod]
theorem prodT_congr {m : Int} {A A' B B' : Tm} (ha : ∀ k, tsum A k % m = tsum A' k % m) (hb : ∀ k, tsum B k % m = tsum B' k % m) (k : List UInt8) : tsum (prodT A B) k % m = tsum (prodT A' B') k % m := by
  rw [tsum_lsum, tsum_lsum, lsum_prodT, lsum_prodT, lsum_congr ha]
  exact lsum_congr_f A' (fun a => lsum_congr hb _)
end Go.Proofs.Ytmdahjmkfipdfaa
namespace Go.Proofs.Ytmdahjmkfipdfaa
set_option linter.unusedVariables false
set_option linter.unusedSimpArgs false
def zeroK (v : Nat) : List UInt8 := List.replicate v 0
def unitK (v n : Nat) : List UInt8 := (List.replicate v 0).set n 1
/-- What normalize makes of the terms of the operands. -/
def opTerms (v : Nat) (op : Int) (L : List Tm) : Option Tm :=
  let a := L.getD 0 []; let b := L.getD 1 []
  if op = 4 then some (a ++ b) else if op = 5 then some (a ++ scaleT 18446744073709551615 b) else if op = 6 then some (prodT a b)
  else if op = 20 then some (scaleT 18446744073709551615 a) else if op = 21 then some ((zeroK v, 18446744073709551615) :: scaleT 18446744073709551615 a) else none
mutual
def pterms (v : Nat) : Pat → Option Tm
  | ⟨var, op, imm, _, ks⟩ =>
    if var > 0 then some [(unitK v (var - 1).toNat, 1)]
    else if op = 1 then some [(zeroK v, imm)]
    else if op = 12 then shlTerms v ks
    else (ptermss v ks).bind (opTerms v op)
def shlTerms (v : Nat) : List Pat → Option Tm
  | a :: b :: _ => if b.op = 1 then (pterms v a).map (scaleT (2 ^ (b.imm % 64).toNat)) else none
  | _ => none
def ptermss (v : Nat) : List Pat → Option (List Tm)
  | [] => some []
  | k :: ks => (pterms v k).bind fun t => (ptermss v ks).map (t :: ·)
end
mutual
/-- Variables in range and the right number of operands. -/
def shape (v : Nat) : Pat → Prop
  | ⟨var, op, _, _, ks⟩ => if var ≠ 0 then 1 ≤ var ∧ var ≤ v else (∃ kids s, opSorts op = some (kids, s) ∧ ks.length = kids.length) ∧ shapes v ks
def shapes (v : Nat) : List Pat → Prop
  | [] => True
  | k :: ks => shape v k ∧ shapes v ks
end
theorem shapes_get {v : Nat} : ∀ {ks : List Pat} {i : Nat} {q : Pat}, shapes v ks → ks[i]? = some q → shape v q
  | [], _, _, _, h => by simp at h
  | k :: ks, 0, q, hs, h => by simp at h; subst h; rw [shapes] at hs; exact hs.1
  | k :: ks, i + 1, q, hs, h => by rw [shapes] at hs; exact shapes_get hs.2 (by simpa using h)
theorem valids_shape (imms : Int) : ∀ (ks : List Pat) (s vars : List Int), (∀ k ∈ ks, ∀ (sort : Int) (vars : List Int), (valid imms k sort vars).1 = true → shape vars.length k) → (valids imms ks s vars).1 = true → shapes vars.length ks
  | [], _, _, _, _ => by rw [shapes]; trivial
  | k :: ks, s, vars, h, hv => by
    rw [valids] at hv
    by_cases e : (valid imms k (s.headD 0) vars).1 = true
    · rw [if_pos e] at hv
      rw [shapes]
      refine ⟨h k (by simp) _ _ e, ?_⟩
      have := valids_shape imms ks _ _ (fun q hq => h q (by simp [hq])) hv
      rwa [valid_len] at this
    · rw [if_neg e] at hv
      cases hv
theorem valid_shape (imms : Int) : ∀ (p : Pat) (sort : Int) (vars : List Int), (valid imms p sort vars).1 = true → shape vars.length p := by
  refine Pat.ind ?_
  rintro ⟨v, o, i, iv, ks⟩ ih sort vars h
  rw [shape]
  by_cases h0 : v ≠ 0
  · rw [if_pos h0]
    rw [valid, if_pos h0] at h
    by_cases h1 : v < 1 ∨ v > vars.length ∨ o ≠ 0 ∨ i ≠ 0 ∨ iv ≠ 0 ∨ ks.length > 0
    · rw [if_pos h1] at h; cases h
    · omega
  · rw [if_neg h0]
    have h0' : v = 0 := Classical.not_not.1 h0
    subst h0'
    rcases hos : opSorts o with _ | ⟨kids, own⟩
    · rw [valid_none hos] at h; cases h
    · rw [valid_some hos] at h
      by_cases h1 : ks.length ≠ kids.length ∨ (sort ≠ 0 ∧ sort ≠ own) ∨ validImm ⟨0, o, i, iv, ks⟩ imms = false
      · rw [if_pos h1] at h; cases h
      · rw [if_neg h1] at h
        exact ⟨⟨kids, own, rfl, Classical.byContradiction fun e => h1 (Or.inl e)⟩, valids_shape imms ks kids vars ih h⟩
theorem sizes_nonneg : ∀ ks : List Pat, (∀ k ∈ ks, 1 ≤ k.size) → 0 ≤ Pat.sizes ks
  | [], _ => by simp [Pat.sizes]
  | k :: ks, h => by rw [Pat.sizes]; have h1 := h k (by simp); have h2 := sizes_nonneg ks (fun q hq => h q (by simp [hq])); omega
theorem size_pos : ∀ p : Pat, 1 ≤ p.size := by
  refine Pat.ind ?_
  intro p ih
  rw [Pat.size_eq]
  have := sizes_nonneg p.kids ih
  omega
theorem size_kid {p : Pat} {i : Nat} {q : Pat} (h : p.kids[i]? = some q) : q.size + 1 ≤ p.size := by
  rw [Pat.size_eq p]
  have h1 := sizes_take_succ h
  have h2 := sizes_append (p.kids.take (i + 1)) (p.kids.drop (i + 1))
  rw [List.take_append_drop] at h2
  have h3 := sizes_nonneg (p.kids.take i) (fun k _ => size_pos k)
  have h4 := sizes_nonneg (p.kids.drop (i + 1)) (fun k _ => size_pos k)
  omega
end Go.Proofs.Ytmdahjmkfipdfaa
