/- When two patterns have the same normal form. Plain Lean. -/
import Derived.Test.YtmdahjmkfipdfaaPoly2
import Derived.Test.YtmdahjmkfipdfaaGen0
namespace Go.Proofs.Ytmdahjmkfipdfaa
set_option linter.unusedVariables false
set_option linter.unusedSimpArgs false
theorem normOut_congr {T U : Tm} (h : ∀ k, tsum T k % 18446744073709551616 = tsum U k % 18446744073709551616) : normOut T = normOut U := by
  have hp : (nzKeys T).Perm (nzKeys U) := (List.perm_ext_iff_of_nodup (nzKeys_nodup T) (nzKeys_nodup U)).2 fun k => by rw [mem_nzKeys, mem_nzKeys, h]
  unfold normOut
  rw [mergeSort_of_perm hp]
  congr 1
  funext k
  simp [monoAt, h]
theorem normOut_lsum {T U : Tm} (h : ∀ f : List UInt8 → Int, lsum T f % 18446744073709551616 = lsum U f % 18446744073709551616) : normOut T = normOut U :=
  normOut_congr fun k => by rw [tsum_lsum, tsum_lsum, h]
def KeyLen (v : Nat) (T : Tm) : Prop := ∀ q ∈ T, q.1.length = v
theorem addK_len {v : Nat} {a b : List UInt8} (ha : a.length = v) (hb : b.length = v) : (addK a b).length = v := by simp [addK, ha, hb]
theorem KeyLen.prodT {v : Nat} {T U : Tm} (hT : KeyLen v T) (hU : KeyLen v U) : KeyLen v (prodT T U) := by
  intro q hq
  simp only [Go.Proofs.Ytmdahjmkfipdfaa.prodT, List.mem_flatMap, List.mem_map] at hq
  obtain ⟨a, ha, b, hb, rfl⟩ := hq
  exact addK_len (hT a ha) (hU b hb)
theorem KeyLen.scaleT {v : Nat} {T : Tm} (t : Int) (hT : KeyLen v T) : KeyLen v (scaleT t T) := by
  intro q hq
  simp only [Go.Proofs.Ytmdahjmkfipdfaa.scaleT, List.mem_map] at hq
  obtain ⟨a, ha, rfl⟩ := hq
  exact hT a ha
theorem KeyLen.append {v : Nat} {T U : Tm} (hT : KeyLen v T) (hU : KeyLen v U) : KeyLen v (T ++ U) := fun q hq => (List.mem_append.1 hq).elim (hT q) (hU q)
theorem KeyLen.one (v : Nat) (c : Int) : KeyLen v [(zeroK v, c)] := fun q hq => by simp at hq; subst hq; simp [zeroK]
theorem KeyLen.getD {v : Nat} {L : List Tm} (h : ∀ T ∈ L, KeyLen v T) (i : Nat) : KeyLen v (L.getD i []) := by
  rw [List.getD_eq_getElem?_getD]
  cases e : L[i]? with
  | none => exact fun q hq => by cases hq
  | some T => exact h T (List.mem_of_getElem? e)
theorem opTerms_len {v : Nat} {op : Int} {L : List Tm} {T : Tm} (h : ∀ T ∈ L, KeyLen v T) (hT : opTerms v op L = some T) : KeyLen v T := by
  have h0 := KeyLen.getD h 0
  have h1 := KeyLen.getD h 1
  unfold opTerms at hT
  simp only at hT
  repeat' split at hT
  all_goals first
    | cases hT; exact h0.append h1
    | cases hT; exact h0.append (h1.scaleT _)
    | cases hT; exact h0.prodT h1
    | cases hT; exact h0.scaleT _
    | (cases hT; exact (KeyLen.one v _).append (h0.scaleT _))
    | cases hT
theorem ptermss_len {v : Nat} : ∀ {ks : List Pat} {L : List Tm}, (∀ p ∈ ks, ∀ T, pterms v p = some T → KeyLen v T) → ptermss v ks = some L → ∀ T ∈ L, KeyLen v T
  | [], L, _, h => by rw [ptermss] at h; cases h; simp
  | p :: ks, L, ih, h => by
    rw [ptermss] at h
    obtain ⟨T, hT, h⟩ := Option.bind_eq_some_iff.1 h
    obtain ⟨L', hL, rfl⟩ := Option.map_eq_some_iff.1 h
    intro U hU
    rcases List.mem_cons.1 hU with rfl | hU
    · exact ih p (by simp) _ hT
    · exact ptermss_len (fun q hq => ih q (by simp [hq])) hL U hU
theorem pterms_len (v : Nat) : ∀ (p : Pat) (T : Tm), pterms v p = some T → KeyLen v T := by
  refine Pat.ind ?_
  rintro ⟨var, op, imm, iv, ks⟩ ih T h
  rw [pterms] at h
  split at h
  · cases h
    intro q hq
    simp at hq
    subst hq
    simp [unitK]
  · split at h
    · cases h
      exact KeyLen.one v imm
    · split at h
      · match ks, ih, h with
        | [], _, h => simp [shlTerms] at h
        | [_], _, h => simp [shlTerms] at h
        | a :: b :: r, ih, h =>
          rw [shlTerms] at h
          split at h
          · obtain ⟨U, hU, rfl⟩ := Option.map_eq_some_iff.1 h
            exact (ih a (by simp) U hU).scaleT _
          · cases h
      · obtain ⟨L, hL, h⟩ := Option.bind_eq_some_iff.1 h
        exact opTerms_len (ptermss_len ih hL) h
theorem addK_zero {v : Nat} {a : List UInt8} (h : a.length = v) : addK a (zeroK v) = a := by
  apply List.ext_getElem
  · simp [addK, zeroK, h]
  · intro i h1 h2
    simp [addK, zeroK]
theorem lsum_mem_congr {T : Tm} {f g : List UInt8 → Int} (h : ∀ q ∈ T, f q.1 = g q.1) : lsum T f = lsum T g := by
  induction T with
  | nil => rfl
  | cons p T ih => rw [lsum_cons, lsum_cons, h p (by simp), ih (fun q hq => h q (by simp [hq]))]
theorem lsum_one (k : List UInt8) (c : Int) (f : List UInt8 → Int) : lsum [(k, c)] f = c * f k := by rw [lsum_cons, lsum_nil]; simp
theorem lsum_fun_scale (T : Tm) (c : Int) (f : List UInt8 → Int) : lsum T (fun a => c * f a) = c * lsum T f := by
  induction T with
  | nil => simp [lsum_nil]
  | cons p T ih => rw [lsum_cons, lsum_cons, ih, Int.mul_add, Int.mul_left_comm]
theorem lsum_scaleT (t : Int) (T : Tm) (f : List UInt8 → Int) : lsum (scaleT t T) f = t * lsum T f := lsum_scale t T f
theorem lsum_prod_const {v : Nat} {T : Tm} (hT : KeyLen v T) (c : Int) (f : List UInt8 → Int) : lsum (prodT T [(zeroK v, c)]) f = c * lsum T f := by
  rw [lsum_prodT, ← lsum_fun_scale]
  refine lsum_mem_congr fun q hq => ?_
  rw [lsum_one, addK_zero (hT q hq)]
/-- A shift by a constant, and the multiplication. -/
theorem shift_norm (p : Pat) (n c vars : Int) (hn : 0 ≤ n ∧ n < 64) (hc : c % 18446744073709551616 = 2 ^ n.toNat % 18446744073709551616) :
    polyNorm ⟨0, 12, 0, 0, [p, ⟨0, 1, n, 0, []⟩]⟩ vars = polyNorm ⟨0, 6, 0, 0, [p, ⟨0, 1, c, 0, []⟩]⟩ vars := by
  have hv : patValid ⟨0, 12, 0, 0, [p, ⟨0, 1, n, 0, []⟩]⟩ vars 0 = patValid ⟨0, 6, 0, 0, [p, ⟨0, 1, c, 0, []⟩]⟩ vars 0 := by
    simp [patValid, Pat.size, Pat.sizes, valid, valids, opSorts, validImm]
  unfold polyNorm
  rw [hv]
  split
  · have e1 : pterms vars.toNat ⟨0, 12, 0, 0, [p, ⟨0, 1, n, 0, []⟩]⟩ = (pterms vars.toNat p).map (scaleT (2 ^ n.toNat)) := by
      rw [pterms, if_neg (by omega), if_neg (by omega), if_pos rfl, shlTerms, if_pos rfl, show n % 64 = n by omega]
    have e2 : pterms vars.toNat ⟨0, 6, 0, 0, [p, ⟨0, 1, c, 0, []⟩]⟩ = (pterms vars.toNat p).map (fun T => prodT T [(zeroK vars.toNat, c)]) := by
      rw [pterms, if_neg (by omega), if_neg (by omega), if_neg (by omega), ptermss, ptermss, ptermss, pterms, if_neg (by omega), if_pos rfl]
      cases pterms vars.toNat p <;> simp [opTerms]
    rw [e1, e2]
    cases hp : pterms vars.toNat p with
    | none => rfl
    | some T =>
      simp only [Option.map_some, Option.some.injEq]
      refine normOut_lsum fun f => ?_
      rw [lsum_scaleT, lsum_prod_const (pterms_len _ p T hp), Int.mul_emod, ← hc, ← Int.mul_emod]
  · rfl
end Go.Proofs.Ytmdahjmkfipdfaa
