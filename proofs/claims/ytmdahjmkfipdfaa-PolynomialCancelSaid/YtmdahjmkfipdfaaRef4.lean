/- The reference's normal form is the normal form. Plain Lean. -/
import Derived.Test.YtmdahjmkfipdfaaRef3
import Derived.Test.YtmdahjmkfipdfaaPoly5
namespace Go.Proofs.Ytmdahjmkfipdfaa
set_option linter.unusedVariables false
set_option linter.unusedSimpArgs false
theorem modwrap (x : Int) : IntKind.u64.wrap x = x % 18446744073709551616 := wrapU64 x
theorem mulM_ok {v : Nat} (t : Int) {m : Mono} (h : m.exps.length = v) : (mulM t m).exps.length = v ∧ 0 ≤ (mulM t m).coef ∧ (mulM t m).coef < 18446744073709551616 := by
  refine ⟨h, ?_, ?_⟩
  · simp only [mulM]; rw [modwrap]; omega
  · simp only [mulM]; rw [modwrap]; omega
theorem addMul_sorted {v : Nat} (t : Int) : ∀ {b a : List Mono}, Sorted v a → (∀ m ∈ b, m.exps.length = v) → Sorted v (addMul t a b)
  | [], a, ha, _ => ha
  | m :: b, a, ha, hb => by
    have := addMul_sorted t (b := b) (addT_sorted (mulM_ok t (hb m (by simp))) ha) (fun x hx => hb x (by simp [hx]))
    simpa [addMul] using this
theorem addMul_tsum {v : Nat} (t : Int) (k : List Int) : ∀ {b a : List Mono}, (∀ m ∈ a, m.exps.length = v) → (∀ m ∈ b, m.exps.length = v) →
    tsum (tms (addMul t a b)) k % 18446744073709551616 = (tsum (tms a) k + t * tsum (tms b) k) % 18446744073709551616
  | [], a, ha, _ => by simp [addMul, tms, tsum_nil]
  | m :: b, a, ha, hb => by
    have h1 : ∀ x ∈ addT (mulM t m) a, x.exps.length = v := fun x hx => (mem_addT hx).elim (fun e => by rw [e]; exact hb m (by simp)) (ha x)
    have h2 := addMul_tsum t k (b := b) h1 (fun x hx => hb x (by simp [hx]))
    have h3 := addT_tsum (m := mulM t m) (v := v) (hb m (by simp)) k ha
    have e : addMul t a (m :: b) = addMul t (addT (mulM t m) a) b := by simp [addMul]
    have h4 : (mulM t m).coef = (m.coef * t) % 18446744073709551616 := by simp only [mulM]; rw [modwrap]
    rw [e, h2, tms_cons, tsum_cons, Int.mul_add]
    simp only [mulM] at h3 h4 ⊢
    rw [Int.add_emod, h3, ← Int.add_emod]
    by_cases hk : m.exps = k
    · simp only [hk, if_true, h4, Int.mul_comm t m.coef]
      omega
    · simp only [hk, if_false]
      simp
/-- The product, monomial by monomial. -/
def mulMM (x y : Mono) : Mono := ⟨List.zipWith (· + ·) x.exps y.exps, IntKind.u64.wrap (x.coef * y.coef)⟩
def prodRow (x : Mono) (b acc : List Mono) : List Mono := b.foldl (fun acc y => addT (mulMM x y) acc) acc
def prodL (a b : List Mono) : List Mono := a.foldl (fun acc x => prodRow x b acc) []
def gprod (A B : List (List Int × Int)) : List (List Int × Int) := A.flatMap fun p => B.map fun q => (List.zipWith (· + ·) p.1 q.1, p.2 * q.2)
theorem lsum_gprod (A B : List (List Int × Int)) (f : List Int → Int) : lsum (gprod A B) f = lsum A (fun a => lsum B (fun b => f (List.zipWith (· + ·) a b))) := by
  induction A with
  | nil => rfl
  | cons p A ih =>
    have : gprod (p :: A) B = (B.map fun q => (List.zipWith (· + ·) p.1 q.1, p.2 * q.2)) ++ gprod A B := by simp [gprod]
    rw [this, lsum_append, ih, lsum_cons, lsum_mapK (List.zipWith (· + ·) p.1) p.2 B f]
theorem gprod_congr {m : Int} {A A' B B' : List (List Int × Int)} (ha : ∀ k, tsum A k % m = tsum A' k % m) (hb : ∀ k, tsum B k % m = tsum B' k % m) (k : List Int) : tsum (gprod A B) k % m = tsum (gprod A' B') k % m := by
  rw [tsum_lsum, tsum_lsum, lsum_gprod, lsum_gprod, lsum_congr ha]
  exact lsum_congr_f A' (fun a => lsum_congr hb _)
theorem mulMM_len {v : Nat} {x y : Mono} (hx : x.exps.length = v) (hy : y.exps.length = v) : (mulMM x y).exps.length = v := by simp [mulMM, hx, hy]
theorem mulMM_ok {v : Nat} {x y : Mono} (hx : x.exps.length = v) (hy : y.exps.length = v) : (mulMM x y).exps.length = v ∧ 0 ≤ (mulMM x y).coef ∧ (mulMM x y).coef < 18446744073709551616 := by
  refine ⟨mulMM_len hx hy, ?_, ?_⟩
  · simp only [mulMM]; rw [modwrap]; omega
  · simp only [mulMM]; rw [modwrap]; omega
theorem prodRow_sorted {v : Nat} {x : Mono} (hx : x.exps.length = v) : ∀ {b acc : List Mono}, Sorted v acc → (∀ m ∈ b, m.exps.length = v) → Sorted v (prodRow x b acc)
  | [], acc, ha, _ => ha
  | m :: b, acc, ha, hb => by
    have := prodRow_sorted hx (b := b) (addT_sorted (mulMM_ok hx (hb m (by simp))) ha) (fun y hy => hb y (by simp [hy]))
    simpa [prodRow] using this
theorem prodRow_len {v : Nat} {x : Mono} (hx : x.exps.length = v) : ∀ {b acc : List Mono}, (∀ m ∈ acc, m.exps.length = v) → (∀ m ∈ b, m.exps.length = v) → ∀ m ∈ prodRow x b acc, m.exps.length = v
  | [], acc, ha, _ => ha
  | y :: b, acc, ha, hb => by
    have := prodRow_len hx (b := b) (acc := addT (mulMM x y) acc) (fun z hz => (mem_addT hz).elim (fun e => by rw [e]; exact mulMM_len hx (hb y (by simp))) (ha z)) (fun y hy => hb y (by simp [hy]))
    simpa [prodRow] using this
theorem prodRow_length {x : Mono} : ∀ (b acc : List Mono), (prodRow x b acc).length ≤ acc.length + b.length
  | [], acc => by simp [prodRow]
  | y :: b, acc => by
    have h1 := prodRow_length (x := x) b (addT (mulMM x y) acc)
    have h2 := addT_length (mulMM x y) acc
    simp only [prodRow, List.foldl_cons, List.length_cons] at h1 ⊢
    omega
theorem prodRow_tsum {v : Nat} {x : Mono} (hx : x.exps.length = v) (k : List Int) : ∀ {b acc : List Mono}, (∀ m ∈ acc, m.exps.length = v) → (∀ m ∈ b, m.exps.length = v) →
    tsum (tms (prodRow x b acc)) k % 18446744073709551616 = (tsum (tms acc) k + tsum ((tms b).map fun q => (List.zipWith (· + ·) x.exps q.1, x.coef * q.2)) k) % 18446744073709551616
  | [], acc, ha, _ => by simp [prodRow, tms, tsum_nil]
  | y :: b, acc, ha, hb => by
    have h1 : ∀ z ∈ addT (mulMM x y) acc, z.exps.length = v := fun z hz => (mem_addT hz).elim (fun e => by rw [e]; exact mulMM_len hx (hb y (by simp))) (ha z)
    have h2 := prodRow_tsum hx k (b := b) h1 (fun z hz => hb z (by simp [hz]))
    have h3 := addT_tsum (m := mulMM x y) (mulMM_len hx (hb y (by simp))) k ha
    have e : prodRow x (y :: b) acc = prodRow x b (addT (mulMM x y) acc) := by simp [prodRow]
    have h4 : (mulMM x y).coef = (x.coef * y.coef) % 18446744073709551616 := by simp only [mulMM]; rw [modwrap]
    rw [e, h2, tms_cons, List.map_cons, tsum_cons]
    simp only [mulMM] at h3 h4 ⊢
    by_cases hk : List.zipWith (· + ·) x.exps y.exps = k
    · simp only [hk, if_true, h4] at h3 ⊢
      omega
    · simp only [hk, if_false] at h3 ⊢
      omega
theorem prodL_gen {v : Nat} {b : List Mono} (hb : ∀ m ∈ b, m.exps.length = v) : ∀ {a acc : List Mono}, (∀ m ∈ a, m.exps.length = v) → Sorted v acc →
    Sorted v (a.foldl (fun acc x => prodRow x b acc) acc) ∧ ∀ k, tsum (tms (a.foldl (fun acc x => prodRow x b acc) acc)) k % 18446744073709551616 = (tsum (tms acc) k + tsum (gprod (tms a) (tms b)) k) % 18446744073709551616
  | [], acc, _, hs => ⟨hs, fun k => by simp [gprod, tms, tsum_nil]⟩
  | x :: a, acc, ha, hs => by
    have hx := ha x (by simp)
    obtain ⟨h1, h2⟩ := prodL_gen hb (a := a) (acc := prodRow x b acc) (fun y hy => ha y (by simp [hy])) (prodRow_sorted hx hs hb)
    refine ⟨h1, fun k => ?_⟩
    have h3 := prodRow_tsum hx k (fun m hm => (hs.2 m hm).1) hb
    have e : gprod (tms (x :: a)) (tms b) = ((tms b).map fun q => (List.zipWith (· + ·) x.exps q.1, x.coef * q.2)) ++ gprod (tms a) (tms b) := by simp [gprod, tms_cons]
    rw [List.foldl_cons, h2, e, tsum_append]
    omega
theorem prodL_ok {v : Nat} {a b : List Mono} (ha : ∀ m ∈ a, m.exps.length = v) (hb : ∀ m ∈ b, m.exps.length = v) : Sorted v (prodL a b) ∧ ∀ k, tsum (tms (prodL a b)) k % 18446744073709551616 = tsum (gprod (tms a) (tms b)) k % 18446744073709551616 := by
  have := prodL_gen hb ha (acc := []) ⟨by simp, fun m hm => by cases hm⟩
  simpa [tms, tsum_nil, prodL] using this
/-! ### normalize -/
def rop (v : Nat) (op imm : Int) (ks : List Pat) (L : List (List Mono)) : Option (List Mono) :=
  let a := L.getD 0 []; let b := L.getD 1 []
  if op = 1 then some (addT ⟨List.replicate v 0, imm % 18446744073709551616⟩ []) else if op = 4 then some (addMul 1 a b) else if op = 5 then some (addMul 18446744073709551615 a b)
  else if op = 20 then some (addMul 18446744073709551615 [] a) else if op = 21 then some (addMul 18446744073709551615 (addT ⟨List.replicate v 0, 18446744073709551615⟩ []) a)
  else if op = 6 then some (prodL a b) else if op = 12 then (if (ks.getD 1 zPat).op = 1 then some (addMul (2 ^ ((ks.getD 1 zPat).imm % 64).toNat) [] a) else none) else none
mutual
def rnorm (v : Nat) : Pat → Option (List Mono)
  | ⟨var, op, imm, _, ks⟩ => if var > 0 then some [⟨(List.replicate v 0).set (var - 1).toNat 1, 1⟩] else (rnorms v ks).bind (rop v op imm ks)
def rnorms (v : Nat) : List Pat → Option (List (List Mono))
  | [] => some []
  | k :: ks => (rnorm v k).bind fun t => (rnorms v ks).map (t :: ·)
end
def eT (T : Tm) : List (List Int × Int) := T.map fun q => (expsOf q.1, q.2)
theorem eT_append (A B : Tm) : eT (A ++ B) = eT A ++ eT B := by simp [eT]
theorem eT_scale (t : Int) (A : Tm) : eT (scaleT t A) = (eT A).map fun p => (p.1, t * p.2) := by simp [eT, scaleT]
theorem expsOf_add {m n : Nat} (hmn : m + n < 256) : ∀ a b : List UInt8, (∀ e ∈ a, e.toNat ≤ m) → (∀ e ∈ b, e.toNat ≤ n) → expsOf (addK a b) = List.zipWith (· + ·) (expsOf a) (expsOf b)
  | [], _, _, _ => by simp [expsOf, addK]
  | _ :: _, [], _, _ => by simp [expsOf, addK]
  | x :: a, y :: b, h1, h2 => by
    have ih := expsOf_add hmn a b (fun e he => h1 e (by simp [he])) (fun e he => h2 e (by simp [he]))
    have e1 := h1 x (by simp)
    have e2 := h2 y (by simp)
    have e3 : (x + y).toNat = x.toNat + y.toNat := by rw [UInt8.toNat_add]; omega
    simp only [expsOf, addK] at ih
    simp only [expsOf, addK, List.zipWith_cons_cons, List.map_cons, ih, e3]
    simp
theorem eT_prod {m n : Nat} (hmn : m + n < 256) {A B : Tm} (hA : ∀ q ∈ A, ∀ e ∈ q.1, e.toNat ≤ m) (hB : ∀ q ∈ B, ∀ e ∈ q.1, e.toNat ≤ n) : eT (prodT A B) = gprod (eT A) (eT B) := by
  induction A with
  | nil => rfl
  | cons p A ih =>
    have e1 : prodT (p :: A) B = (B.map fun q => (addK p.1 q.1, p.2 * q.2)) ++ prodT A B := by simp [prodT]
    have e2 : gprod (eT (p :: A)) (eT B) = ((eT B).map fun q => (List.zipWith (· + ·) (expsOf p.1) q.1, p.2 * q.2)) ++ gprod (eT A) (eT B) := by simp [gprod, eT]
    rw [e1, eT_append, e2, ih fun q hq => hA q (by simp [hq])]
    congr 1
    simp only [eT, List.map_map]
    refine List.map_congr_left fun q hq => ?_
    simp only [Function.comp]
    rw [expsOf_add hmn p.1 q.1 (hA p (by simp)) (hB q hq)]
theorem tsum_eT (T : Tm) (k : List UInt8) : tsum (eT T) (expsOf k) = tsum T k := by
  induction T with
  | nil => rfl
  | cons p T ih =>
    have e : eT (p :: T) = (expsOf p.1, p.2) :: eT T := rfl
    rw [e, tsum_cons, tsum_cons, ih]
    by_cases h : p.1 = k
    · rw [if_pos h, if_pos (by rw [h])]
    · rw [if_neg h, if_neg (fun e => h (expsOf_inj e))]
theorem expsOf_replicate (v : Nat) : expsOf (zeroK v) = List.replicate v 0 := by simp [expsOf, zeroK]
theorem expsOf_unit (v n : Nat) : expsOf (unitK v n) = (List.replicate v 0).set n 1 := by simp [expsOf, unitK, List.map_set]
/-! ### a normal form is in order -/
theorem lt_lessL : ∀ {a b : List UInt8}, a.length = b.length → a < b → lessL (expsOf a) (expsOf b) = true
  | [], [], _, h => absurd h (List.lt_irrefl _)
  | [], _ :: _, h, _ => by simp at h
  | _ :: _, [], h, _ => by simp at h
  | x :: a, y :: b, hl, h => by
    simp only [expsOf, List.map_cons, lessL]
    rcases List.cons_lt_cons_iff.1 h with h2 | ⟨rfl, h2⟩
    · have h1 : x.toNat < y.toNat := UInt8.lt_iff_toNat_lt.1 h2
      rw [if_neg (by omega), decide_eq_true (by omega)]
    · rw [if_pos rfl]
      exact lt_lessL (by simpa using hl) h2
theorem normOut_sorted {v : Nat} {T : Tm} (hT : KeyLen v T) : Sorted v (normOut T) := by
  have tr : ∀ a b c : List UInt8, leB a b = true → leB b c = true → leB a c = true := fun a b c h1 h2 => by simp only [leB, decide_eq_true_eq] at *; exact List.le_trans h1 h2
  have tot : ∀ a b : List UInt8, (leB a b || leB b a) = true := fun a b => by simp only [leB, Bool.or_eq_true, decide_eq_true_eq]; exact List.le_total a b
  have hlen : ∀ k ∈ (nzKeys T).mergeSort leB, k.length = v := fun k hk => by
    have h1 := (mem_nzKeys T k).1 ((List.mergeSort_perm (nzKeys T) leB).mem_iff.1 hk)
    obtain ⟨q, hq, rfl⟩ := List.mem_map.1 (tsum_ne_zero h1)
    exact hT q hq
  refine ⟨?_, fun m hm => ?_⟩
  · unfold normOut
    rw [List.pairwise_map]
    have h1 := List.pairwise_mergeSort tr tot (nzKeys T)
    have h2 : ((nzKeys T).mergeSort leB).Pairwise (· ≠ ·) := (List.mergeSort_perm _ _).nodup_iff.2 (nzKeys_nodup T)
    refine ((h1.and h2).imp_of_mem (S := fun a b => lessL (monoAt T a).exps (monoAt T b).exps = true)) fun {a b} ha hb hab => ?_
    simp only [leB, decide_eq_true_eq] at hab
    exact lt_lessL (by rw [hlen a ha, hlen b hb]) (Classical.byContradiction fun h => hab.2 (List.le_antisymm hab.1 (List.not_lt.1 h)))
  · unfold normOut at hm
    obtain ⟨k, hk, rfl⟩ := List.mem_map.1 hm
    have h1 := (mem_nzKeys T k).1 ((List.mergeSort_perm (nzKeys T) leB).mem_iff.1 hk)
    refine ⟨by simp [monoAt, expsOf, hlen k hk], ?_, ?_⟩
    · simp only [monoAt]; omega
    · simp only [monoAt]; omega
theorem norm_tsum (T : Tm) (k : List Int) : tsum (tms (normOut T)) k % 18446744073709551616 = tsum (eT T) k % 18446744073709551616 := by
  have h1 : tms (normOut T) = (normU T).map fun q => (expsOf q.1, 1 * q.2) := by
    unfold tms normOut normU
    rw [List.map_map, List.map_map]
    refine List.map_congr_left fun k _ => ?_
    simp [monoAt]
  have h2 : eT T = T.map fun q => (expsOf q.1, 1 * q.2) := by
    unfold eT
    refine List.map_congr_left fun k _ => ?_
    simp
  rw [h1, h2, tsum_lsum, tsum_lsum, lsum_mapK, lsum_mapK, Int.one_mul, Int.one_mul]
  exact lsum_congr (normU_tsum T) _
theorem norm_uniq {v : Nat} {l : List Mono} {T : Tm} (hs : Sorted v l) (hT : KeyLen v T) (h : ∀ k, tsum (tms l) k % 18446744073709551616 = tsum (eT T) k % 18446744073709551616) : l = normOut T :=
  Sorted.uniq hs (normOut_sorted hT) fun k => by rw [h, norm_tsum]
theorem sorted_nil (v : Nat) : Sorted v [] := ⟨by simp, fun m hm => by cases hm⟩
theorem addMul_norm {v : Nat} {a : List Mono} {T U : Tm} (t : Int) (ha : Sorted v a) (hTa : KeyLen v T) (hU : KeyLen v U) (h : ∀ k, tsum (tms a) k % 18446744073709551616 = tsum (eT T) k % 18446744073709551616) : addMul t a (normOut U) = normOut (T ++ scaleT t U) := by
  have hl : ∀ m ∈ normOut U, m.exps.length = v := fun m hm => ((normOut_sorted hU).2 m hm).1
  refine norm_uniq (addMul_sorted t ha hl) (hTa.append (hU.scaleT t)) fun k => ?_
  rw [addMul_tsum t k (fun m hm => (ha.2 m hm).1) hl, eT_append, tsum_append, eT_scale, tsum_scale]
  have h1 := h k
  have h2 := norm_tsum U k
  rw [Int.add_emod, h1, Int.mul_emod, h2, ← Int.mul_emod, ← Int.add_emod]
theorem addT_one_sorted {v : Nat} {n : Int} : Sorted v (addT ⟨List.replicate v 0, n % 18446744073709551616⟩ []) := addT_sorted ⟨by simp, by simp only; omega, by simp only; omega⟩ (sorted_nil v)
theorem addT_one_tsum (v : Nat) (n : Int) (k : List Int) : tsum (tms (addT ⟨List.replicate v 0, n % 18446744073709551616⟩ [])) k % 18446744073709551616 = tsum (eT [(zeroK v, n)]) k % 18446744073709551616 := by
  rw [addT_tsum (v := v) (by simp) k (by simp)]
  simp only [eT, List.map_cons, List.map_nil, tsum_cons, tsum_nil, tms, expsOf_replicate]
  split <;> omega
theorem rnorms_eq {v : Nat} : ∀ {ks : List Pat}, (∀ k ∈ ks, rnorm v k = (pterms v k).map normOut) → rnorms v ks = (ptermss v ks).map (·.map normOut)
  | [], _ => rfl
  | k :: ks, h => by
    rw [rnorms, ptermss, h k (by simp), rnorms_eq (fun q hq => h q (by simp [hq]))]
    cases pterms v k with
    | none => rfl
    | some T => cases ptermss v ks <;> rfl
theorem rnorm_eq (v : Nat) : ∀ p : Pat, shape v p → noImm p → p.size ≤ 200 → rnorm v p = (pterms v p).map normOut := by
  refine Pat.ind ?_
  rintro ⟨var, o, i, iv, ks⟩ ih hs hi hz
  have hval := poly_val (List.replicate v 0) v (by simp) ⟨var, o, i, iv, ks⟩ hs hi hz
  rw [shape] at hs
  rw [noImm] at hi
  obtain ⟨hi1, hi2, hi3⟩ := hi
  subst hi1
  have hsz : (⟨var, o, i, 0, ks⟩ : Pat).size = 1 + Pat.sizes ks := by rw [Pat.size_eq]
  have kin : ∀ k ∈ ks, k.size ≤ 200 := fun k hk => by
    obtain ⟨j, hj, rfl⟩ := List.getElem_of_mem hk
    have := size_kid (p := ⟨var, o, i, 0, ks⟩) (i := j) (List.getElem?_eq_getElem hj)
    omega
  rw [rnorm]
  by_cases h0 : var > 0
  · rw [if_pos h0, pterms, if_pos h0, Option.map_some]
    congr 1
    have hT : KeyLen v [(unitK v (var - 1).toNat, 1)] := fun q hq => by simp at hq; subst hq; simp [unitK]
    refine norm_uniq ⟨by simp, fun m hm => ?_⟩ hT fun k => ?_
    · simp at hm
      subst hm
      simp
    · simp only [eT, List.map_cons, List.map_nil, tms, expsOf_unit]
  · rw [if_neg h0]
    have hvar : var = 0 := by
      by_cases e : var = 0
      · exact e
      · rw [if_pos e] at hs; omega
    subst hvar
    rw [if_neg (by simp)] at hs
    obtain ⟨⟨kids, s, hos, hlen⟩, hss⟩ := hs
    have hks : ∀ k ∈ ks, shape v k ∧ noImm k := by
      have : ∀ ks : List Pat, shapes v ks → noImms ks → ∀ k ∈ ks, shape v k ∧ noImm k := by
        intro ks
        induction ks with
        | nil => intro _ _ k hk; cases hk
        | cons a ks ih2 =>
          intro h1 h2 k hk
          rw [shapes] at h1
          rw [noImms] at h2
          rcases List.mem_cons.1 hk with rfl | hk
          · exact ⟨h1.1, h2.1⟩
          · exact ih2 h1.2 h2.2 k hk
      exact this ks hss hi3
    have hr := rnorms_eq (v := v) (ks := ks) fun k hk => ih k hk (hks k hk).1 (hks k hk).2 (kin k hk)
    have hvs : ∀ k ∈ ks, Val (List.replicate v 0) v k := fun k hk => poly_val _ v (by simp) k (hks k hk).1 (hks k hk).2 (kin k hk)
    have mk2 : kids.length = 2 → ∃ a b, ks = [a, b] := fun h => by
      rw [h] at hlen
      match ks, hlen with
      | [a, b], _ => exact ⟨a, b, rfl⟩
    have mk1 : kids.length = 1 → ∃ a, ks = [a] := fun h => by
      rw [h] at hlen
      match ks, hlen with
      | [a], _ => exact ⟨a, rfl⟩
    rw [hr, pterms, if_neg (by simp)]
    by_cases h1 : o = 1
    · subst h1
      rw [if_pos rfl]
      have hk : kids = [] := by simp [opSorts] at hos; exact hos.1
      subst hk
      obtain rfl : ks = [] := List.length_eq_zero_iff.1 (by simpa using hlen)
      rw [ptermss]
      simp only [Option.map_some, List.map_nil, Option.bind_some, rop]
      rw [if_pos trivial]
      congr 1
      exact norm_uniq addT_one_sorted (KeyLen.one v i) (addT_one_tsum v i)
    rw [if_neg h1]
    by_cases h12 : o = 12
    · subst h12
      rw [if_pos rfl]
      obtain ⟨a, b, rfl⟩ := mk2 (by simp [opSorts] at hos; rw [← hos.1]; rfl)
      rw [ptermss, ptermss, ptermss, shlTerms]
      have hnb := (hks b (by simp)).2
      have hsb := (hks b (by simp)).1
      have hkl := fun T hT => pterms_len v a T hT
      cases hA : pterms v a with
      | none => simp
      | some A =>
        obtain ⟨bv, bo, bi, biv, bks⟩ := b
        by_cases hb : bo = 1
        · subst hb
          rw [noImm] at hnb
          obtain ⟨rfl, hbv, _⟩ := hnb
          obtain rfl : bv = 0 := by omega
          have hbt : pterms v ⟨0, 1, bi, 0, bks⟩ = some [(zeroK v, bi)] := by rw [pterms, if_neg (by simp), if_pos rfl]
          rw [hbt]
          simp only [Option.bind_some, Option.map_some, List.map_cons, List.map_nil, rop, if_true]
          rw [if_neg (by decide), if_neg (by decide), if_neg (by decide), if_neg (by decide), if_neg (by decide), if_neg (by decide)]
          simp only [List.getD_cons_succ, List.getD_cons_zero, if_true]
          congr 1
          have := addMul_norm (v := v) (T := []) (2 ^ (bi % 64).toNat) (sorted_nil v) (fun q hq => by cases hq) (hkl A hA) (fun k => rfl)
          simpa using this
        · rw [if_neg hb]
          simp only [Option.map_none]
          cases pterms v ⟨bv, bo, bi, biv, bks⟩ with
          | none => rfl
          | some B =>
            simp only [Option.bind_some, Option.map_some, List.map_cons, List.map_nil, rop]
            rw [if_neg (by decide), if_neg (by decide), if_neg (by decide), if_neg (by decide), if_neg (by decide), if_neg (by decide), if_pos trivial]
            simp only [List.getD_cons_succ, List.getD_cons_zero]
            rw [if_neg hb]
    rw [if_neg h12]
    cases hL : ptermss v ks with
    | none => rfl
    | some L =>
      simp only [Option.map_some, Option.bind_some]
      have hlens : ∀ T ∈ L, KeyLen v T := ptermss_len (fun p _ T => pterms_len v p T) hL
      have h0 := KeyLen.getD hlens 0
      have h1' := KeyLen.getD hlens 1
      have g : ∀ j, (L.map normOut).getD j [] = normOut (L.getD j []) := fun j => by
        rw [List.getD_eq_getElem?_getD, List.getD_eq_getElem?_getD, List.getElem?_map]
        cases L[j]? with
        | none => simp [normOut, nzKeys]
        | some T => rfl
      simp only [rop, opTerms, g]
      rw [if_neg h1]
      have hscale : ∀ t, addMul t [] (normOut (L.getD 0 [])) = normOut (scaleT t (L.getD 0 [])) := fun t => by
        have := addMul_norm (v := v) (T := []) t (sorted_nil v) (fun q hq => by cases hq) h0 (fun k => rfl)
        simpa using this
      by_cases h4 : o = 4
      · rw [if_pos h4, if_pos h4, Option.map_some]
        congr 1
        have := addMul_norm (v := v) 1 (normOut_sorted h0) h0 h1' (norm_tsum _)
        rw [this]
        congr 2
        simp [scaleT]
      rw [if_neg h4, if_neg h4]
      by_cases h5 : o = 5
      · rw [if_pos h5, if_pos h5, Option.map_some]
        congr 1
        exact addMul_norm (v := v) 18446744073709551615 (normOut_sorted h0) h0 h1' (norm_tsum _)
      rw [if_neg h5, if_neg h5]
      by_cases h20 : o = 20
      · subst h20
        rw [if_pos rfl, if_neg (by decide), if_pos rfl, Option.map_some, hscale]
      rw [if_neg h20]
      by_cases h21 : o = 21
      · subst h21
        rw [if_pos rfl, if_neg (by decide), if_neg (by decide), if_pos rfl, Option.map_some]
        congr 1
        have e : (18446744073709551615 : Int) % 18446744073709551616 = 18446744073709551615 := by decide
        have := addMul_norm (v := v) 18446744073709551615 (addT_one_sorted (v := v) (n := 18446744073709551615)) (KeyLen.one v 18446744073709551615) h0 (addT_one_tsum v 18446744073709551615)
        rw [e] at this
        rw [this]
        rfl
      rw [if_neg h21]
      by_cases h6 : o = 6
      · subst h6
        rw [if_pos rfl, if_pos rfl, Option.map_some]
        congr 1
        obtain ⟨a, b, rfl⟩ := mk2 (by simp [opSorts] at hos; rw [← hos.1]; rfl)
        rw [ptermss, ptermss, ptermss] at hL
        obtain ⟨A, hA, hL⟩ := Option.bind_eq_some_iff.1 hL
        obtain ⟨L', hL', rfl⟩ := Option.map_eq_some_iff.1 hL
        obtain ⟨B, hB, hL'⟩ := Option.bind_eq_some_iff.1 hL'
        cases hL'
        have za := size_pos a
        have zb := size_pos b
        have zab : a.size + b.size + 1 = (⟨0, 6, i, 0, [a, b]⟩ : Pat).size := by rw [hsz]; simp [Pat.sizes]; omega
        have ka := (hvs a (by simp) A hA).2
        have kb := (hvs b (by simp) B hB).2
        simp only [List.getD_cons_succ, List.getD_cons_zero] at h0 h1' ⊢
        have hpl := prodL_ok (v := v) (a := normOut A) (b := normOut B) (fun m hm => ((normOut_sorted h0).2 m hm).1) (fun m hm => ((normOut_sorted h1').2 m hm).1)
        refine norm_uniq hpl.1 (h0.prodT h1') fun k => ?_
        rw [hpl.2, gprod_congr (norm_tsum A) (norm_tsum B), eT_prod (m := a.size.toNat) (n := b.size.toNat) (by omega) (fun q hq e he => by have := (ka q hq).2 e he; omega) (fun q hq e he => by have := (kb q hq).2 e he; omega)]
      rw [if_neg h6, if_neg h6, if_neg h12]
      rw [if_neg h20, if_neg h21]
      rfl
end Go.Proofs.Ytmdahjmkfipdfaa
