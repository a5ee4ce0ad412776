/- The value of a pattern, and the value of its normal form. Plain Lean. -/
import Derived.Test.YtmdahjmkfipdfaaPoly6
namespace Go.Proofs.Ytmdahjmkfipdfaa
set_option linter.unusedVariables false
set_option linter.unusedSimpArgs false
/-! ### values -/
def bitW (f : BitVec 64 → BitVec 64 → BitVec 64) (a b : Int) : Int := wrap64' ((f (BitVec.ofInt 64 a) (BitVec.ofInt 64 b)).toNat : Nat)
def divW (a b : Int) : Int := if b = 0 then 0 else if b = -1 then wrap64' (-a) else wrap64' (a.tdiv b)
def b2w (c : Bool) : Int := if c = true then 1 else 0
def unW (op a : Int) : Int := if op = 20 then wrap64' (-a) else if op = 21 then wrap64' (-1 - a) else 0
def binW (op a b : Int) : Int :=
  if op = 4 then wrap64' (a + b) else if op = 5 then wrap64' (a - b) else if op = 6 then wrap64' (a * b)
  else if op = 7 then divW a b else if op = 8 then (if b = 0 then 0 else wrap64' (a - wrap64' (divW a b * b)))
  else if op = 9 then bitW (· &&& ·) a b else if op = 10 then bitW (· ||| ·) a b else if op = 11 then bitW (· ^^^ ·) a b
  else if op = 12 then wrap64' (a * 2 ^ (b % 64).toNat)
  else if op = 13 then wrap64' (a % 18446744073709551616 / 2 ^ (b % 64).toNat)
  else if op = 14 then a / 2 ^ (b % 64).toNat
  else if op = 15 then b2w (decide (a = b)) else if op = 16 then b2w (decide (a ≠ b)) else if op = 17 then b2w (decide (a < b)) else if op = 18 then b2w (decide (a ≤ b))
  else if op = 19 then b2w (decide (a % 18446744073709551616 < b % 18446744073709551616)) else 0
def evalOp (o i iv : Int) (k : List Int) : Option Int :=
  if iv > 0 then none else if o = 1 then some i else if o = 20 ∨ o = 21 then some (unW o (k.getD 0 0))
  else if 4 ≤ o ∧ o ≤ 19 then some (binW o (k.getD 0 0) (k.getD 1 0)) else if o = 22 then some (if k.getD 0 0 ≠ 0 then k.getD 1 0 else k.getD 2 0) else none
mutual
def evalP (inp : List Int) : Pat → Option Int
  | ⟨v, o, i, iv, ks⟩ => if v > 0 then some (inp.getD (v - 1).toNat 0) else (evalPs inp ks).bind (evalOp o i iv)
def evalPs (inp : List Int) : List Pat → Option (List Int)
  | [] => some []
  | k :: ks => (evalP inp k).bind fun n => (evalPs inp ks).map (n :: ·)
end
/-! ### the value of a key -/
def evalK : List Int → List UInt8 → Int
  | x :: xs, e :: es => x ^ e.toNat * evalK xs es
  | _, _ => 1
theorem evalK_zero : ∀ (inp : List Int) (v : Nat), evalK inp (zeroK v) = 1
  | [], _ => by unfold evalK; rfl
  | _ :: _, 0 => rfl
  | x :: xs, v + 1 => by
    have := evalK_zero xs v
    simp only [zeroK] at this
    simp only [zeroK, List.replicate_succ, evalK, this]
    simp
theorem evalK_unit : ∀ (inp : List Int) (v n : Nat), inp.length = v → n < v → evalK inp (unitK v n) = inp.getD n 0
  | [], v, n, h, hn => by simp at h; omega
  | x :: xs, 0, n, h, hn => by omega
  | x :: xs, v + 1, 0, h, hn => by
    have := evalK_zero xs v
    simp only [zeroK] at this
    simp [unitK, List.replicate_succ, evalK, this, Int.pow_succ]
  | x :: xs, v + 1, n + 1, h, hn => by
    have := evalK_unit xs v n (by simpa using h) (by omega)
    simp only [unitK] at this
    simp [unitK, List.replicate_succ, evalK, this]
theorem evalK_add {m n : Nat} (hmn : m + n < 256) : ∀ (inp : List Int) (a b : List UInt8), a.length = inp.length → b.length = inp.length → (∀ e ∈ a, e.toNat ≤ m) → (∀ e ∈ b, e.toNat ≤ n) → evalK inp (addK a b) = evalK inp a * evalK inp b
  | [], [], [], _, _, _, _ => rfl
  | [], _ :: _, _, h, _, _, _ => by simp at h
  | [], [], _ :: _, _, h, _, _ => by simp at h
  | _ :: _, [], _, h, _, _, _ => by simp at h
  | _ :: _, _ :: _, [], _, h, _, _ => by simp at h
  | x :: xs, d :: a, e :: b, ha, hb, h1, h2 => by
    have ih := evalK_add hmn xs a b (by simpa using ha) (by simpa using hb) (fun e he => h1 e (by simp [he])) (fun e he => h2 e (by simp [he]))
    have e1 := h1 d (by simp)
    have e2 := h2 e (by simp)
    have e3 : (d + e).toNat = d.toNat + e.toNat := by rw [UInt8.toNat_add]; omega
    simp only [addK] at ih
    simp only [addK, List.zipWith_cons_cons, evalK, ih, e3, Int.pow_add]
    simp only [Int.mul_assoc, Int.mul_left_comm]
/-! ### patterns without immediate variables -/
mutual
def noImm : Pat → Prop
  | ⟨v, o, _, iv, ks⟩ => iv = 0 ∧ (v = 0 ∨ o = 0) ∧ noImms ks
def noImms : List Pat → Prop
  | [] => True
  | k :: ks => noImm k ∧ noImms ks
end
theorem valids_noImm : ∀ (ks : List Pat) (s vars : List Int), (∀ k ∈ ks, ∀ (sort : Int) (vars : List Int), (valid 0 k sort vars).1 = true → noImm k) → (valids 0 ks s vars).1 = true → noImms ks
  | [], _, _, _, _ => by rw [noImms]; trivial
  | k :: ks, s, vars, h, hv => by
    rw [valids] at hv
    by_cases e : (valid 0 k (s.headD 0) vars).1 = true
    · rw [if_pos e] at hv
      rw [noImms]
      exact ⟨h k (by simp) _ _ e, valids_noImm ks _ _ (fun q hq => h q (by simp [hq])) hv⟩
    · rw [if_neg e] at hv
      cases hv
theorem valid_noImm : ∀ (p : Pat) (sort : Int) (vars : List Int), (valid 0 p sort vars).1 = true → noImm p := by
  refine Pat.ind ?_
  rintro ⟨v, o, i, iv, ks⟩ ih sort vars h
  rw [noImm]
  by_cases h0 : v ≠ 0
  · rw [valid, if_pos h0] at h
    by_cases h1 : v < 1 ∨ v > vars.length ∨ o ≠ 0 ∨ i ≠ 0 ∨ iv ≠ 0 ∨ ks.length > 0
    · rw [if_pos h1] at h; cases h
    · have hk : ks = [] := List.length_eq_zero_iff.1 (by omega)
      subst hk
      refine ⟨by omega, by omega, ?_⟩
      rw [noImms]; trivial
  · have h0' : v = 0 := Classical.not_not.1 h0
    subst h0'
    rcases hos : opSorts o with _ | ⟨kids, own⟩
    · rw [valid_none hos] at h; cases h
    · rw [valid_some hos] at h
      by_cases h1 : ks.length ≠ kids.length ∨ (sort ≠ 0 ∧ sort ≠ own) ∨ validImm ⟨0, o, i, iv, ks⟩ 0 = false
      · rw [if_pos h1] at h; cases h
      · rw [if_neg h1] at h
        refine ⟨?_, Or.inl rfl, valids_noImm ks kids vars ih h⟩
        refine Classical.byContradiction fun e => h1 (Or.inr (Or.inr ?_))
        simp only [validImm, if_pos e]
        rw [Bool.and_eq_false_iff]
        exact Or.inr (decide_eq_false (by omega))
/-! ### the two values are one -/
theorem wrap64'_mod (x : Int) : wrap64' x % 18446744073709551616 = x % 18446744073709551616 := by unfold wrap64'; omega
theorem lsum_prod_val {inp : List Int} {A B : Tm} {m n : Nat} (hmn : m + n < 256) (hA : ∀ q ∈ A, q.1.length = inp.length ∧ ∀ e ∈ q.1, e.toNat ≤ m) (hB : ∀ q ∈ B, q.1.length = inp.length ∧ ∀ e ∈ q.1, e.toNat ≤ n) :
    lsum (prodT A B) (evalK inp) = lsum A (evalK inp) * lsum B (evalK inp) := by
  rw [lsum_prodT]
  have h1 : lsum A (fun a => lsum B (fun b => evalK inp (addK a b))) = lsum A (fun a => lsum B (evalK inp) * evalK inp a) := by
    refine lsum_mem_congr fun q hq => ?_
    have h2 : lsum B (fun b => evalK inp (addK q.1 b)) = lsum B (fun b => evalK inp q.1 * evalK inp b) :=
      lsum_mem_congr fun r hr => evalK_add hmn inp q.1 r.1 (hA q hq).1 (hB r hr).1 (hA q hq).2 (hB r hr).2
    rw [h2, lsum_fun_scale, Int.mul_comm]
  rw [h1, lsum_fun_scale, Int.mul_comm]
def Val (inp : List Int) (v : Nat) (p : Pat) : Prop := ∀ T, pterms v p = some T → (∃ n, evalP inp p = some n ∧ lsum T (evalK inp) % 18446744073709551616 = n % 18446744073709551616) ∧ ∀ q ∈ T, q.1.length = v ∧ ∀ e ∈ q.1, (e.toNat : Int) ≤ p.size
theorem keys_scale {v : Nat} {s : Int} {t : Int} {A : Tm} (h : ∀ q ∈ A, q.1.length = v ∧ ∀ e ∈ q.1, (e.toNat : Int) ≤ s) : ∀ q ∈ scaleT t A, q.1.length = v ∧ ∀ e ∈ q.1, (e.toNat : Int) ≤ s := by
  intro q hq
  simp only [Go.Proofs.Ytmdahjmkfipdfaa.scaleT, List.mem_map] at hq
  obtain ⟨a, ha, rfl⟩ := hq
  exact h a ha
theorem keys_mono {v : Nat} {s s' : Int} {A : Tm} (h : ∀ q ∈ A, q.1.length = v ∧ ∀ e ∈ q.1, (e.toNat : Int) ≤ s) (hs : s ≤ s') : ∀ q ∈ A, q.1.length = v ∧ ∀ e ∈ q.1, (e.toNat : Int) ≤ s' :=
  fun q hq => ⟨(h q hq).1, fun e he => Int.le_trans ((h q hq).2 e he) hs⟩
theorem keys_append {v : Nat} {s : Int} {A B : Tm} (h : ∀ q ∈ A, q.1.length = v ∧ ∀ e ∈ q.1, (e.toNat : Int) ≤ s) (h' : ∀ q ∈ B, q.1.length = v ∧ ∀ e ∈ q.1, (e.toNat : Int) ≤ s) : ∀ q ∈ A ++ B, q.1.length = v ∧ ∀ e ∈ q.1, (e.toNat : Int) ≤ s :=
  fun q hq => (List.mem_append.1 hq).elim (h q) (h' q)
theorem keys_zero {v : Nat} {s c : Int} (hs : 0 ≤ s) : ∀ q ∈ ([(zeroK v, c)] : Tm), q.1.length = v ∧ ∀ e ∈ q.1, (e.toNat : Int) ≤ s := by
  intro q hq
  simp at hq
  subst hq
  refine ⟨by simp [zeroK], fun e he => ?_⟩
  simp only [zeroK, List.mem_replicate] at he
  rw [he.2]
  simpa using hs
theorem keys_prod {v : Nat} {m n : Int} (hmn : m + n < 256) {A B : Tm} (hA : ∀ q ∈ A, q.1.length = v ∧ ∀ e ∈ q.1, (e.toNat : Int) ≤ m) (hB : ∀ q ∈ B, q.1.length = v ∧ ∀ e ∈ q.1, (e.toNat : Int) ≤ n) : ∀ q ∈ prodT A B, q.1.length = v ∧ ∀ e ∈ q.1, (e.toNat : Int) ≤ m + n := by
  intro q hq
  simp only [Go.Proofs.Ytmdahjmkfipdfaa.prodT, List.mem_flatMap, List.mem_map] at hq
  obtain ⟨a, ha, b, hb, rfl⟩ := hq
  refine ⟨addK_len (hA a ha).1 (hB b hb).1, fun e he => ?_⟩
  obtain ⟨i, hi, rfl⟩ := List.getElem_of_mem he
  simp only [addK, List.getElem_zipWith]
  have h1 := (hA a ha).2 (a.1[i]'(by simp [addK] at hi; omega)) (List.getElem_mem _)
  have h2 := (hB b hb).2 (b.1[i]'(by simp [addK] at hi; omega)) (List.getElem_mem _)
  rw [UInt8.toNat_add]
  omega
theorem poly_val (inp : List Int) (v : Nat) (hv : inp.length = v) : ∀ p : Pat, shape v p → noImm p → p.size ≤ 200 → Val inp v p := by
  refine Pat.ind ?_
  rintro ⟨var, o, i, iv, ks⟩ ih hs hi hz T hT
  rw [shape] at hs
  rw [noImm] at hi
  obtain ⟨hi1, hi2, hi3⟩ := hi
  subst hi1
  have hsz : (⟨var, o, i, 0, ks⟩ : Pat).size = 1 + Pat.sizes ks := by rw [Pat.size_eq]
  have hsz0 := sizes_nonneg ks (fun k _ => size_pos k)
  rw [pterms] at hT
  by_cases h0 : var > 0
  · rw [if_pos h0] at hT
    cases hT
    rw [if_pos (by omega)] at hs
    have hlt : (var - 1).toNat < v := by omega
    refine ⟨⟨inp.getD (var - 1).toNat 0, by rw [evalP, if_pos h0], ?_⟩, ?_⟩
    · rw [lsum_one, evalK_unit inp v _ hv hlt]; simp
    · intro q hq
      simp at hq
      subst hq
      refine ⟨by simp [unitK], fun e he => ?_⟩
      simp only [unitK] at he
      rcases List.mem_or_eq_of_mem_set he with h | rfl
      · rw [List.mem_replicate] at h
        rw [h.2]
        simp
        omega
      · simp
        omega
  · rw [if_neg h0] at hT
    have hvar : var = 0 := by
      by_cases e : var = 0
      · exact e
      · rw [if_pos e] at hs; omega
    subst hvar
    rw [if_neg (by simp)] at hs
    obtain ⟨⟨kids, s, hos, hlen⟩, hss⟩ := hs
    have hev : evalP inp ⟨0, o, i, 0, ks⟩ = (evalPs inp ks).bind (evalOp o i 0) := by rw [evalP, if_neg (by simp)]
    by_cases h1 : o = 1
    · subst h1
      rw [if_pos rfl] at hT
      cases hT
      have hk : kids = [] := by simp [opSorts] at hos; exact hos.1
      subst hk
      obtain rfl : ks = [] := List.length_eq_zero_iff.1 (by simpa using hlen)
      refine ⟨⟨i, by rw [hev, evalPs]; rfl, ?_⟩, keys_zero (by omega)⟩
      rw [lsum_one, evalK_zero]; simp
    · rw [if_neg h1] at hT
      have two : ∀ {a b : Pat}, ks = [a, b] → (shape v a ∧ noImm a) ∧ (shape v b ∧ noImm b) ∧ a.size + b.size + 1 = (⟨0, o, i, 0, ks⟩ : Pat).size ∧ 1 ≤ a.size ∧ 1 ≤ b.size := by
        intro a b e
        subst e
        rw [shapes, shapes] at hss
        rw [noImms, noImms] at hi3
        exact ⟨⟨hss.1, hi3.1⟩, ⟨hss.2.1, hi3.2.1⟩, by rw [hsz]; simp [Pat.sizes]; omega, size_pos a, size_pos b⟩
      have mk2 : kids.length = 2 → ∃ a b, ks = [a, b] := fun h => by
        rw [h] at hlen
        match ks, hlen with
        | [a, b], _ => exact ⟨a, b, rfl⟩
      have mk1 : kids.length = 1 → ∃ a, ks = [a] := fun h => by
        rw [h] at hlen
        match ks, hlen with
        | [a], _ => exact ⟨a, rfl⟩
      by_cases h12 : o = 12
      · subst h12
        rw [if_pos rfl] at hT
        obtain ⟨a, b, rfl⟩ := mk2 (by simp [opSorts] at hos; rw [← hos.1]; rfl)
        obtain ⟨⟨sa, na⟩, ⟨sb, nb⟩, hz2, za, zb⟩ := two rfl
        rw [shlTerms] at hT
        by_cases hb : b.op = 1
        · rw [if_pos hb] at hT
          obtain ⟨A, hA, rfl⟩ := Option.map_eq_some_iff.1 hT
          obtain ⟨⟨n, hn, hl⟩, hk⟩ := ih a (by simp) sa na (by omega) A hA
          obtain ⟨bv, bo, bi, biv, bks⟩ := b
          simp only at hb
          subst hb
          rw [noImm] at nb
          obtain ⟨rfl, hbv, _⟩ := nb
          obtain rfl : bv = 0 := by omega
          rw [shape, if_neg (by simp)] at sb
          obtain ⟨⟨kb, sb', hob, hlb⟩, _⟩ := sb
          have hkb : kb = [] := by simp [opSorts] at hob; exact hob.1
          subst hkb
          obtain rfl : bks = [] := List.length_eq_zero_iff.1 (by simpa using hlb)
          have heb : evalP inp ⟨0, 1, bi, 0, []⟩ = some bi := by rw [evalP, if_neg (by simp), evalPs]; rfl
          refine ⟨⟨wrap64' (n * 2 ^ (bi % 64).toNat), by rw [hev, evalPs, evalPs, evalPs, hn, heb]; rfl, ?_⟩, keys_mono (keys_scale hk) (by omega)⟩
          rw [lsum_scaleT, wrap64'_mod, Int.mul_comm n, Int.mul_emod, hl, ← Int.mul_emod]
        · rw [if_neg hb] at hT; cases hT
      · rw [if_neg h12] at hT
        obtain ⟨L, hL, hT⟩ := Option.bind_eq_some_iff.1 hT
        simp only [opTerms] at hT
        have bin : kids.length = 2 → ∃ a b A B n m, ks = [a, b] ∧ L = [A, B] ∧ evalP inp a = some n ∧ evalP inp b = some m ∧ lsum A (evalK inp) % 18446744073709551616 = n % 18446744073709551616 ∧ lsum B (evalK inp) % 18446744073709551616 = m % 18446744073709551616 ∧
            (∀ q ∈ A, q.1.length = v ∧ ∀ e ∈ q.1, (e.toNat : Int) ≤ a.size) ∧ (∀ q ∈ B, q.1.length = v ∧ ∀ e ∈ q.1, (e.toNat : Int) ≤ b.size) ∧ a.size + b.size + 1 = (⟨0, o, i, 0, ks⟩ : Pat).size ∧ 1 ≤ a.size ∧ 1 ≤ b.size := by
          intro h2
          obtain ⟨a, b, rfl⟩ := mk2 h2
          obtain ⟨⟨sa, na⟩, ⟨sb, nb⟩, hz2, za, zb⟩ := two rfl
          rw [ptermss, ptermss, ptermss] at hL
          obtain ⟨A, hA, hL⟩ := Option.bind_eq_some_iff.1 hL
          obtain ⟨L', hL', rfl⟩ := Option.map_eq_some_iff.1 hL
          obtain ⟨B, hB, hL'⟩ := Option.bind_eq_some_iff.1 hL'
          cases hL'
          obtain ⟨⟨n, hn, hl⟩, hk⟩ := ih a (by simp) sa na (by omega) A hA
          obtain ⟨⟨m, hm, hl'⟩, hk'⟩ := ih b (by simp) sb nb (by omega) B hB
          exact ⟨a, b, A, B, n, m, rfl, rfl, hn, hm, hl, hl', hk, hk', hz2, za, zb⟩
        have un : kids.length = 1 → ∃ a A n, ks = [a] ∧ L = [A] ∧ evalP inp a = some n ∧ lsum A (evalK inp) % 18446744073709551616 = n % 18446744073709551616 ∧ (∀ q ∈ A, q.1.length = v ∧ ∀ e ∈ q.1, (e.toNat : Int) ≤ a.size) ∧ a.size + 1 = (⟨0, o, i, 0, ks⟩ : Pat).size ∧ 1 ≤ a.size := by
          intro h2
          obtain ⟨a, rfl⟩ := mk1 h2
          rw [shapes] at hss
          rw [noImms] at hi3
          have hz1 : a.size + 1 = (⟨0, o, i, 0, [a]⟩ : Pat).size := by rw [hsz]; simp [Pat.sizes]; omega
          rw [ptermss, ptermss] at hL
          obtain ⟨A, hA, hL⟩ := Option.bind_eq_some_iff.1 hL
          cases hL
          obtain ⟨⟨n, hn, hl⟩, hk⟩ := ih a (by simp) hss.1 hi3.1 (by omega) A hA
          exact ⟨a, A, n, rfl, rfl, hn, hl, hk, hz1, size_pos a⟩
        by_cases h4 : o = 4
        · subst h4
          obtain ⟨a, b, A, B, n, m, rfl, rfl, hn, hm, hl, hl', hk, hk', hz2, za, zb⟩ := bin (by simp [opSorts] at hos; rw [← hos.1]; rfl)
          simp at hT
          subst hT
          refine ⟨⟨wrap64' (n + m), by rw [hev, evalPs, evalPs, evalPs, hn, hm]; rfl, ?_⟩, keys_append (keys_mono hk (by omega)) (keys_mono hk' (by omega))⟩
          rw [lsum_append, wrap64'_mod, Int.add_emod, hl, hl', ← Int.add_emod]
        rw [if_neg h4] at hT
        by_cases h5 : o = 5
        · subst h5
          obtain ⟨a, b, A, B, n, m, rfl, rfl, hn, hm, hl, hl', hk, hk', hz2, za, zb⟩ := bin (by simp [opSorts] at hos; rw [← hos.1]; rfl)
          simp at hT
          subst hT
          refine ⟨⟨wrap64' (n - m), by rw [hev, evalPs, evalPs, evalPs, hn, hm]; rfl, ?_⟩, keys_append (keys_mono hk (by omega)) (keys_mono (keys_scale hk') (by omega))⟩
          rw [lsum_append, lsum_scaleT, wrap64'_mod]
          omega
        rw [if_neg h5] at hT
        by_cases h6 : o = 6
        · subst h6
          obtain ⟨a, b, A, B, n, m, rfl, rfl, hn, hm, hl, hl', hk, hk', hz2, za, zb⟩ := bin (by simp [opSorts] at hos; rw [← hos.1]; rfl)
          simp at hT
          subst hT
          refine ⟨⟨wrap64' (n * m), by rw [hev, evalPs, evalPs, evalPs, hn, hm]; rfl, ?_⟩, keys_mono (keys_prod (by omega) hk hk') (by omega)⟩
          rw [lsum_prod_val (m := a.size.toNat) (n := b.size.toNat) (by omega) (fun q hq => ⟨by rw [(hk q hq).1, hv], fun e he => by have := (hk q hq).2 e he; omega⟩) (fun q hq => ⟨by rw [(hk' q hq).1, hv], fun e he => by have := (hk' q hq).2 e he; omega⟩), wrap64'_mod, Int.mul_emod, hl, hl', ← Int.mul_emod]
        rw [if_neg h6] at hT
        by_cases h20 : o = 20
        · subst h20
          obtain ⟨a, A, n, rfl, rfl, hn, hl, hk, hz2, za⟩ := un (by simp [opSorts] at hos; rw [← hos.1]; rfl)
          simp at hT
          subst hT
          refine ⟨⟨wrap64' (-n), by rw [hev, evalPs, evalPs, hn]; rfl, ?_⟩, keys_mono (keys_scale hk) (by omega)⟩
          rw [lsum_scaleT, wrap64'_mod]
          omega
        rw [if_neg h20] at hT
        by_cases h21 : o = 21
        · subst h21
          obtain ⟨a, A, n, rfl, rfl, hn, hl, hk, hz2, za⟩ := un (by simp [opSorts] at hos; rw [← hos.1]; rfl)
          simp at hT
          subst hT
          refine ⟨⟨wrap64' (-1 - n), by rw [hev, evalPs, evalPs, hn]; rfl, ?_⟩, ?_⟩
          · rw [lsum_cons, lsum_scaleT, evalK_zero, wrap64'_mod]
            simp only
            omega
          · exact keys_append (A := [(zeroK v, 18446744073709551615)]) (keys_zero (by omega)) (keys_mono (keys_scale hk) (by omega))
        rw [if_neg h21] at hT
        cases hT
/-! ### the value of a normal form -/
def evalE : List Int → List Int → Int
  | x :: xs, e :: es => x ^ e.toNat * evalE xs es
  | _, _ => 1
theorem evalE_exps : ∀ (inp : List Int) (k : List UInt8), evalE inp (expsOf k) = evalK inp k
  | [], _ => by unfold evalE evalK; rfl
  | _ :: _, [] => rfl
  | x :: xs, e :: es => by
    have := evalE_exps xs es
    simp only [expsOf] at this
    simp only [expsOf, List.map_cons, evalE, evalK, this, Int.toNat_natCast]
/-- The value of a sum. -/
def evalM (inp : List Int) (l : List Mono) : Int := (l.map fun m => m.coef * evalE inp m.exps).sum
/-- The terms of a normal form. -/
def normU (T : Tm) : Tm := ((nzKeys T).mergeSort leB).map fun k => (k, tsum T k % 18446744073709551616)
theorem normU_tsum (T : Tm) (k : List UInt8) : tsum (normU T) k % 18446744073709551616 = tsum T k % 18446744073709551616 := by
  have h2 : ∀ l : List (List UInt8), l.Nodup → tsum (l.map fun k => (k, tsum T k % 18446744073709551616)) k = if k ∈ l then tsum T k % 18446744073709551616 else 0 := by
    intro l
    induction l with
    | nil => intro _; rfl
    | cons a l ih =>
      intro hn
      rw [List.nodup_cons] at hn
      rw [List.map_cons, tsum_cons, ih hn.2]
      simp only
      by_cases e : a = k
      · subst e
        rw [if_pos rfl, if_neg hn.1, if_pos (by simp)]
        simp
      · have e' : ¬ k = a := fun h => e h.symm
        rw [if_neg e]
        simp [e']
  rw [normU, h2 _ ((List.mergeSort_perm _ _).nodup_iff.2 (nzKeys_nodup T))]
  have hm : k ∈ (nzKeys T).mergeSort leB ↔ tsum T k % 18446744073709551616 ≠ 0 := by rw [(List.mergeSort_perm (nzKeys T) leB).mem_iff, mem_nzKeys]
  by_cases h : tsum T k % 18446744073709551616 = 0
  · rw [if_neg (fun e => hm.1 e h), h]; rfl
  · rw [if_pos (hm.2 h), Int.emod_emod_of_dvd _ (Int.dvd_refl _)]
theorem evalM_norm (inp : List Int) (T : Tm) : evalM inp (normOut T) % 18446744073709551616 = lsum T (evalK inp) % 18446744073709551616 := by
  have h1 : evalM inp (normOut T) = lsum (normU T) (evalK inp) := by
    unfold evalM normOut lsum normU
    rw [List.map_map, List.map_map]
    congr 1
    refine List.map_congr_left fun k _ => ?_
    simp [monoAt, evalE_exps]
  rw [h1]
  exact lsum_congr (normU_tsum T) _
theorem expsOf_inj : ∀ {a b : List UInt8}, expsOf a = expsOf b → a = b
  | [], [], _ => rfl
  | [], _ :: _, h => by simp [expsOf] at h
  | _ :: _, [], h => by simp [expsOf] at h
  | x :: a, y :: b, h => by
    simp only [expsOf, List.map_cons, List.cons.injEq] at h
    have h1 : x.toNat = y.toNat := by have := h.1; omega
    rw [UInt8.toNat_inj.1 h1, expsOf_inj h.2]
theorem normOut_mem {T : Tm} {m : Mono} (h : m ∈ normOut T) : m.coef ≠ 0 ∧ ∃ k c, (k, c) ∈ T ∧ m.exps = expsOf k := by
  unfold normOut at h
  obtain ⟨k, hk, rfl⟩ := List.mem_map.1 h
  have hk' := (List.mergeSort_perm (nzKeys T) leB).mem_iff.1 hk
  have h1 := (mem_nzKeys T k).1 hk'
  obtain ⟨q, hq, rfl⟩ := List.mem_map.1 (tsum_ne_zero h1)
  exact ⟨h1, q.1, q.2, hq, rfl⟩
theorem normOut_nodup (T : Tm) : ((normOut T).map (·.exps)).Nodup := by
  unfold normOut
  rw [List.map_map]
  have : ((nzKeys T).mergeSort leB).Nodup := (List.mergeSort_perm _ _).nodup_iff.2 (nzKeys_nodup T)
  rw [List.nodup_iff_pairwise_ne] at this ⊢
  rw [List.pairwise_map]
  exact this.imp fun hab e => hab (expsOf_inj e)
/-! ### the law -/
theorem patValid_shape {p : Pat} {vars imms : Int} (h : patValid p vars imms = true) : shape vars.toNat p ∧ wrap64' p.size ≤ 24 ∧ 0 ≤ vars ∧ vars ≤ 6 ∧ (valid imms p 0 (List.replicate vars.toNat 0)).1 = true := by
  unfold patValid at h
  split at h
  · cases h
  · rename_i h1
    have h2 := valid_shape imms p 0 _ h
    rw [List.length_replicate] at h2
    exact ⟨h2, by omega, by omega, by omega, h⟩
theorem norm_value {p : Pat} {vars : Int} {ms : List Mono} {inp : List Int} (h : polyNorm p vars = some ms) (hz : p.size ≤ 1000) (hi : inp.length = vars.toNat) :
    ∃ n, evalP inp p = some n ∧ evalM inp ms % 18446744073709551616 = n % 18446744073709551616 ∧ (∀ m ∈ ms, m.exps.length = vars.toNat ∧ m.coef ≠ 0 ∧ ∀ e ∈ m.exps, 0 ≤ e ∧ e ≤ 24) ∧ (ms.map (·.exps)).Nodup := by
  unfold polyNorm at h
  split at h
  · rename_i hv
    obtain ⟨T, hT, rfl⟩ := Option.map_eq_some_iff.1 h
    obtain ⟨hs, hw, _, _, hvd⟩ := patValid_shape hv
    have hz1 := size_pos p
    have hz2 : p.size ≤ 24 := by unfold wrap64' at hw; omega
    obtain ⟨⟨n, hn, hl⟩, hk⟩ := poly_val inp vars.toNat hi p hs (valid_noImm p _ _ hvd) (by omega) T hT
    refine ⟨n, hn, by rw [evalM_norm, hl], fun m hm => ?_, normOut_nodup T⟩
    obtain ⟨h1, k, c, hkc, he⟩ := normOut_mem hm
    refine ⟨by rw [he]; simp [expsOf, (hk _ hkc).1], h1, fun e hme => ?_⟩
    rw [he] at hme
    simp only [expsOf, List.mem_map] at hme
    obtain ⟨b, hb, rfl⟩ := hme
    have := (hk _ hkc).2 b hb
    omega
  · cases h
end Go.Proofs.Ytmdahjmkfipdfaa
