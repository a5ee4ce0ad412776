/- Values are words; what PolynomialSound asks of two normal forms. Plain Lean. -/
import Derived.Test.YtmdahjmkfipdfaaPoly5
namespace Go.Proofs.Ytmdahjmkfipdfaa
set_option linter.unusedVariables false
set_option linter.unusedSimpArgs false
mutual
def immOk : Pat → Prop
  | ⟨_, _, i, _, ks⟩ => I64 i ∧ immOks ks
def immOks : List Pat → Prop
  | [] => True
  | k :: ks => immOk k ∧ immOks ks
end
theorem wrap64'_i64 (x : Int) : I64 (wrap64' x) := by unfold wrap64' I64; omega
theorem b2w_i64 (c : Bool) : I64 (b2w c) := by cases c <;> simp [b2w, I64]
theorem zero_i64 : I64 0 := by simp [I64]
theorem unW_i64 (op a : Int) : I64 (unW op a) := by
  unfold unW
  repeat' split
  · exact wrap64'_i64 _
  · exact wrap64'_i64 _
  · exact zero_i64
theorem sar_i64 {a : Int} (h : I64 a) (n : Nat) : I64 (a / 2 ^ n) := by
  unfold I64 at *
  have h1 : (1 : Int) ≤ 2 ^ n := by
    have : (1 : Nat) ≤ 2 ^ n := Nat.one_le_two_pow
    have e : ((2 ^ n : Nat) : Int) = 2 ^ n := by simp
    omega
  have h2 := Int.mul_ediv_add_emod a (2 ^ n)
  have h3 := Int.emod_nonneg a (show (2 : Int) ^ n ≠ 0 by omega)
  have h4 := Int.emod_lt_of_pos a (show (0 : Int) < 2 ^ n by omega)
  generalize (2 : Int) ^ n = z at *
  generalize hq : a / z = q at *
  constructor
  · refine Int.not_lt.1 fun hlt => ?_
    have h5 : z * (q + 9223372036854775808 + 1) ≤ z * 0 := Int.mul_le_mul_of_nonneg_left (by omega) (by omega)
    have e : z * (q + 9223372036854775808 + 1) = z * q + z * 9223372036854775809 := by rw [Int.add_assoc, Int.mul_add]; rfl
    have h6 : z * 9223372036854775809 = z + z * 9223372036854775808 := by omega
    have h7 : 1 * 9223372036854775808 ≤ z * 9223372036854775808 := Int.mul_le_mul_of_nonneg_right h1 (by omega)
    omega
  · refine Int.not_lt.1 fun hlt => ?_
    have h5 : 1 * q ≤ z * q := Int.mul_le_mul_of_nonneg_right h1 (by omega)
    omega
theorem ite_i64 {c : Prop} [Decidable c] {a b : Int} (ha : I64 a) (hb : I64 b) : I64 (if c then a else b) := by split <;> assumption
theorem binW_i64 {op a b : Int} (ha : I64 a) : I64 (binW op a b) := by
  unfold binW divW bitW
  repeat' (first
    | exact wrap64'_i64 _
    | exact zero_i64
    | exact b2w_i64 _
    | exact sar_i64 ha _
    | refine ite_i64 ?_ ?_)
theorem evalPs_i64 {inp : List Int} : ∀ {ks : List Pat} {ns : List Int}, (∀ k ∈ ks, ∀ n, evalP inp k = some n → I64 n) → evalPs inp ks = some ns → ∀ n ∈ ns, I64 n
  | [], ns, _, h => by rw [evalPs] at h; cases h; exact fun n hn => by cases hn
  | k :: ks, ns, hk, h => by
    rw [evalPs] at h
    obtain ⟨n, hn, h⟩ := Option.bind_eq_some_iff.1 h
    obtain ⟨ns', hns, rfl⟩ := Option.map_eq_some_iff.1 h
    intro m hm
    rcases List.mem_cons.1 hm with rfl | hm
    · exact hk k (by simp) _ hn
    · exact evalPs_i64 (fun q hq => hk q (by simp [hq])) hns m hm
theorem immOks_mem : ∀ {ks : List Pat} {q : Pat}, immOks ks → q ∈ ks → immOk q
  | [], _, _, h => by cases h
  | k :: ks, q, hs, h => by
    rw [immOks] at hs
    rcases List.mem_cons.1 h with rfl | h
    · exact hs.1
    · exact immOks_mem hs.2 h
theorem getD_i64 {ns : List Int} (h : ∀ n ∈ ns, I64 n) (j : Nat) : I64 (ns.getD j 0) := by
  rw [List.getD_eq_getElem?_getD]
  cases e : ns[j]? with
  | none => exact zero_i64
  | some n => exact h n (List.mem_of_getElem? e)
theorem evalP_i64 {inp : List Int} (hi : ∀ x ∈ inp, I64 x) : ∀ p : Pat, immOk p → ∀ n, evalP inp p = some n → I64 n := by
  refine Pat.ind ?_
  rintro ⟨v, o, i, iv, ks⟩ ih hok n h
  rw [immOk] at hok
  rw [evalP] at h
  split at h
  · cases h
    exact getD_i64 hi _
  · obtain ⟨ns, hns, h⟩ := Option.bind_eq_some_iff.1 h
    have hk := evalPs_i64 (fun k hk => ih k hk (immOks_mem hok.2 hk)) hns
    unfold evalOp at h
    repeat' split at h
    all_goals first
      | cases h; exact hok.1
      | cases h; exact unW_i64 _ _
      | cases h; exact binW_i64 (getD_i64 hk 0)
      | cases h; exact getD_i64 hk 1
      | cases h; exact getD_i64 hk 2
      | cases h
theorem genPat_imm (vars : Int) : ∀ (d : Nat) (ls : List Int), (∀ n ∈ ls, I64 n) → immOk (genPat vars d ls).1 ∧ ∀ n ∈ (genPat vars d ls).2, I64 n
  | 0, ls, h => by
    rw [genPat]
    refine ⟨?_, fun n hn => h n (List.mem_of_mem_tail hn)⟩
    rw [immOk, immOks]
    exact ⟨zero_i64, trivial⟩
  | d + 1, ls, h => by
    have ht : ∀ n ∈ ls.tail, I64 n := fun n hn => h n (List.mem_of_mem_tail hn)
    have hh : I64 (ls.headD 0) := by
      cases ls with
      | nil => exact zero_i64
      | cons x r => exact h x (by simp)
    obtain ⟨h1, h2⟩ := genPat_imm vars d ls.tail ht
    obtain ⟨h3, h4⟩ := genPat_imm vars d (genPat vars d ls.tail).2 h2
    simp only [genPat]
    repeat' split
    all_goals (refine ⟨?_, by first | exact ht | exact h2 | exact h4⟩)
    all_goals simp only [immOk, immOks, and_true, true_and]
    all_goals first
      | exact zero_i64
      | exact word_i64 _ hh
      | exact ⟨zero_i64, h1⟩
      | exact ⟨zero_i64, h1, h3⟩
      | exact ⟨zero_i64, h1, by unfold I64; omega⟩
theorem normOut_coef {T : Tm} {m : Mono} (h : m ∈ normOut T) : m.coef % 18446744073709551616 = m.coef := by
  unfold normOut at h
  obtain ⟨k, hk, rfl⟩ := List.mem_map.1 h
  simp only [monoAt]
  omega
theorem polyNorm_coef {p : Pat} {vars : Int} {ms : List Mono} (h : polyNorm p vars = some ms) : ∀ m ∈ ms, m.coef % 18446744073709551616 = m.coef := by
  unfold polyNorm at h
  split at h
  · obtain ⟨T, hT, rfl⟩ := Option.map_eq_some_iff.1 h
    exact fun m hm => normOut_coef hm
  · cases h
theorem evalM_snoc {inp : List Int} {l : List Mono} {i : Nat} {m : Mono} (h : l[i]? = some m) : evalM inp (l.take (i + 1)) = evalM inp (l.take i) + m.coef * evalE inp m.exps := by
  rw [take_succ_of h]
  simp [evalM]
theorem word_eq {n k : Int} (hn : I64 n) (hk : I64 k) (h : n % 18446744073709551616 = k % 18446744073709551616) : n = k := by unfold I64 at *; omega
/-- The exponents of two monomials of one normal form differ somewhere. -/
theorem exps_differ {l : List Mono} {i k : Nat} {m n : Mono} (hd : (l.map (·.exps)).Nodup) (hi : l[i]? = some m) (hk : l[k]? = some n) (hne : k < i) : m.exps ≠ n.exps := by
  intro e
  have h1 : (l.map (·.exps))[i]? = some m.exps := by rw [List.getElem?_map, hi]; rfl
  have h2 : (l.map (·.exps))[k]? = some m.exps := by rw [List.getElem?_map, hk, e]; rfl
  obtain ⟨l1, g1⟩ := List.getElem?_eq_some_iff.1 h1
  obtain ⟨l2, g2⟩ := List.getElem?_eq_some_iff.1 h2
  have := (List.getElem_inj hd).1 (g1.trans g2.symm)
  omega
theorem len3 {l : List Int} (h : l.length = 3) : ∃ a b c, l = [a, b, c] := by match l, h with | [a, b, c], _ => exact ⟨a, b, c, rfl⟩
end Go.Proofs.Ytmdahjmkfipdfaa
