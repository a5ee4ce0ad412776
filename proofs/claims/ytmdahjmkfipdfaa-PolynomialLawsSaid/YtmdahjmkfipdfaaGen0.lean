/- The seeds' readers: what Pick, Word and pat compute. Plain Lean. -/
import Derived.Test.YtmdahjmkfipdfaaPure1
namespace Go.Proofs.Ytmdahjmkfipdfaa
set_option linter.unusedVariables false
set_option linter.unusedSimpArgs false
def I64 (n : Int) : Prop := -9223372036854775808 ≤ n ∧ n ≤ 9223372036854775807
def pick (n m : Int) : Int := if n.tmod m < 0 then n.tmod m + m else n.tmod m
theorem tmod_bounds (n : Int) {m : Int} (hm : 0 < m) : -m < n.tmod m ∧ n.tmod m < m := by
  have h1 := Int.tmod_lt_of_pos n hm
  have h2 := Int.tmod_lt_of_pos (-n) hm
  rw [Int.neg_tmod] at h2
  omega
theorem pick_lt (n : Int) {m : Int} (hm : 0 < m) : 0 ≤ pick n m ∧ pick n m < m := by
  have := tmod_bounds n hm
  unfold pick
  split <;> omega
theorem pick_eq (n : Int) {m : Int} (hm : 0 < m) : pick n m = n % m := by
  have h := pick_lt n hm
  have h1 : n.tmod m = n - m * n.tdiv m := by have := Int.mul_tdiv_add_tmod n m; omega
  have e : ∃ q, pick n m = n + m * q := by
    unfold pick
    split
    · exact ⟨1 - n.tdiv m, by rw [h1, Int.mul_sub]; omega⟩
    · exact ⟨-n.tdiv m, by rw [h1, Int.mul_neg]; omega⟩
  obtain ⟨q, e⟩ := e
  rw [e] at h ⊢
  have : (n + m * q) % m = n % m := Int.add_mul_emod_self_left n m q
  rw [← this, Int.emod_eq_of_lt h.1 h.2]
def edges : List Int := [0, 1, -1, 2, -9223372036854775808, 9223372036854775807, 4294967296, -2147483648, 63, 64]
def word (n raw : Int) : Int := if n % 24 < 10 then edges.getD (n % 24).toNat 0 else if n % 24 < 22 then (n.tdiv 24) % 17 - 6 else raw
theorem word_i64 (n : Int) {raw : Int} (h : I64 raw) : I64 (word n raw) := by
  unfold word
  split
  · have h1 : (n % 24).toNat < 10 := by omega
    generalize (n % 24).toNat = j at h1
    match j, h1 with
    | 0, _ | 1, _ | 2, _ | 3, _ | 4, _ | 5, _ | 6, _ | 7, _ | 8, _ | 9, _ => simp [edges, I64]
  · split
    · unfold I64; omega
    · exact h
theorem tdiv_i64 {n : Int} (h : I64 n) {m : Int} (hm : 2 ≤ m) : I64 (n.tdiv m) := by
  have e := Int.mul_tdiv_add_tmod n m
  have b := tmod_bounds n (show (0 : Int) < m by omega)
  unfold I64 at *
  have hs : n.tdiv m ≤ n.natAbs ∧ -(n.natAbs : Int) ≤ n.tdiv m := by
    have h1 : (n.tdiv m).natAbs ≤ n.natAbs := by
      rw [Int.natAbs_tdiv]
      exact Nat.div_le_self _ _
    omega
  by_cases hn : n = -9223372036854775808
  · subst hn
    have h2 : ((-9223372036854775808 : Int).tdiv m).natAbs ≤ 4611686018427387904 := by
      rw [Int.natAbs_tdiv]
      exact Nat.le_trans (Nat.div_le_div_left (show 2 ≤ m.natAbs by omega) (by decide)) (by decide)
    omega
  · omega
/-- fullinglaw18.pat: d is 4 less the depth. -/
def genPat (vars : Int) : Nat → List Int → Pat × List Int
  | 0, ls => (⟨1 + (ls.headD 0).tdiv 11 % 1000 % vars, 0, 0, 0, []⟩, ls.tail)
  | d + 1, ls =>
    let n := ls.headD 0
    let k := n % 11
    let m := n.tdiv 11 % 1000
    if k < 2 then (⟨1 + m % vars, 0, 0, 0, []⟩, ls.tail)
    else if k < 4 then (⟨0, 1, word m n, 0, []⟩, ls.tail)
    else if k < 5 then (⟨0, 12, 0, 0, [(genPat vars d ls.tail).1, ⟨0, 1, m % 70 - 2, 0, []⟩]⟩, (genPat vars d ls.tail).2)
    else if k < 6 then (⟨0, if m % 2 = 0 then 20 else 21, 0, 0, [(genPat vars d ls.tail).1]⟩, (genPat vars d ls.tail).2)
    else (⟨0, if m % 3 = 0 then 4 else if m % 3 = 1 then 5 else 6, 0, 0, [(genPat vars d ls.tail).1, (genPat vars d (genPat vars d ls.tail).2).1]⟩, (genPat vars d (genPat vars d ls.tail).2).2)
end Go.Proofs.Ytmdahjmkfipdfaa
