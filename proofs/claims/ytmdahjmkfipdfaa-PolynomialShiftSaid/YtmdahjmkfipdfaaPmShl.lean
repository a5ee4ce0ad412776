/- walk: polynomial.normalize, shifts -/
import Derived.Test.YtmdahjmkfipdfaaPmNorm
namespace Go.Proofs.Ytmdahjmkfipdfaa
set_option linter.unusedVariables false
set_option linter.unusedSimpArgs false
open Go.RowKit Go.Proofs.YtmdahjmkfipdfaaW.PrintWords Go.Proofs.YtmdahjmkfipdfaaW.PrintLast Go.Proofs.YtmdahjmkfipdfaaW.PrintMore
/-- The contract of normalize at the patterns that it is asked of. -/
def NormC (v : Nat) (p : Pat) : Prop := ∀ (A : Option Addr) (c : Nat) (w : World), Kd.C kPat w A p.kids.length p.kids → p.kids.length ≤ c →
  Calls Try.prog 38 #[.agg #[.int .i64 p.var, .int .i64 p.op, .int .i64 p.imm, .int .i64 p.immVar, .slice A p.kids.length c], .int .i64 v] w (NormRes v w (2 ^ p.size.toNat) (pterms v p))
theorem bits_and63 (x : Int) : bits .and .i64 x 63 = x % 64 := by
  unfold bits
  have h64 : IntKind.i64.bits = 64 := by decide
  rw [h64]
  have e : (BitVec.ofInt 64 x &&& BitVec.ofInt 64 63).toNat = (x % 64).toNat := by
    rw [BitVec.toNat_and, BitVec.toNat_ofInt]
    have : (BitVec.ofInt 64 63).toNat = 2 ^ 6 - 1 := by decide
    rw [this, Nat.and_two_pow_sub_one_eq_mod]
    omega
  simp only [e]
  rw [IntKind.wrap_i64]
  omega
theorem Rep.add {v : Nat} {Ms Mt : PM} {Ts Tt : Tm} (hs : Rep v Ms Ts) (ht : Rep v Mt Tt) (t : Int) : Rep v (addPM Ms Mt t) (Ts ++ scaleT t Tt) := by
  refine ⟨fun k hk => ?_, fun k => ?_⟩
  · unfold addPM at hk
    cases h : Mt k with
    | none => rw [h] at hk; exact hs.1 k hk
    | some c => exact ht.1 k (by rw [h]; rfl)
  · have h1 := hs.2 k
    have h2 := ht.2 k
    rw [tsum_append, scaleT, tsum_scale]
    unfold addPM
    cases h : Mt k with
    | none =>
      rw [h] at h2
      simp only [Option.getD_none] at h2
      simp only
      rw [h1, Int.add_emod, Int.mul_emod, ← h2]
      simp
    | some c =>
      rw [h] at h2
      simp only [Option.getD_some] at h2 ⊢
      have e1 : t * (tsum Tt k % 18446744073709551616) % 18446744073709551616 = t * tsum Tt k % 18446744073709551616 := by rw [Int.mul_emod, Int.emod_emod, ← Int.mul_emod]
      rw [wrapU64, wrapU64, h1, h2, e1, ← Int.add_emod]
theorem add0 (a : Addr) : a.add 0 = a := by simp [Addr.add]
theorem add_blk (a : Addr) (n : Nat) : (a.add n).block = a.block := by unfold Addr.add; split <;> rfl
theorem add_off (a : Addr) (n : Nat) : (a.add n).off = a.off + n := by unfold Addr.add; split <;> simp_all
theorem wrap_pow (n : Nat) (h : n < 64) : IntKind.u64.wrap (2 ^ n) = 2 ^ n := by
  have h1 : (2 : Nat) ^ n ≤ 2 ^ 63 := Nat.pow_le_pow_right (by decide) (by omega)
  have h2 : ((2 : Int) ^ n) = ((2 ^ n : Nat) : Int) := by simp
  rw [wrapU64, h2]
  generalize (2 : Nat) ^ n = z at h1
  omega
theorem pow24 {s : Int} (h : s ≤ 24) : 2 ^ s.toNat < maxLen := by
  have : 2 ^ s.toNat ≤ 2 ^ 24 := Nat.pow_le_pow_right (by decide) (by omega)
  unfold maxLen
  omega
set_option maxHeartbeats 2000000 in
set_option maxRecDepth 100000 in
theorem normalize_shl (v : Nat) (hv : v ≤ 6) (p : Pat) (A : Option Addr) (c : Nat) (w : World) (h0 : p.var = 0) (h1 : p.op = 12) (a b : Pat) (hk : p.kids = [a, b]) (ih : NormC v a) (hsz : a.size ≤ 24) (hr : Kd.C kPat w A p.kids.length p.kids) (hcl : p.kids.length ≤ c) :
    Calls Try.prog 38 #[.agg #[.int .i64 p.var, .int .i64 p.op, .int .i64 p.imm, .int .i64 p.immVar, .slice A p.kids.length c], .int .i64 v] w (NormRes v w (2 ^ a.size.toNat) (pterms v p)) := by
  obtain ⟨var, op, imm, iv, ks⟩ := p
  simp only at h0 h1 hk hr hcl ⊢
  subst h0 h1 hk
  have E : pterms v ⟨0, 12, imm, iv, [a, b]⟩ = if b.op = 1 then (pterms v a).map (scaleT (2 ^ (b.imm % 64).toNat)) else none := by rw [pterms, if_neg (by omega), if_neg (by omega), if_pos rfl, shlTerms]
  obtain ⟨ad, A4, c4, rfl, a0, a1, a2, a3, a4, hla, hCa⟩ := atN_Pat hr (k := 0) (x := a) rfl
  obtain ⟨ad', A5, c5, e5, b0, b1, b2, b3, b4, hlb, hCb⟩ := atN_Pat hr (k := 1) (x := b) rfl
  cases e5
  simp only [Nat.zero_mul, Nat.one_mul, add0, add_blk, add_off] at a0 a1 a2 a3 a4 b0 b1 b2 b3 b4
  have hW := fun ob => (Below.refl w.heap.size w).alloc (Nat.le_refl _) ob
  have a0' := fun ob => pw_cell_below (hW ob) a0
  have a1' := fun ob => pw_cell_below (hW ob) a1
  have a2' := fun ob => pw_cell_below (hW ob) a2
  have a3' := fun ob => pw_cell_below (hW ob) a3
  have a4' := fun ob => pw_cell_below (hW ob) a4
  have ihc := fun W h => ih A4 c4 W h hla
  have hmm := @run_makeMap Try.prog
  replace E := Lib.hid E
  clear b0 b3 b4
  rcases hpa : pterms v a with _ | T
  · have E' : pterms v ⟨0, 12, imm, iv, [a, b]⟩ = none := by rw [E.out, hpa]; split <;> rfl
    rw [hpa] at ihc
    rw [E']
    clear E E' hpa b1 b2
    go_enter Try.func38, Try.ntmps38
    go_wp2_with fail
    refine (ihc _ (Kd.C_alloc hCa _)).mono ?_
    rintro e w1 ⟨rfl, hb⟩
    go_wp2
    go_ret2
    exact ⟨rfl, below_then (hW _) (by simp) hb⟩
  · rw [hpa] at ihc E
    by_cases hb1 : b.op = 1
    · rw [if_pos hb1] at E
      rw [E.out]
      clear E hpa
      go_enter Try.func38, Try.ntmps38
      go_wp2_with fail
      refine (ihc _ (Kd.C_alloc hCa _)).mono ?_
      rintro e w1 ⟨bm, M, rfl, hbm, hP, hR, hB⟩
      have hB1 := below_then (hW _) (by simp) hB
      have hbk := blk_below (blk_new w _) hB
      have k4 := (blk_cell hbk 4).trans rfl
      have b1' := pw_cell_below hB1 b1
      have b2' := pw_cell_below hB1 b2
      clear b1 b2
      have hW1 := fun ob => (Below.refl w1.heap.size w1).alloc (Nat.le_refl _) ob
      have k4' := fun ob => pw_cell_below (hW1 ob) k4
      have b1'' := fun ob => pw_cell_below (hW1 ob) b1'
      have b2'' := fun ob => pw_cell_below (hW1 ob) b2'
      have hbt := bits_and63 b.imm
      go_wp2_with fail
      have hlt := hP.lt
      refine (add_calls w1.heap.size bm 0 _ (fun _ => none) M _ _ (PolyAt.made w1) (hP.below (hW1 _)) (by omega) (by rw [Nat.zero_add]; exact pow24 hsz)).mono ?_
      rintro e w2 ⟨rfl, hP2, hg2⟩
      go_wp2
      go_ret2
      have hR2 := Rep.add (Rep.empty v) hR (IntKind.u64.wrap (2 ^ (b.imm % 64).toNat))
      rw [wrap_pow _ (by omega)] at hR2 hP2
      have hs1 := hB1.size
      exact ⟨_, _, rfl, hs1, hP2.mono (by omega), hR2, (hB1.alloc hs1 _).grown hg2 (by simp; omega) (fun k hk => by cases hk; exact hs1)⟩
    · rw [if_neg hb1] at E
      rw [E.out]
      clear E hpa
      have e1 : (b.op != 1) = true := by simpa using hb1
      go_enter Try.func38, Try.ntmps38
      go_wp2_with fail
      refine (ihc _ (Kd.C_alloc hCa _)).mono ?_
      rintro e w1 ⟨bm, M, rfl, hbm, hP, hR, hB⟩
      have hB1 := below_then (hW _) (by simp) hB
      have hbk := blk_below (blk_new w _) hB
      have k4 := (blk_cell hbk 4).trans rfl
      have b1' := pw_cell_below hB1 b1
      go_wp2
      go_ret2
      exact ⟨rfl, hB1⟩
end Go.Proofs.Ytmdahjmkfipdfaa
