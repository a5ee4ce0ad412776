/- walk: polynomial.normalize, its first cases; walk: polynomial.normalize, shifts -/
import Derived.Test.YtmdahjmkfipdfaaPmMul
import Derived.Test.YtmdahjmkfipdfaaPoly1
namespace Go.Proofs.Ytmdahjmkfipdfaa
set_option linter.unusedVariables false
set_option linter.unusedSimpArgs false
open Go.RowKit Go.Proofs.YtmdahjmkfipdfaaW.PrintWords Go.Proofs.YtmdahjmkfipdfaaW.PrintLast Go.Proofs.YtmdahjmkfipdfaaW.PrintMore
/-- What normalize hands back. -/
def NormRes (v : Nat) (w : World) (n : Nat) (o : Option Tm) (e : Ending) (w' : World) : Prop := match o with
  | none => e = .returned (.tuple #[.map none, .bool false]) ∧ Below w.heap.size w w'
  | some T => ∃ b M, e = .returned (.tuple #[.map (some b), .bool true]) ∧ w.heap.size ≤ b ∧ PolyAt w' b n M ∧ Rep v M T ∧ Below w.heap.size w w'
theorem made_set (W : World) (v n : Nat) : Bytes (W.alloc (.cells ((madeCells #[.int .u8 0] v).setIfInBounds n (.int .u8 1)) 5)) W.heap.size ((List.replicate v 0).set n 1) := by
  have h := made_bytes W v
  unfold Bytes at h ⊢
  rw [blk_new] at h ⊢
  have h1 : madeCells #[Value.int .u8 0] v = (nums .u8 (List.replicate v 0)).toArray := by simpa using h
  rw [h1]
  simp only [List.setIfInBounds_toArray]
  simp [nums, List.map_set]
theorem bytes_convert {ops : Array Oper} {rest : List Oper} {o : Oper} {a : Act} {Q : Exit → Act → World → Prop} (w : World) (hg : o.guard = none) (x : Operand) (hop : o.op = Op.convert 71 9 x) (g n c : Nat) (l : List Int) (hb : Bytes w g l) (hx : a.eval x = .slice (some ⟨g, 0, none⟩) n c) (hn : l.length = n) (hl : n ≤ 6)
    (hK : wpList Try.prog ops Q rest (a.put o.dst (.string (strOfNums l))) w) : wpList Try.prog ops Q (o :: rest) a w := by
  refine wpList_plain hg fun K' hK' => ?_
  have hrun := hb.conv (c := c) hn hl
  unfold Oper.wp
  simp [execOp, hop, hx, hrun, Result.andThen]
  exact hK' _ _ hK
theorem kb_zero (v : Nat) : kb (List.replicate v 0) = zeroK v := by simp [kb, zeroK]
theorem kb_unit (v n : Nat) : kb ((List.replicate v 0).set n 1) = unitK v n := by simp [kb, unitK, List.map_set]
theorem Rep.one (v : Nat) (k : List UInt8) (hk : k.length = v) (c d : Int) (hc : c = d % 18446744073709551616) : Rep v (oneTerm k c) [(k, d)] := by
  refine ⟨fun x hx => ?_, fun x => ?_⟩
  · unfold oneTerm PM.put at hx
    by_cases e : x = k
    · rw [e]; exact hk
    · rw [if_neg e] at hx; simp at hx
  · rw [tsum_cons, tsum_nil]
    unfold oneTerm PM.put
    by_cases e : x = k
    · subst e; rw [if_pos rfl, if_pos rfl, hc]; simp
    · rw [if_neg e, if_neg (fun h => e h.symm)]; rfl
set_option maxHeartbeats 2000000 in
set_option maxRecDepth 100000 in
theorem normalize_var (v : Nat) (hv : v ≤ 6) (p : Pat) (A : Option Addr) (c : Nat) (w : World) (h0 : 1 ≤ p.var) (h1 : p.var ≤ v) :
    Calls Try.prog 38 #[.agg #[.int .i64 p.var, .int .i64 p.op, .int .i64 p.imm, .int .i64 p.immVar, .slice A p.kids.length c], .int .i64 v] w (NormRes v w 1 (pterms v p)) := by
  obtain ⟨var, op, imm, iv, ks⟩ := p
  simp only at h0 h1 ⊢
  obtain ⟨n, rfl⟩ : ∃ n : Nat, var = (n : Int) + 1 := ⟨(var - 1).toNat, by omega⟩
  have E : pterms v ⟨(n : Int) + 1, op, imm, iv, ks⟩ = some [(unitK v n, 1)] := by
    rw [pterms, if_pos (by omega)]
    have : ((n : Int) + 1 - 1).toNat = n := by omega
    rw [this]
  rw [E]
  clear E
  have hnv : n < v := by omega
  have hmm := @run_makeMap Try.prog
  have hmk := print_make (P := Try.prog) 71 5 .u8 1 Try.underlying71 infoU8 (by decide) v (by omega)
  have hby := fun ob => made_bytes (w.alloc ob) v
  simp only [World.size_alloc] at hby
  have hc1 := fun ob => (hby ob).cell (i := n) (x := 0) (by simp [hnv])
  have hf1 := fun ob => (hby ob).free n
  have HB3 : ∀ ob, Bytes (((w.alloc ob).alloc (.cells ((madeCells #[.int .u8 0] v).setIfInBounds n (.int .u8 1)) 5)).alloc (.map #[] 0)) (w.heap.size + 1) ((List.replicate v 0).set n 1) := fun ob => by
    have h := (made_set (w.alloc ob) v n).below ((Below.refl _ _).alloc (Nat.le_refl _) (.map #[] 0))
    simpa only [World.size_alloc] using h
  go_enter Try.func38, Try.ntmps38
  have HP3 : ∀ ob, PolyAt (((w.alloc ob).alloc (.cells ((madeCells #[.int .u8 0] v).setIfInBounds n (.int .u8 1)) 5)).alloc (.map #[] 0)) (w.heap.size + 1 + 1) 0 (fun _ => none) := fun ob => by
    have h := PolyAt.made ((w.alloc ob).alloc (.cells ((madeCells #[.int .u8 0] v).setIfInBounds n (.int .u8 1)) 5))
    simpa only [World.size_alloc] using h
  have HBw : ∀ o1 o2 o3, Below w.heap.size w (((w.alloc o1).alloc o2).alloc o3) := fun o1 o2 o3 => (((Below.refl _ _).alloc (Nat.le_refl _) _).alloc (by simp) _).alloc (by simp; omega) _
  go_wp2_with (first
    | (with_reducible refine bytes_convert _ rfl _ rfl (w.heap.size + 1) v v _ (HB3 _) rfl (by simp) hv ?_)
    | (with_reducible refine poly_insert _ rfl _ _ _ rfl (w.heap.size + 1 + 1) 0 _ (HP3 _) (by simp [maxLen]) rfl _ ?hsz rfl _ rfl (by decide) ?_; (case hsz => rw [strOfNums_size]; simp [maxLen]; omega); intro w5 hP5 hg5; go_frame)
    | go_in)
  go_ret2
  rw [show (strOfNums ((List.replicate v 0).set n 1)).data.toList = unitK v n from kb_unit v n] at hP5
  exact ⟨_, _, rfl, by omega, hP5, Rep.one v _ (by simp [unitK]) 1 1 (by decide), (HBw _ _ _).grown hg5 (by simp; omega) (fun k hk => by cases hk; omega)⟩
set_option maxHeartbeats 2000000 in
set_option maxRecDepth 100000 in
theorem normalize_const (v : Nat) (hv : v ≤ 6) (p : Pat) (A : Option Addr) (c : Nat) (w : World) (h0 : p.var = 0) (h1 : p.op = 1) :
    Calls Try.prog 38 #[.agg #[.int .i64 p.var, .int .i64 p.op, .int .i64 p.imm, .int .i64 p.immVar, .slice A p.kids.length c], .int .i64 v] w (NormRes v w 1 (pterms v p)) := by
  obtain ⟨var, op, imm, iv, ks⟩ := p
  simp only at h0 h1 ⊢
  subst h0 h1
  have E : pterms v ⟨0, 1, imm, iv, ks⟩ = some [(zeroK v, imm)] := by rw [pterms, if_neg (by omega), if_pos rfl]
  rw [E]
  clear E
  have cc := fun W => constant_calls (IntKind.u64.wrap imm) (wrapU64_wf _) v hv W
  go_enter Try.func38, Try.ntmps38
  go_wp2_with fail
  refine (cc _).mono ?_
  rintro e w1 ⟨b, rfl, hb, hP, hB⟩
  go_wp2
  go_ret2
  rw [kb_zero] at hP
  exact ⟨b, _, rfl, by simp at hb; omega, hP, Rep.one v _ (by simp [zeroK]) _ _ (wrapU64 imm), below_then ((Below.refl _ _).alloc (Nat.le_refl _) _) (by simp) hB⟩
end Go.Proofs.Ytmdahjmkfipdfaa
namespace Go.Proofs.Ytmdahjmkfipdfaa
set_option linter.unusedVariables false
set_option linter.unusedSimpArgs false
open Go.RowKit Go.Proofs.YtmdahjmkfipdfaaW.PrintWords Go.Proofs.YtmdahjmkfipdfaaW.PrintLast Go.Proofs.YtmdahjmkfipdfaaW.PrintMore
/-- The contract of normalize at the patterns that it is asked of. -/
def NormC (v : Nat) (p : Pat) : Prop := ∀ (A : Option Addr) (c : Nat) (w : World), Kd.C kPat w A p.kids.length p.kids → p.kids.length ≤ c →
  Calls Try.prog 38 #[.agg #[.int .i64 p.var, .int .i64 p.op, .int .i64 p.imm, .int .i64 p.immVar, .slice A p.kids.length c], .int .i64 v] w (NormRes v w (2 ^ p.size.toNat) (pterms v p))
theorem bits_and63 (x : Int) : bits .and .i64 x 63 = x % 64 := by
  unfold bits
  have h64 : IntKind.i64.bits = 64 := by decide
  rw [h64]
  have e : (BitVec.ofInt 64 x &&& BitVec.ofInt 64 63).toNat = (x % 64).toNat := by
    rw [BitVec.toNat_and, BitVec.toNat_ofInt]
    have : (BitVec.ofInt 64 63).toNat = 2 ^ 6 - 1 := by decide
    rw [this, Nat.and_two_pow_sub_one_eq_mod]
    omega
  simp only [e]
  rw [IntKind.wrap_i64]
  omega
theorem Rep.add {v : Nat} {Ms Mt : PM} {Ts Tt : Tm} (hs : Rep v Ms Ts) (ht : Rep v Mt Tt) (t : Int) : Rep v (addPM Ms Mt t) (Ts ++ scaleT t Tt) := by
  refine ⟨fun k hk => ?_, fun k => ?_⟩
  · unfold addPM at hk
    cases h : Mt k with
    | none => rw [h] at hk; exact hs.1 k hk
    | some c => exact ht.1 k (by rw [h]; rfl)
  · have h1 := hs.2 k
    have h2 := ht.2 k
    rw [tsum_append, scaleT, tsum_scale]
    unfold addPM
    cases h : Mt k with
    | none =>
      rw [h] at h2
      simp only [Option.getD_none] at h2
      simp only
      rw [h1, Int.add_emod, Int.mul_emod, ← h2]
      simp
    | some c =>
      rw [h] at h2
      simp only [Option.getD_some] at h2 ⊢
      have e1 : t * (tsum Tt k % 18446744073709551616) % 18446744073709551616 = t * tsum Tt k % 18446744073709551616 := by rw [Int.mul_emod, Int.emod_emod, ← Int.mul_emod]
      rw [wrapU64, wrapU64, h1, h2, e1, ← Int.add_emod]
theorem add0 (a : Addr) : a.add 0 = a := by simp [Addr.add]
theorem add_blk (a : Addr) (n : Nat) : (a.add n).block = a.block := by unfold Addr.add; split <;> rfl
theorem add_off (a : Addr) (n : Nat) : (a.add n).off = a.off + n := by unfold Addr.add; split <;> simp_all
theorem wrap_pow (n : Nat) (h : n < 64) : IntKind.u64.wrap (2 ^ n) = 2 ^ n := by
  have h1 : (2 : Nat) ^ n ≤ 2 ^ 63 := Nat.pow_le_pow_right (by decide) (by omega)
  have h2 : ((2 : Int) ^ n) = ((2 ^ n : Nat) : Int) := by simp
  rw [wrapU64, h2]
  generalize (2 : Nat) ^ n = z at h1
  omega
theorem pow24 {s : Int} (h : s ≤ 24) : 2 ^ s.toNat < maxLen := by
  have : 2 ^ s.toNat ≤ 2 ^ 24 := Nat.pow_le_pow_right (by decide) (by omega)
  unfold maxLen
  omega
set_option maxHeartbeats 2000000 in
set_option maxRecDepth 100000 in
theorem normalize_shl (v : Nat) (hv : v ≤ 6) (p : Pat) (A : Option Addr) (c : Nat) (w : World) (h0 : p.var = 0) (h1 : p.op = 12) (a b : Pat) (hk : p.kids = [a, b]) (ih : NormC v a) (hsz : a.size ≤ 24) (hr : Kd.C kPat w A p.kids.length p.kids) (hcl : p.kids.length ≤ c) :
    Calls Try.prog 38 #[.agg #[.int .i64 p.var, .int .i64 p.op, .int .i64 p.imm, .int .i64 p.immVar, .slice A p.kids.length c], .int .i64 v] w (NormRes v w (2 ^ a.size.toNat) (pterms v p)) := by
  obtain ⟨var, op, imm, iv, ks⟩ := p
  simp only at h0 h1 hk hr hcl ⊢
  subst h0 h1 hk
  have E : pterms v ⟨0, 12, imm, iv, [a, b]⟩ = if b.op = 1 then (pterms v a).map (scaleT (2 ^ (b.imm % 64).toNat)) else none := by rw [pterms, if_neg (by omega), if_neg (by omega), if_pos rfl, shlTerms]
  obtain ⟨ad, A4, c4, rfl, a0, a1, a2, a3, a4, hla, hCa⟩ := atN_Pat hr (k := 0) (x := a) rfl
  obtain ⟨ad', A5, c5, e5, b0, b1, b2, b3, b4, hlb, hCb⟩ := atN_Pat hr (k := 1) (x := b) rfl
  cases e5
  simp only [Nat.zero_mul, Nat.one_mul, add0, add_blk, add_off] at a0 a1 a2 a3 a4 b0 b1 b2 b3 b4
  have hW := fun ob => (Below.refl w.heap.size w).alloc (Nat.le_refl _) ob
  have a0' := fun ob => pw_cell_below (hW ob) a0
  have a1' := fun ob => pw_cell_below (hW ob) a1
  have a2' := fun ob => pw_cell_below (hW ob) a2
  have a3' := fun ob => pw_cell_below (hW ob) a3
  have a4' := fun ob => pw_cell_below (hW ob) a4
  have ihc := fun W h => ih A4 c4 W h hla
  have hmm := @run_makeMap Try.prog
  replace E := Lib.hid E
  clear b0 b3 b4
  rcases hpa : pterms v a with _ | T
  · have E' : pterms v ⟨0, 12, imm, iv, [a, b]⟩ = none := by rw [E.out, hpa]; split <;> rfl
    rw [hpa] at ihc
    rw [E']
    clear E E' hpa b1 b2
    go_enter Try.func38, Try.ntmps38
    go_wp2_with fail
    refine (ihc _ (Kd.C_alloc hCa _)).mono ?_
    rintro e w1 ⟨rfl, hb⟩
    go_wp2
    go_ret2
    exact ⟨rfl, below_then (hW _) (by simp) hb⟩
  · rw [hpa] at ihc E
    by_cases hb1 : b.op = 1
    · rw [if_pos hb1] at E
      rw [E.out]
      clear E hpa
      go_enter Try.func38, Try.ntmps38
      go_wp2_with fail
      refine (ihc _ (Kd.C_alloc hCa _)).mono ?_
      rintro e w1 ⟨bm, M, rfl, hbm, hP, hR, hB⟩
      have hB1 := below_then (hW _) (by simp) hB
      have hbk := blk_below (blk_new w _) hB
      have k4 := (blk_cell hbk 4).trans rfl
      have b1' := pw_cell_below hB1 b1
      have b2' := pw_cell_below hB1 b2
      clear b1 b2
      have hW1 := fun ob => (Below.refl w1.heap.size w1).alloc (Nat.le_refl _) ob
      have k4' := fun ob => pw_cell_below (hW1 ob) k4
      have b1'' := fun ob => pw_cell_below (hW1 ob) b1'
      have b2'' := fun ob => pw_cell_below (hW1 ob) b2'
      have hbt := bits_and63 b.imm
      go_wp2_with fail
      have hlt := hP.lt
      refine (add_calls w1.heap.size bm 0 _ (fun _ => none) M _ _ (PolyAt.made w1) (hP.below (hW1 _)) (by omega) (by rw [Nat.zero_add]; exact pow24 hsz)).mono ?_
      rintro e w2 ⟨rfl, hP2, hg2⟩
      go_wp2
      go_ret2
      have hR2 := Rep.add (Rep.empty v) hR (IntKind.u64.wrap (2 ^ (b.imm % 64).toNat))
      rw [wrap_pow _ (by omega)] at hR2 hP2
      have hs1 := hB1.size
      exact ⟨_, _, rfl, hs1, hP2.mono (by omega), hR2, (hB1.alloc hs1 _).grown hg2 (by simp; omega) (fun k hk => by cases hk; exact hs1)⟩
    · rw [if_neg hb1] at E
      rw [E.out]
      clear E hpa
      have e1 : (b.op != 1) = true := by simpa using hb1
      go_enter Try.func38, Try.ntmps38
      go_wp2_with fail
      refine (ihc _ (Kd.C_alloc hCa _)).mono ?_
      rintro e w1 ⟨bm, M, rfl, hbm, hP, hR, hB⟩
      have hB1 := below_then (hW _) (by simp) hB
      have hbk := blk_below (blk_new w _) hB
      have k4 := (blk_cell hbk 4).trans rfl
      have b1' := pw_cell_below hB1 b1
      go_wp2
      go_ret2
      exact ⟨rfl, hB1⟩
end Go.Proofs.Ytmdahjmkfipdfaa
