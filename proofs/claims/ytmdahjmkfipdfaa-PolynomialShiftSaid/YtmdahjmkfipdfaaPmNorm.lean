/- walk: polynomial.normalize, its first cases -/
import Derived.Test.YtmdahjmkfipdfaaPmMul
import Derived.Test.YtmdahjmkfipdfaaPoly1
namespace Go.Proofs.Ytmdahjmkfipdfaa
set_option linter.unusedVariables false
set_option linter.unusedSimpArgs false
open Go.RowKit Go.Proofs.YtmdahjmkfipdfaaW.PrintWords Go.Proofs.YtmdahjmkfipdfaaW.PrintLast Go.Proofs.YtmdahjmkfipdfaaW.PrintMore
/-- What normalize hands back. -/
def NormRes (v : Nat) (w : World) (n : Nat) (o : Option Tm) (e : Ending) (w' : World) : Prop := match o with
  | none => e = .returned (.tuple #[.map none, .bool false]) ∧ Below w.heap.size w w'
  | some T => ∃ b M, e = .returned (.tuple #[.map (some b), .bool true]) ∧ w.heap.size ≤ b ∧ PolyAt w' b n M ∧ Rep v M T ∧ Below w.heap.size w w'
theorem made_set (W : World) (v n : Nat) : Bytes (W.alloc (.cells ((madeCells #[.int .u8 0] v).setIfInBounds n (.int .u8 1)) 5)) W.heap.size ((List.replicate v 0).set n 1) := by
  have h := made_bytes W v
  unfold Bytes at h ⊢
  rw [blk_new] at h ⊢
  have h1 : madeCells #[Value.int .u8 0] v = (nums .u8 (List.replicate v 0)).toArray := by simpa using h
  rw [h1]
  simp only [List.setIfInBounds_toArray]
  simp [nums, List.map_set]
theorem bytes_convert {ops : Array Oper} {rest : List Oper} {o : Oper} {a : Act} {Q : Exit → Act → World → Prop} (w : World) (hg : o.guard = none) (x : Operand) (hop : o.op = Op.convert 71 9 x) (g n c : Nat) (l : List Int) (hb : Bytes w g l) (hx : a.eval x = .slice (some ⟨g, 0, none⟩) n c) (hn : l.length = n) (hl : n ≤ 6)
    (hK : wpList Try.prog ops Q rest (a.put o.dst (.string (strOfNums l))) w) : wpList Try.prog ops Q (o :: rest) a w := by
  refine wpList_plain hg fun K' hK' => ?_
  have hrun := hb.conv (c := c) hn hl
  unfold Oper.wp
  simp [execOp, hop, hx, hrun, Result.andThen]
  exact hK' _ _ hK
theorem kb_zero (v : Nat) : kb (List.replicate v 0) = zeroK v := by simp [kb, zeroK]
theorem kb_unit (v n : Nat) : kb ((List.replicate v 0).set n 1) = unitK v n := by simp [kb, unitK, List.map_set]
theorem Rep.one (v : Nat) (k : List UInt8) (hk : k.length = v) (c d : Int) (hc : c = d % 18446744073709551616) : Rep v (oneTerm k c) [(k, d)] := by
  refine ⟨fun x hx => ?_, fun x => ?_⟩
  · unfold oneTerm PM.put at hx
    by_cases e : x = k
    · rw [e]; exact hk
    · rw [if_neg e] at hx; simp at hx
  · rw [tsum_cons, tsum_nil]
    unfold oneTerm PM.put
    by_cases e : x = k
    · subst e; rw [if_pos rfl, if_pos rfl, hc]; simp
    · rw [if_neg e, if_neg (fun h => e h.symm)]; rfl
set_option maxHeartbeats 2000000 in
set_option maxRecDepth 100000 in
theorem normalize_var (v : Nat) (hv : v ≤ 6) (p : Pat) (A : Option Addr) (c : Nat) (w : World) (h0 : 1 ≤ p.var) (h1 : p.var ≤ v) :
    Calls Try.prog 38 #[.agg #[.int .i64 p.var, .int .i64 p.op, .int .i64 p.imm, .int .i64 p.immVar, .slice A p.kids.length c], .int .i64 v] w (NormRes v w 1 (pterms v p)) := by
  obtain ⟨var, op, imm, iv, ks⟩ := p
  simp only at h0 h1 ⊢
  obtain ⟨n, rfl⟩ : ∃ n : Nat, var = (n : Int) + 1 := ⟨(var - 1).toNat, by omega⟩
  have E : pterms v ⟨(n : Int) + 1, op, imm, iv, ks⟩ = some [(unitK v n, 1)] := by
    rw [pterms, if_pos (by omega)]
    have : ((n : Int) + 1 - 1).toNat = n := by omega
    rw [this]
  rw [E]
  clear E
  have hnv : n < v := by omega
  have hmm := @run_makeMap Try.prog
  have hmk := print_make (P := Try.prog) 71 5 .u8 1 Try.underlying71 infoU8 (by decide) v (by omega)
  have hby := fun ob => made_bytes (w.alloc ob) v
  simp only [World.size_alloc] at hby
  have hc1 := fun ob => (hby ob).cell (i := n) (x := 0) (by simp [hnv])
  have hf1 := fun ob => (hby ob).free n
  have HB3 : ∀ ob, Bytes (((w.alloc ob).alloc (.cells ((madeCells #[.int .u8 0] v).setIfInBounds n (.int .u8 1)) 5)).alloc (.map #[] 0)) (w.heap.size + 1) ((List.replicate v 0).set n 1) := fun ob => by
    have h := (made_set (w.alloc ob) v n).below ((Below.refl _ _).alloc (Nat.le_refl _) (.map #[] 0))
    simpa only [World.size_alloc] using h
  go_enter Try.func38, Try.ntmps38
  have HP3 : ∀ ob, PolyAt (((w.alloc ob).alloc (.cells ((madeCells #[.int .u8 0] v).setIfInBounds n (.int .u8 1)) 5)).alloc (.map #[] 0)) (w.heap.size + 1 + 1) 0 (fun _ => none) := fun ob => by
    have h := PolyAt.made ((w.alloc ob).alloc (.cells ((madeCells #[.int .u8 0] v).setIfInBounds n (.int .u8 1)) 5))
    simpa only [World.size_alloc] using h
  have HBw : ∀ o1 o2 o3, Below w.heap.size w (((w.alloc o1).alloc o2).alloc o3) := fun o1 o2 o3 => (((Below.refl _ _).alloc (Nat.le_refl _) _).alloc (by simp) _).alloc (by simp; omega) _
  go_wp2_with (first
    | (with_reducible refine bytes_convert _ rfl _ rfl (w.heap.size + 1) v v _ (HB3 _) rfl (by simp) hv ?_)
    | (with_reducible refine poly_insert _ rfl _ _ _ rfl (w.heap.size + 1 + 1) 0 _ (HP3 _) (by simp [maxLen]) rfl _ ?hsz rfl _ rfl (by decide) ?_; (case hsz => rw [strOfNums_size]; simp [maxLen]; omega); intro w5 hP5 hg5; go_frame)
    | go_in)
  go_ret2
  rw [show (strOfNums ((List.replicate v 0).set n 1)).data.toList = unitK v n from kb_unit v n] at hP5
  exact ⟨_, _, rfl, by omega, hP5, Rep.one v _ (by simp [unitK]) 1 1 (by decide), (HBw _ _ _).grown hg5 (by simp; omega) (fun k hk => by cases hk; omega)⟩
set_option maxHeartbeats 2000000 in
set_option maxRecDepth 100000 in
theorem normalize_const (v : Nat) (hv : v ≤ 6) (p : Pat) (A : Option Addr) (c : Nat) (w : World) (h0 : p.var = 0) (h1 : p.op = 1) :
    Calls Try.prog 38 #[.agg #[.int .i64 p.var, .int .i64 p.op, .int .i64 p.imm, .int .i64 p.immVar, .slice A p.kids.length c], .int .i64 v] w (NormRes v w 1 (pterms v p)) := by
  obtain ⟨var, op, imm, iv, ks⟩ := p
  simp only at h0 h1 ⊢
  subst h0 h1
  have E : pterms v ⟨0, 1, imm, iv, ks⟩ = some [(zeroK v, imm)] := by rw [pterms, if_neg (by omega), if_pos rfl]
  rw [E]
  clear E
  have cc := fun W => constant_calls (IntKind.u64.wrap imm) (wrapU64_wf _) v hv W
  go_enter Try.func38, Try.ntmps38
  go_wp2_with fail
  refine (cc _).mono ?_
  rintro e w1 ⟨b, rfl, hb, hP, hB⟩
  go_wp2
  go_ret2
  rw [kb_zero] at hP
  exact ⟨b, _, rfl, by simp at hb; omega, hP, Rep.one v _ (by simp [zeroK]) _ _ (wrapU64 imm), below_then ((Below.refl _ _).alloc (Nat.le_refl _) _) (by simp) hB⟩
end Go.Proofs.Ytmdahjmkfipdfaa
