/- walks: fullinglaw18.Pattern, op; walk: fullinglaw18.op -/
import Derived.Test.YtmdahjmkfipdfaaGen3
import Derived.Test.YtmdahjmkfipdfaaWRepsOne
namespace Go.Proofs.Ytmdahjmkfipdfaa
set_option linter.unusedVariables false
set_option linter.unusedSimpArgs false
open Go.RowKit Go.Proofs.YtmdahjmkfipdfaaW.PrintWords Go.Proofs.YtmdahjmkfipdfaaW.PrintLast Go.Proofs.YtmdahjmkfipdfaaW.PrintMore
attribute [local go_sem] max2_int min2_int max_two min_two
/-- What the generator makes of the seeds. -/
def genP (vars : Int) (l : List Int) : Pat := (genPat vars 4 (l.take 20)).1
/-- A pattern handed back by a call that turns nothing. -/
def NewPat (w : World) (p : Pat) (e : Ending) (w' : World) : Prop := ∃ A c, e = .returned (.agg #[.int .i64 p.var, .int .i64 p.op, .int .i64 p.imm, .int .i64 p.immVar, .slice A p.kids.length c]) ∧ p.kids.length ≤ c ∧ kPat.C w' A p.kids.length p.kids ∧ Below w.heap.size w w'
/-- The same with what it leads to. -/
def NewPatF (w : World) (p : Pat) (e : Ending) (w' : World) : Prop := ∃ A c, e = .returned (.agg #[.int .i64 p.var, .int .i64 p.op, .int .i64 p.imm, .int .i64 p.immVar, .slice A p.kids.length c]) ∧ p.kids.length ≤ c ∧ Kd.F kPat w' (fun k => w.heap.size ≤ k) A p.kids.length p.kids ∧ Below w.heap.size w w'
/-- The seeds copied: append([]int{}, l[:min(len(l), n)]...). -/
theorem empty_row (w : World) : (Kd.int .i64).R 3 (w.alloc (.cells #[] 3)) w.heap.size (fun k => w.heap.size ≤ k) (.slice (some ⟨w.heap.size, 0, none⟩) 0 0) [] :=
  Kd.R_of_own (own_lit w w.heap.size 3 .i64 [] (Nat.le_refl _) (by simp)) (fun k hk => by simp [Value.ownBlock] at hk; omega)
set_option maxHeartbeats 1000000 in
set_option maxRecDepth 100000 in
theorem PatternF_calls (vars : Int) (hv : 1 ≤ vars) (hv2 : vars ≤ 6) (l : List Int) (A : Option Addr) (c : Nat) (w : World) (hC : (Kd.int .i64).C w A l.length l) (hcl : l.length ≤ c) (hwf : ∀ n ∈ l, I64 n) (n : Nat) (hn : n = min l.length 20) :
    Calls Try.prog 17 #[.slice A l.length c, .int .i64 vars] w (NewPatF w (genP vars l)) := by
  have hmax := Kd.C_max hC
  obtain ⟨ls, hls⟩ : ∃ ls, ls = l.take n := ⟨_, rfl⟩
  have hnl : ls.length = n := by rw [hls, List.length_take]; omega
  have htk : l.take 20 = ls := by
    rw [hls]
    by_cases h : l.length ≤ 20
    · rw [List.take_of_length_le h, List.take_of_length_le (by omega)]
    · rw [show n = 20 by omega]
  have hT := Kd.C_take (m := n) hC (by omega)
  rw [← hls, hnl] at hT
  have hlwf : ∀ x ∈ ls, I64 x := fun x hx => hwf x (by rw [hls] at hx; exact List.mem_of_mem_take hx)
  have hW := fun ob => (Below.refl w.heap.size w).alloc (Nat.le_refl _) ob
  have hW2 : ∀ ob ob2, Below w.heap.size w ((w.alloc ob).alloc ob2) := fun ob ob2 => (hW ob).alloc (by simp) _
  have hrow := fun ob => empty_row (w.alloc ob)
  simp only [World.size_alloc] at hrow
  have hlen : ([] : List Int).length + n ≤ 20 := by simp; omega
  have E : Hid (genP vars l = (genPat vars 4 ls).1) := Lib.hid (by rw [genP, htk])
  have hlt : ls.length ≤ 9223372036854775807 := by omega
  clear htk hls
  replace hnl := Lib.hid hnl
  have hs2 : ∀ ob ob2, w.heap.size + 1 ≤ ((w.alloc ob).alloc ob2).heap.size := fun ob ob2 => by simp
  have hbxA := fun ob ob2 => blk_below (blk_new w ob) ((Below.refl (w.alloc ob).heap.size _).alloc (Nat.le_refl _) ob2)
  have hpc' : ∀ (w0 w : World) (b : Nat), Rd w0 w b ls → Calls Try.prog 41 #[.pointer (some ⟨b, 0, none⟩), .int .i64 0, .int .i64 vars] w (PatRes w0 w b (genPat vars 4 ls)) := fun w0 W b h => pat_calls vars hv hv2 4 (by decide) w0 W b ls h hlwf
  go_enter Try.func17, Try.ntmps17
  by_cases h20 : l.length ≤ 20
  · have hnn : n = l.length := by omega
    clear hn
    subst hnn
    go_wp2_with (first
      | (at_builtin; (refine Kd.R_append_rows (Kd.int .i64) (w.heap.size + 1) rfl _ _ 29 3 (.int .i64 0) 8 rfl Try.underlying29 infoInt' rfl (by decide) (by decide) _ [] ls A l.length c (fun k => w.heap.size + 1 ≤ k) (fun _ => False) rfl rfl (hrow _) (Kd.C_below hT (hW2 _ _)) (fun _ _ h => h) (fun _ h => h.elim) (fun k hk => Nat.le_trans (hs2 _ _) hk) (Below.refl _ _) (hs2 _ _) (by omega) ?_); intro v1 w1 hr1 hb1 hg1 _; obtain ⟨A1, c1, rfl, hc1, hC1⟩ := Kd.R_reads hr1; have hbx1 := (hb1.block _ (Nat.lt_succ_self _)).trans (hbxA _ _); have hB1 := (hW2 _ _).trans (hb1.mono (Nat.le_succ _)); clear hr1 hb1 hg1)
      | (go_at_call 41; refine (hpc' w1 _ _ ⟨A1, c1, (Below.refl _ _).alloc (Nat.le_refl _) _, Nat.le_refl _, blk_new _ _, hC1, hc1⟩).mono ?_; rintro e w2 ⟨A2, c2, rfl, hc2, hF, hRd, hK⟩; (have hbx2 := hK.blk (blk_below hbx1 ((Below.refl w1.heap.size w1).alloc (Nat.le_refl _) _)) (Nat.ne_of_lt (blk_lt hbx1)) (by simp)); have c0 := (blk_cell hbx2 0).trans rfl; have d1 := (blk_cell hbx2 1).trans rfl; have d2 := (blk_cell hbx2 2).trans rfl; have d3 := (blk_cell hbx2 3).trans rfl; have d4 := (blk_cell hbx2 4).trans rfl; have hfz := fun j => blk_frozen hbx2 j)
      | go_in)
    refine bodyPost_ret (results_cell_row rfl _ _ w.heap.size 24 _ (0, 0) _ rfl (put5 hbx2 _ _ _ _ _) Try.underlying24 rfl (by kernel_rfl)) rfl ?_
    rw [E.out]
    have hlt1 := blk_lt hbx1
    refine ⟨A2, c2, rfl, hc2, Kd.F_mono (F_far5 hF (fun k hk e => by simp at hk; omega) _ _ _ _ _) (fun k hk => by simp at hk; omega), ?_⟩
    have hB2 := below_then hB1 hB1.size hRd.choose_spec.choose_spec.1
    exact ((((hB2.setCell (p := ⟨w.heap.size, 0, none⟩) (Nat.le_refl _) _).setCell (p := ⟨w.heap.size, 1, none⟩) (Nat.le_refl _) _).setCell (p := ⟨w.heap.size, 2, none⟩) (Nat.le_refl _) _).setCell (p := ⟨w.heap.size, 3, none⟩) (Nat.le_refl _) _).setCell (p := ⟨w.heap.size, 4, none⟩) (Nat.le_refl _) _
  · have hnn : n = 20 := by omega
    clear hn
    subst hnn
    go_wp2_with (first
      | (at_builtin; (refine Kd.R_append_rows (Kd.int .i64) (w.heap.size + 1) rfl _ _ 29 3 (.int .i64 0) 8 rfl Try.underlying29 infoInt' rfl (by decide) (by decide) _ [] ls A 20 c (fun k => w.heap.size + 1 ≤ k) (fun _ => False) rfl rfl (hrow _) (Kd.C_below hT (hW2 _ _)) (fun _ _ h => h) (fun _ h => h.elim) (fun k hk => Nat.le_trans (hs2 _ _) hk) (Below.refl _ _) (hs2 _ _) (by omega) ?_); intro v1 w1 hr1 hb1 hg1 _; obtain ⟨A1, c1, rfl, hc1, hC1⟩ := Kd.R_reads hr1; have hbx1 := (hb1.block _ (Nat.lt_succ_self _)).trans (hbxA _ _); have hB1 := (hW2 _ _).trans (hb1.mono (Nat.le_succ _)); clear hr1 hb1 hg1)
      | (go_at_call 41; refine (hpc' w1 _ _ ⟨A1, c1, (Below.refl _ _).alloc (Nat.le_refl _) _, Nat.le_refl _, blk_new _ _, hC1, hc1⟩).mono ?_; rintro e w2 ⟨A2, c2, rfl, hc2, hF, hRd, hK⟩; (have hbx2 := hK.blk (blk_below hbx1 ((Below.refl w1.heap.size w1).alloc (Nat.le_refl _) _)) (Nat.ne_of_lt (blk_lt hbx1)) (by simp)); have c0 := (blk_cell hbx2 0).trans rfl; have d1 := (blk_cell hbx2 1).trans rfl; have d2 := (blk_cell hbx2 2).trans rfl; have d3 := (blk_cell hbx2 3).trans rfl; have d4 := (blk_cell hbx2 4).trans rfl; have hfz := fun j => blk_frozen hbx2 j)
      | go_in)
    refine bodyPost_ret (results_cell_row rfl _ _ w.heap.size 24 _ (0, 0) _ rfl (put5 hbx2 _ _ _ _ _) Try.underlying24 rfl (by kernel_rfl)) rfl ?_
    rw [E.out]
    have hlt1 := blk_lt hbx1
    refine ⟨A2, c2, rfl, hc2, Kd.F_mono (F_far5 hF (fun k hk e => by simp at hk; omega) _ _ _ _ _) (fun k hk => by simp at hk; omega), ?_⟩
    have hB2 := below_then hB1 hB1.size hRd.choose_spec.choose_spec.1
    exact ((((hB2.setCell (p := ⟨w.heap.size, 0, none⟩) (Nat.le_refl _) _).setCell (p := ⟨w.heap.size, 1, none⟩) (Nat.le_refl _) _).setCell (p := ⟨w.heap.size, 2, none⟩) (Nat.le_refl _) _).setCell (p := ⟨w.heap.size, 3, none⟩) (Nat.le_refl _) _).setCell (p := ⟨w.heap.size, 4, none⟩) (Nat.le_refl _) _
theorem Pattern_calls (vars : Int) (hv : 1 ≤ vars) (hv2 : vars ≤ 6) (l : List Int) (A : Option Addr) (c : Nat) (w : World) (hC : (Kd.int .i64).C w A l.length l) (hcl : l.length ≤ c) (hwf : ∀ n ∈ l, I64 n) (n : Nat) (hn : n = min l.length 20) :
    Calls Try.prog 17 #[.slice A l.length c, .int .i64 vars] w (NewPat w (genP vars l)) :=
  (PatternF_calls vars hv hv2 l A c w hC hcl hwf n hn).mono fun _ _ ⟨A1, c1, h1, h2, h3, h4⟩ => ⟨A1, c1, h1, h2, Kd.F_now h3, h4⟩
end Go.Proofs.Ytmdahjmkfipdfaa
namespace Go.Proofs.Ytmdahjmkfipdfaa
set_option linter.unusedVariables false
set_option linter.unusedSimpArgs false
open Go.RowKit Go.Proofs.YtmdahjmkfipdfaaW.PrintWords Go.Proofs.YtmdahjmkfipdfaaW.PrintLast Go.Proofs.YtmdahjmkfipdfaaW.PrintMore
set_option maxHeartbeats 1000000 in
set_option maxRecDepth 100000 in
theorem op_calls (k : Int) (p q : Pat) (A B : Option Addr) (c d : Nat) (w : World) (hp : kPat.C w A p.kids.length p.kids) (hpc : p.kids.length ≤ c) (hq : kPat.C w B q.kids.length q.kids) (hqc : q.kids.length ≤ d) :
    Calls Try.prog 21 #[.int .i64 k, .agg #[.int .i64 p.var, .int .i64 p.op, .int .i64 p.imm, .int .i64 p.immVar, .slice A p.kids.length c], .agg #[.int .i64 q.var, .int .i64 q.op, .int .i64 q.imm, .int .i64 q.immVar, .slice B q.kids.length d]] w (NewPat w (opP k [p, q])) := by
  go_enter Try.func21, Try.ntmps21
  go_wp2
  have hb : ∀ o1 o2 o3 o4, ((((w.alloc o1).alloc o2).alloc o3).alloc o4).heap[w.heap.size + 1 + 1]? = some o3 := fun o1 o2 o3 o4 => by
    have h := blk_below (blk_new ((w.alloc o1).alloc o2) o3) ((Below.refl _ _).alloc (Nat.le_refl _) o4)
    simpa only [World.size_alloc] using h
  refine bodyPost_ret (results_cell_row rfl _ _ (w.heap.size + 1 + 1) 24 _ (0, 0) _ rfl (hb _ _ _ _) Try.underlying24 rfl (by kernel_rfl)) rfl ?_
  have hC := fun o1 o2 o3 => C_pats2 (((w.alloc o1).alloc o2).alloc o3) p q (kPat_mk _ p hpc (Kd.C_alloc (Kd.C_alloc (Kd.C_alloc hp _) _) _)) (kPat_mk _ q hqc (Kd.C_alloc (Kd.C_alloc (Kd.C_alloc hq _) _) _)) 24
  simp only [World.size_alloc] at hC
  exact ⟨_, 2, rfl, Nat.le_refl _, hC _ _ _, ((((Below.refl _ _).alloc (Nat.le_refl _) _).alloc (by simp) _).alloc (by simp; omega) _).alloc (by simp; omega) _⟩
end Go.Proofs.Ytmdahjmkfipdfaa
