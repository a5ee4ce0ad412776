/- walk: fullinglaw18.pat at an operation. Printed by genpat.py. -/
import Derived.Test.YtmdahjmkfipdfaaGen2
import Derived.Test.YtmdahjmkfipdfaaWRepsOne
namespace Go.Proofs.Ytmdahjmkfipdfaa
set_option linter.unusedVariables false
set_option linter.unusedSimpArgs false
open Go.RowKit Go.Proofs.YtmdahjmkfipdfaaW.PrintWords Go.Proofs.YtmdahjmkfipdfaaW.PrintLast Go.Proofs.YtmdahjmkfipdfaaW.PrintMore
theorem cell_alloc {w : World} {p : Addr} {v : Value} (h : w.cell? p = some v) (o : Obj) : (w.alloc o).cell? p = some v := pw_cell_below ((Below.refl _ _).alloc (Nat.le_refl _) o) h
theorem FK_const (w : World) (ok : Nat → Prop) (n : Int) : Kd.FK kPat w ok (constP n) [.int .i64 0, .int .i64 1, .int .i64 n, .int .i64 0, .slice none 0 0] := kPat_mkF w ok (constP n) (Nat.le_refl _) (Kd.F_nil _ _ _)
set_option maxHeartbeats 1000000 in
set_option maxRecDepth 100000 in
theorem pat_shl (vars : Int) (hv : 1 ≤ vars) (hv2 : vars ≤ 6) (d : Nat) (hd4 : d < 4) (ih : PatC vars d) (w0 w : World) (b : Nat) (ls : List Int) (hRd : Rd w0 w b ls) (hls : ∀ n ∈ ls, I64 n) (hk1 : 4 ≤ ls.headD 0 % 11 ∧ ls.headD 0 % 11 < 5) :
    Calls Try.prog 41 #[.pointer (some ⟨b, 0, none⟩), .int .i64 (4 - (d + 1 : Nat)), .int .i64 vars] w (PatRes w0 w b (genPat vars (d + 1) ls)) := by
  have hls1 := mem_tail_i64 hls
  have ih1 := fun W h => ih w0 W b ls.tail h hls1
  have ih2 := fun W h => ih w0 W b (genPat vars d ls.tail).2 h (genPat_i64 vars d _ hls1)
  obtain ⟨D, hD⟩ : ∃ D : Int, D = 4 - (d + 1 : Nat) := ⟨_, rfl⟩
  have hD1 : (4 - (d : Int)) = D + 1 := by omega
  have hD0 : 0 ≤ D ∧ D ≤ 3 := by omega
  have hwD : wrap64 (D + 1) = D + 1 := by rw [wrap64]; omega
  rw [hD1] at ih1 ih2
  rw [← hD]
  clear hD
  have hn := head_i64 hls
  have hd := tdiv_i64 hn (show (2 : Int) ≤ 11 by decide)
  have hnx := fun W h => Next_calls w0 W b ls h
  obtain ⟨n, hnn⟩ : ∃ n, n = ls.headD 0 := ⟨_, rfl⟩
  have E : Hid (genPat vars (d + 1) ls = (⟨0, 12, 0, 0, [(genPat vars d ls.tail).1, ⟨0, 1, n.tdiv 11 % 1000 % 70 - 2, 0, []⟩]⟩, (genPat vars d ls.tail).2)) := Lib.hid (by (try rw [hnn]); simp only [genPat]; rw [if_neg (by omega), if_neg (by omega), if_pos hk1.2, ← hnn])
  rw [← hnn] at hnx hn hd
  have hw : wrap64 (n.tdiv 11) = n.tdiv 11 := by unfold I64 at hd; rw [wrap64]; omega
  have pc1 := fun W => Pick_calls n 11 W (by decide) (by decide)
  have pc2 := fun W => Pick_calls (n.tdiv 11) 1000 W (by decide) (by decide)
  obtain ⟨k, hk⟩ : ∃ k, k = n % 11 := ⟨_, rfl⟩
  rw [← hnn, ← hk] at hk1
  obtain ⟨m, hm⟩ : ∃ m, m = n.tdiv 11 % 1000 := ⟨_, rfl⟩
  have hm0 : 0 ≤ m ∧ m < 1000 := by omega
  rw [← hk] at pc1
  rw [← hm] at pc2 E
  rcases hg1 : genPat vars d ls.tail with ⟨p, r⟩
  rw [hg1] at ih1 ih2 E
  simp only at ih2 E
  have hm70 : m.tmod 70 = m % 70 := Int.tmod_eq_emod_of_nonneg hm0.1
  have h70 : 0 ≤ m % 70 ∧ m % 70 < 70 := by omega
  have hw70 : wrap64 (m % 70) = m % 70 := by rw [wrap64]; omega
  have hw72 : wrap64 (m % 70 - 2) = m % 70 - 2 := by rw [wrap64]; omega
  clear hk hm hnn hd hg1 ih ih2
  have hW := fun ob => (Below.refl w.heap.size w).alloc (Nat.le_refl _) ob
  have hgb : w.heap.size ≠ b := by have := hRd.lt; omega
  have hbl : b < w.heap.size := hRd.lt
  have hgw : w0.heap.size ≤ w.heap.size := hRd.choose_spec.choose_spec.1.size
  go_enter Try.func41, Try.ntmps41
  go_wp2_with fail
  refine (hnx _ (hRd.below (hW _))).mono ?_
  rintro e w1 ⟨rfl, hRd1, hK1⟩
  have hbx : w1.heap[w.heap.size]? = some (.cells #[.int .i64 0, .int .i64 0, .int .i64 0, .int .i64 0, .slice none 0 0] 24 (0, 0)) := hK1.blk (blk_new w _) hgb (by simp)
  have hKK : KeepBut w w1 b none := (KeepBut.of_below (hW _) _ _).trans hK1 (.inl rfl)
  have hg1' : w.heap.size < w1.heap.size := blk_lt hbx
  go_wp2_with fail
  refine (pc1 _).mono ?_
  rintro e w' ⟨rfl, hw'⟩
  subst hw'
  go_wp2_with fail
  refine (pc2 _).mono ?_
  rintro e w' ⟨rfl, hw'⟩
  subst hw'
  obtain ⟨w1, rfl⟩ : ∃ w1 : World, w1 = w' := ⟨_, rfl⟩
  go_wp2_with fail
  refine (ih1 _ hRd1).mono ?_
  rintro e w2 ⟨A, c, rfl, hc, hF, hRd2, hK2⟩
  replace hbx := hK2.blk hbx hgb (by simp)
  replace hKK := hKK.trans hK2 (.inl rfl)
  have hs2 := hK2.1
  have hWW := fun ob => (Below.refl w2.heap.size w2).alloc (Nat.le_refl _) ob
  have hbA := fun ob => blk_below hbx (hWW ob)
  have c0 := fun ob => (blk_cell (hbA ob) 0).trans rfl
  have c1 := fun ob => (blk_cell (hbA ob) 1).trans rfl
  have c2 := fun ob => (blk_cell (hbA ob) 2).trans rfl
  have c3 := fun ob => (blk_cell (hbA ob) 3).trans rfl
  have c4 := fun ob => (blk_cell (hbA ob) 4).trans rfl
  have hfz := fun ob j => blk_frozen (hbA ob) j
  clear hs2
  go_wp2
  refine bodyPost_ret (results_cell_row rfl _ _ w.heap.size 24 _ (0, 0) _ rfl (put5 (hbA _) _ _ _ _ _) Try.underlying24 rfl (by kernel_rfl)) rfl ?_
  rw [E.out]
  have hs2 := hK2.1
  have hN := F_new kPat w2 (fun k => w1.heap.size ≤ k) [p, constP (m % 70 - 2)] _ 24 (Reps.c5 (kPat_mkF w2 _ p hc hF) (Reps.c5 (FK_const w2 _ (m % 70 - 2)) (Reps.none _ _))) (by simp) hs2
  exact ⟨_, 2, rfl, Nat.le_refl _, Kd.F_mono (F_far5 hN (fun k hk e => by omega) _ _ _ _ _) (fun k hk => by omega), (hRd2.below (hWW _)).far5 hgw hgb _ _ _ _ _, keep_far5 (keep_alloc hKK _) (Nat.le_refl _) _ _ _ _ _⟩
set_option maxHeartbeats 1000000 in
set_option maxRecDepth 100000 in
theorem pat_un0 (vars : Int) (hv : 1 ≤ vars) (hv2 : vars ≤ 6) (d : Nat) (hd4 : d < 4) (ih : PatC vars d) (w0 w : World) (b : Nat) (ls : List Int) (hRd : Rd w0 w b ls) (hls : ∀ n ∈ ls, I64 n) (hk1 : 5 ≤ ls.headD 0 % 11 ∧ ls.headD 0 % 11 < 6) (hk2 : (ls.headD 0).tdiv 11 % 1000 % 2 = 0) :
    Calls Try.prog 41 #[.pointer (some ⟨b, 0, none⟩), .int .i64 (4 - (d + 1 : Nat)), .int .i64 vars] w (PatRes w0 w b (genPat vars (d + 1) ls)) := by
  have hls1 := mem_tail_i64 hls
  have ih1 := fun W h => ih w0 W b ls.tail h hls1
  have ih2 := fun W h => ih w0 W b (genPat vars d ls.tail).2 h (genPat_i64 vars d _ hls1)
  obtain ⟨D, hD⟩ : ∃ D : Int, D = 4 - (d + 1 : Nat) := ⟨_, rfl⟩
  have hD1 : (4 - (d : Int)) = D + 1 := by omega
  have hD0 : 0 ≤ D ∧ D ≤ 3 := by omega
  have hwD : wrap64 (D + 1) = D + 1 := by rw [wrap64]; omega
  rw [hD1] at ih1 ih2
  rw [← hD]
  clear hD
  have hn := head_i64 hls
  have hd := tdiv_i64 hn (show (2 : Int) ≤ 11 by decide)
  have hnx := fun W h => Next_calls w0 W b ls h
  obtain ⟨n, hnn⟩ : ∃ n, n = ls.headD 0 := ⟨_, rfl⟩
  have E : Hid (genPat vars (d + 1) ls = (⟨0, 20, 0, 0, [(genPat vars d ls.tail).1]⟩, (genPat vars d ls.tail).2)) := Lib.hid (by (try rw [hnn]); simp only [genPat]; rw [if_neg (by omega), if_neg (by omega), if_neg (by omega), if_pos hk1.2, if_pos hk2])
  rw [← hnn] at hnx hn hd
  have hw : wrap64 (n.tdiv 11) = n.tdiv 11 := by unfold I64 at hd; rw [wrap64]; omega
  have pc1 := fun W => Pick_calls n 11 W (by decide) (by decide)
  have pc2 := fun W => Pick_calls (n.tdiv 11) 1000 W (by decide) (by decide)
  obtain ⟨k, hk⟩ : ∃ k, k = n % 11 := ⟨_, rfl⟩
  rw [← hnn, ← hk] at hk1
  rw [← hnn] at hk2
  obtain ⟨m, hm⟩ : ∃ m, m = n.tdiv 11 % 1000 := ⟨_, rfl⟩
  have hm0 : 0 ≤ m ∧ m < 1000 := by omega
  rw [← hk] at pc1
  rw [← hm] at pc2 hk2
  rcases hg1 : genPat vars d ls.tail with ⟨p, r⟩
  rw [hg1] at ih1 ih2 E
  simp only at ih2 E
  have hm2 : m.tmod 2 = m % 2 := Int.tmod_eq_emod_of_nonneg hm0.1
  have hmx : m % 2 = 0 := hk2
  rw [hmx] at hm2
  clear hk hm hnn hd hg1 ih hmx hk2 ih2
  have hW := fun ob => (Below.refl w.heap.size w).alloc (Nat.le_refl _) ob
  have hgb : w.heap.size ≠ b := by have := hRd.lt; omega
  have hbl : b < w.heap.size := hRd.lt
  have hgw : w0.heap.size ≤ w.heap.size := hRd.choose_spec.choose_spec.1.size
  go_enter Try.func41, Try.ntmps41
  go_wp2_with fail
  refine (hnx _ (hRd.below (hW _))).mono ?_
  rintro e w1 ⟨rfl, hRd1, hK1⟩
  have hbx : w1.heap[w.heap.size]? = some (.cells #[.int .i64 0, .int .i64 0, .int .i64 0, .int .i64 0, .slice none 0 0] 24 (0, 0)) := hK1.blk (blk_new w _) hgb (by simp)
  have hKK : KeepBut w w1 b none := (KeepBut.of_below (hW _) _ _).trans hK1 (.inl rfl)
  have hg1' : w.heap.size < w1.heap.size := blk_lt hbx
  go_wp2_with fail
  refine (pc1 _).mono ?_
  rintro e w' ⟨rfl, hw'⟩
  subst hw'
  go_wp2_with fail
  refine (pc2 _).mono ?_
  rintro e w' ⟨rfl, hw'⟩
  subst hw'
  obtain ⟨w1, rfl⟩ : ∃ w1 : World, w1 = w' := ⟨_, rfl⟩
  go_wp2
  rw [← hwD] at ih1
  refine start_ (n := 13) (S := fun w' => True) (ds := []) (bm 13 0) (by kernel_rfl) rfl rfl trivial (fun hHeld => ?_)
  replace hbx : w1.drew.heap[w.heap.size]? = _ := hbx
  replace hKK : KeepBut w w1.drew b none := hKK
  have hRd : Rd w0 w1.drew b ls.tail := hRd1.below (below_drew (Below.refl _ _))
  replace hg1' : w.heap.size < w1.drew.heap.size := hg1'
  clear hRd1 hK1
  generalize w1.drew = w1d at hbx hKK hRd hg1' ⊢
  have hsz : w1d.heap.size ≤ w1d.heap.size := Nat.le_refl _
  refine pure_ (i := 1) (N := some 54) (v := ?_) (a' := ?_) (bm 13 2) rfl rfl (by kernel_rfl) (fun _ _ _ h => h) (Or.inl ⟨by rfl, ?_⟩) ?_ ?_
  rotate_left
  · intro w'; go_simp; with_reducible rfl
  rotate_left
  · simp only [P4]; rfl
  refine pure_ (i := 2) (N := some 55) (v := ?_) (a' := ?_) (bm 13 6) rfl rfl (by kernel_rfl) (fun _ _ _ h => h) (Or.inl ⟨by rfl, ?_⟩) ?_ ?_
  rotate_left
  · intro w'; go_simp; with_reducible rfl
  rotate_left
  · simp only [P4]; rfl
  refine pure_ (i := 5) (N := some 58) (v := ?_) (a' := ?_) (bm 13 38) rfl rfl (by kernel_rfl) (fun _ _ _ h => h) (Or.inl ⟨by rfl, ?_⟩) ?_ ?_
  rotate_left
  · intro w'; go_simp; with_reducible rfl
  rotate_left
  · simp only [P4]; rfl
  refine pure_ (i := 6) (N := some 59) (v := ?_) (a' := ?_) (bm 13 102) rfl rfl (by kernel_rfl) (fun _ _ _ h => h) (Or.inl ⟨by rfl, ?_⟩) ?_ ?_
  rotate_left
  · intro w'; go_simp; with_reducible rfl
  rotate_left
  · simp only [P4]; rfl
  refine pure_ (i := 7) (N := some 60) (v := ?_) (a' := ?_) (bm 13 230) rfl rfl (by kernel_rfl) (fun _ _ _ h => h) (Or.inl ⟨by rfl, ?_⟩) ?_ ?_
  rotate_left
  · intro w'; go_simp; with_reducible rfl
  rotate_left
  · simp only [P4]; rfl
  refine pure_ (i := 8) (N := some 61) (v := ?_) (a' := ?_) (bm 13 486) rfl rfl (by kernel_rfl) (fun _ _ _ h => h) (Or.inl ⟨by rfl, ?_⟩) ?_ ?_
  rotate_left
  · intro w'; go_simp; with_reducible rfl
  rotate_left
  · simp only [P4]; rfl
  refine join_ (σ := Nat × Nat × Option Addr × Nat) 2 (bm 13 2047) (fun s => [(53, .slice (some ⟨s.1, 0, none⟩) 2 2), (56, .pointer (some ⟨s.1, 0, none⟩)), (57, .int .i64 20), (62, .agg #[.int .i64 p.var, .int .i64 p.op, .int .i64 p.imm, .int .i64 p.immVar, .slice s.2.2.1 p.kids.length s.2.2.2]), (63, .slice (some ⟨s.2.1, 0, none⟩) 1 1)]) (fun s w' => w'.heap[w.heap.size]? = some (.cells #[.int .i64 0, .int .i64 0, .int .i64 0, .int .i64 0, .slice none 0 0] 24 (0, 0)) ∧ Kd.F kPat w' (fun k => w1d.heap.size ≤ k) (some ⟨s.2.1, 0, none⟩) 1 [p] ∧ Rd w0 w' b r ∧ KeepBut w w' b none) ?_ ?_
  rotate_left
  · intro hCont
    refine two_ (i := 0) (j := 9) (Ni := some 53) (Nj := some 62) (bm 13 487) (bm 13 998) rfl rfl rfl rfl (by kernel_rfl) (by decide) (by decide) (fun K hK => ?_) (fun K hK => ?_)
    · skip
      refine value_ (w1 := ?_) (v := ?_) (by rfl) rfl ?_ ?_
      rotate_left 2
      · go_simp
        constructor
        · rfl
        · rfl
      have hg : w1d.heap.size ≠ b := by have := hRd.lt; omega
      have hlit := (blk_cell (blk_new w1d (.cells #[.int .i64 20, .int .i64 21] 3)) 0).trans rfl
      replace hbx := blk_below hbx ((Below.refl _ _).alloc (Nat.le_refl _) (.cells #[.int .i64 20, .int .i64 21] 3))
      replace hRd := hRd.below ((Below.refl _ _).alloc (Nat.le_refl _) (.cells #[.int .i64 20, .int .i64 21] 3))
      replace hKK := keep_alloc hKK (.cells #[.int .i64 20, .int .i64 21] 3)
      replace hsz := Nat.le_trans hsz ((Below.refl _ _).alloc (Nat.le_refl _) (.cells #[.int .i64 20, .int .i64 21] 3)).size
      refine hK.out _ _ trivial (fun hHeld => ?_)
      clear hK K
      refine norm_ (a' := ?_) ?_ ?_
      rotate_left
      · show Act.put _ (some 53) _ = _
        simp only [P4]
        rfl
      refine pure_ (i := 3) (N := some 56) (v := ?_) (a' := ?_) (bm 13 495) rfl rfl (by kernel_rfl) (fun _ _ _ h => h) (Or.inl ⟨by rfl, ?_⟩) ?_ ?_
      rotate_left
      · intro w'; go_simp; with_reducible rfl
      rotate_left
      · simp only [P4]; rfl
      refine two_ (i := 4) (j := 9) (Ni := some 57) (Nj := some 62) (bm 13 511) (bm 13 1007) rfl rfl rfl rfl (by kernel_rfl) (by decide) (by decide) (fun K hK => ?_) (fun K hK => ?_)
      · skip
        refine value_ (w1 := ?_) (v := ?_) (by rfl) rfl ?_ ?_
        rotate_left 2
        · go_simp
          constructor
          · rfl
          · rfl
        refine hK.out _ _ trivial (fun hHeld => ?_)
        clear hK K
        refine norm_ (a' := ?_) ?_ ?_
        rotate_left
        · show Act.put _ (some 57) _ = _
          simp only [P4]
          rfl
        refine one_ (i := 9) (N := some 62) (bm 13 1023) rfl rfl (by kernel_rfl) (by decide) (fun K hK => ?_)
        refine goes_ Try.func41 (by kernel_rfl) rfl #[.pointer (some ⟨b, 0, none⟩), .int .i64 (wrap64 (D + 1)), .int .i64 vars] (by rfl) rfl rfl (by simp only [List.map_toArray, List.map_cons, List.map_nil]; rfl) ?_
        with_reducible refine (ih1 _ hRd).mono ?_
        rintro e w2 ⟨A1, c1, rfl, hc1, hF1, hRdn, hK⟩
        refine ⟨_, rfl, ?_⟩
        replace hbx := hK.blk hbx hgb (by simp)
        replace hKK := hKK.trans hK (.inl rfl)
        replace hF1 := Kd.F_mono hF1 (ok' := fun k => w1d.heap.size ≤ k) (fun k hk => Nat.le_trans hsz hk)
        replace hsz := Nat.le_trans hsz hK.1
        clear hK hRd
        have hRd := hRdn
        clear hRdn
        refine hK.out _ _ trivial (fun hHeld => ?_)
        clear hK K
        refine norm_ (a' := ?_) ?_ ?_
        rotate_left
        · show Act.put _ (some 62) _ = _
          simp only [P4]
          rfl
        refine one_ (i := 10) (N := some 63) (bm 13 2047) rfl rfl (by kernel_rfl) (by decide) (fun K hK => ?_)
        refine value_ (w1 := ?_) (v := ?_) (by rfl) rfl ?_ ?_
        rotate_left 2
        · go_simp
          constructor
          · rfl
          · rfl
        have hN := F_new kPat w2 (fun k => w1d.heap.size ≤ k) [p] _ 24 (Reps.c5 (kPat_mkF _ _ p hc1 hF1) (Reps.none _ _)) (by simp) hsz
        replace hbx := blk_below hbx ((Below.refl _ _).alloc (Nat.le_refl _) (.cells #[.int .i64 p.var, .int .i64 p.op, .int .i64 p.imm, .int .i64 p.immVar, .slice A1 p.kids.length c1] 24))
        replace hRd := hRd.below ((Below.refl _ _).alloc (Nat.le_refl _) (.cells #[.int .i64 p.var, .int .i64 p.op, .int .i64 p.imm, .int .i64 p.immVar, .slice A1 p.kids.length c1] 24))
        replace hKK := keep_alloc hKK (.cells #[.int .i64 p.var, .int .i64 p.op, .int .i64 p.imm, .int .i64 p.immVar, .slice A1 p.kids.length c1] 24)
        replace hsz := Nat.le_trans hsz ((Below.refl _ _).alloc (Nat.le_refl _) (.cells #[.int .i64 p.var, .int .i64 p.op, .int .i64 p.imm, .int .i64 p.immVar, .slice A1 p.kids.length c1] 24)).size
        replace hF1 := Kd.F_alloc hF1 (.cells #[.int .i64 p.var, .int .i64 p.op, .int .i64 p.imm, .int .i64 p.immVar, .slice A1 p.kids.length c1] 24)
        refine hK.out _ _ trivial (fun hHeld => ?_)
        clear hK K
        refine norm_ (a' := ?_) ?_ ?_
        rotate_left
        · show Act.put _ (some 63) _ = _
          simp only [P4]
          rfl
        exact norm_ (by simp only [putAll, P4]) (hCont (w1d.heap.size, w2.heap.size, A1, c1) _ ⟨hbx, hN, hRd, hKK⟩)
      · skip
        refine goes_ Try.func41 (by kernel_rfl) rfl #[.pointer (some ⟨b, 0, none⟩), .int .i64 (wrap64 (D + 1)), .int .i64 vars] (by rfl) rfl rfl (by simp only [List.map_toArray, List.map_cons, List.map_nil]; rfl) ?_
        with_reducible refine (ih1 _ hRd).mono ?_
        rintro e w2 ⟨A1, c1, rfl, hc1, hF1, hRdn, hK⟩
        refine ⟨_, rfl, ?_⟩
        replace hbx := hK.blk hbx hgb (by simp)
        replace hKK := hKK.trans hK (.inl rfl)
        replace hF1 := Kd.F_mono hF1 (ok' := fun k => w1d.heap.size ≤ k) (fun k hk => Nat.le_trans hsz hk)
        replace hlit := keep_cell hK hlit hg
        replace hsz := Nat.le_trans hsz hK.1
        clear hK hRd
        have hRd := hRdn
        clear hRdn
        refine hK.out _ _ trivial (fun hHeld => ?_)
        clear hK K
        refine norm_ (a' := ?_) ?_ ?_
        rotate_left
        · show Act.put _ (some 62) _ = _
          simp only [P4]
          rfl
        refine two_ (i := 4) (j := 10) (Ni := some 57) (Nj := some 63) (bm 13 1023) (bm 13 2031) rfl rfl rfl rfl (by kernel_rfl) (by decide) (by decide) (fun K hK => ?_) (fun K hK => ?_)
        · skip
          refine value_ (w1 := ?_) (v := ?_) (by rfl) rfl ?_ ?_
          rotate_left 2
          · go_simp
            constructor
            · rfl
            · rfl
          refine hK.out _ _ trivial (fun hHeld => ?_)
          clear hK K
          refine norm_ (a' := ?_) ?_ ?_
          rotate_left
          · show Act.put _ (some 57) _ = _
            simp only [P4]
            rfl
          refine one_ (i := 10) (N := some 63) (bm 13 2047) rfl rfl (by kernel_rfl) (by decide) (fun K hK => ?_)
          refine value_ (w1 := ?_) (v := ?_) (by rfl) rfl ?_ ?_
          rotate_left 2
          · go_simp
            constructor
            · rfl
            · rfl
          have hN := F_new kPat w2 (fun k => w1d.heap.size ≤ k) [p] _ 24 (Reps.c5 (kPat_mkF _ _ p hc1 hF1) (Reps.none _ _)) (by simp) hsz
          replace hbx := blk_below hbx ((Below.refl _ _).alloc (Nat.le_refl _) (.cells #[.int .i64 p.var, .int .i64 p.op, .int .i64 p.imm, .int .i64 p.immVar, .slice A1 p.kids.length c1] 24))
          replace hRd := hRd.below ((Below.refl _ _).alloc (Nat.le_refl _) (.cells #[.int .i64 p.var, .int .i64 p.op, .int .i64 p.imm, .int .i64 p.immVar, .slice A1 p.kids.length c1] 24))
          replace hKK := keep_alloc hKK (.cells #[.int .i64 p.var, .int .i64 p.op, .int .i64 p.imm, .int .i64 p.immVar, .slice A1 p.kids.length c1] 24)
          replace hsz := Nat.le_trans hsz ((Below.refl _ _).alloc (Nat.le_refl _) (.cells #[.int .i64 p.var, .int .i64 p.op, .int .i64 p.imm, .int .i64 p.immVar, .slice A1 p.kids.length c1] 24)).size
          replace hF1 := Kd.F_alloc hF1 (.cells #[.int .i64 p.var, .int .i64 p.op, .int .i64 p.imm, .int .i64 p.immVar, .slice A1 p.kids.length c1] 24)
          refine hK.out _ _ trivial (fun hHeld => ?_)
          clear hK K
          refine norm_ (a' := ?_) ?_ ?_
          rotate_left
          · show Act.put _ (some 63) _ = _
            simp only [P4]
            rfl
          exact norm_ (by simp only [putAll, P4]) (hCont (w1d.heap.size, w2.heap.size, A1, c1) _ ⟨hbx, hN, hRd, hKK⟩)
        · skip
          refine value_ (w1 := ?_) (v := ?_) (by rfl) rfl ?_ ?_
          rotate_left 2
          · go_simp
            constructor
            · rfl
            · rfl
          have hN := F_new kPat w2 (fun k => w1d.heap.size ≤ k) [p] _ 24 (Reps.c5 (kPat_mkF _ _ p hc1 hF1) (Reps.none _ _)) (by simp) hsz
          replace hbx := blk_below hbx ((Below.refl _ _).alloc (Nat.le_refl _) (.cells #[.int .i64 p.var, .int .i64 p.op, .int .i64 p.imm, .int .i64 p.immVar, .slice A1 p.kids.length c1] 24))
          replace hRd := hRd.below ((Below.refl _ _).alloc (Nat.le_refl _) (.cells #[.int .i64 p.var, .int .i64 p.op, .int .i64 p.imm, .int .i64 p.immVar, .slice A1 p.kids.length c1] 24))
          replace hKK := keep_alloc hKK (.cells #[.int .i64 p.var, .int .i64 p.op, .int .i64 p.imm, .int .i64 p.immVar, .slice A1 p.kids.length c1] 24)
          replace hsz := Nat.le_trans hsz ((Below.refl _ _).alloc (Nat.le_refl _) (.cells #[.int .i64 p.var, .int .i64 p.op, .int .i64 p.imm, .int .i64 p.immVar, .slice A1 p.kids.length c1] 24)).size
          replace hF1 := Kd.F_alloc hF1 (.cells #[.int .i64 p.var, .int .i64 p.op, .int .i64 p.imm, .int .i64 p.immVar, .slice A1 p.kids.length c1] 24)
          replace hlit := cell_alloc hlit (.cells #[.int .i64 p.var, .int .i64 p.op, .int .i64 p.imm, .int .i64 p.immVar, .slice A1 p.kids.length c1] 24)
          refine hK.out _ _ trivial (fun hHeld => ?_)
          clear hK K
          refine norm_ (a' := ?_) ?_ ?_
          rotate_left
          · show Act.put _ (some 63) _ = _
            simp only [P4]
            rfl
          refine one_ (i := 4) (N := some 57) (bm 13 2047) rfl rfl (by kernel_rfl) (by decide) (fun K hK => ?_)
          refine value_ (w1 := ?_) (v := ?_) (by rfl) rfl ?_ ?_
          rotate_left 2
          · go_simp
            constructor
            · rfl
            · rfl
          refine hK.out _ _ trivial (fun hHeld => ?_)
          clear hK K
          refine norm_ (a' := ?_) ?_ ?_
          rotate_left
          · show Act.put _ (some 57) _ = _
            simp only [P4]
            rfl
          exact norm_ (by simp only [putAll, P4]) (hCont (w1d.heap.size, w2.heap.size, A1, c1) _ ⟨hbx, hN, hRd, hKK⟩)
    · skip
      refine goes_ Try.func41 (by kernel_rfl) rfl #[.pointer (some ⟨b, 0, none⟩), .int .i64 (wrap64 (D + 1)), .int .i64 vars] (by rfl) rfl rfl (by simp only [List.map_toArray, List.map_cons, List.map_nil]; rfl) ?_
      with_reducible refine (ih1 _ hRd).mono ?_
      rintro e w2 ⟨A1, c1, rfl, hc1, hF1, hRdn, hK⟩
      refine ⟨_, rfl, ?_⟩
      replace hbx := hK.blk hbx hgb (by simp)
      replace hKK := hKK.trans hK (.inl rfl)
      replace hF1 := Kd.F_mono hF1 (ok' := fun k => w1d.heap.size ≤ k) (fun k hk => Nat.le_trans hsz hk)
      replace hsz := Nat.le_trans hsz hK.1
      clear hK hRd
      have hRd := hRdn
      clear hRdn
      refine hK.out _ _ trivial (fun hHeld => ?_)
      clear hK K
      refine norm_ (a' := ?_) ?_ ?_
      rotate_left
      · show Act.put _ (some 62) _ = _
        simp only [P4]
        rfl
      refine two_ (i := 0) (j := 10) (Ni := some 53) (Nj := some 63) (bm 13 999) (bm 13 2022) rfl rfl rfl rfl (by kernel_rfl) (by decide) (by decide) (fun K hK => ?_) (fun K hK => ?_)
      · skip
        refine value_ (w1 := ?_) (v := ?_) (by rfl) rfl ?_ ?_
        rotate_left 2
        · go_simp
          constructor
          · rfl
          · rfl
        have hg : w2.heap.size ≠ b := by have := hRd.lt; omega
        have hlit := (blk_cell (blk_new w2 (.cells #[.int .i64 20, .int .i64 21] 3)) 0).trans rfl
        replace hbx := blk_below hbx ((Below.refl _ _).alloc (Nat.le_refl _) (.cells #[.int .i64 20, .int .i64 21] 3))
        replace hRd := hRd.below ((Below.refl _ _).alloc (Nat.le_refl _) (.cells #[.int .i64 20, .int .i64 21] 3))
        replace hKK := keep_alloc hKK (.cells #[.int .i64 20, .int .i64 21] 3)
        replace hsz := Nat.le_trans hsz ((Below.refl _ _).alloc (Nat.le_refl _) (.cells #[.int .i64 20, .int .i64 21] 3)).size
        replace hF1 := Kd.F_alloc hF1 (.cells #[.int .i64 20, .int .i64 21] 3)
        refine hK.out _ _ trivial (fun hHeld => ?_)
        clear hK K
        refine norm_ (a' := ?_) ?_ ?_
        rotate_left
        · show Act.put _ (some 53) _ = _
          simp only [P4]
          rfl
        refine pure_ (i := 3) (N := some 56) (v := ?_) (a' := ?_) (bm 13 1007) rfl rfl (by kernel_rfl) (fun _ _ _ h => h) (Or.inl ⟨by rfl, ?_⟩) ?_ ?_
        rotate_left
        · intro w'; go_simp; with_reducible rfl
        rotate_left
        · simp only [P4]; rfl
        refine two_ (i := 4) (j := 10) (Ni := some 57) (Nj := some 63) (bm 13 1023) (bm 13 2031) rfl rfl rfl rfl (by kernel_rfl) (by decide) (by decide) (fun K hK => ?_) (fun K hK => ?_)
        · skip
          refine value_ (w1 := ?_) (v := ?_) (by rfl) rfl ?_ ?_
          rotate_left 2
          · go_simp
            constructor
            · rfl
            · rfl
          refine hK.out _ _ trivial (fun hHeld => ?_)
          clear hK K
          refine norm_ (a' := ?_) ?_ ?_
          rotate_left
          · show Act.put _ (some 57) _ = _
            simp only [P4]
            rfl
          refine one_ (i := 10) (N := some 63) (bm 13 2047) rfl rfl (by kernel_rfl) (by decide) (fun K hK => ?_)
          refine value_ (w1 := ?_) (v := ?_) (by rfl) rfl ?_ ?_
          rotate_left 2
          · go_simp
            constructor
            · rfl
            · rfl
          have hN := F_new kPat (w2.alloc (.cells #[.int .i64 20, .int .i64 21] 3)) (fun k => w1d.heap.size ≤ k) [p] _ 24 (Reps.c5 (kPat_mkF _ _ p hc1 hF1) (Reps.none _ _)) (by simp) hsz
          simp only [World.size_alloc] at hN
          replace hbx := blk_below hbx ((Below.refl _ _).alloc (Nat.le_refl _) (.cells #[.int .i64 p.var, .int .i64 p.op, .int .i64 p.imm, .int .i64 p.immVar, .slice A1 p.kids.length c1] 24))
          replace hRd := hRd.below ((Below.refl _ _).alloc (Nat.le_refl _) (.cells #[.int .i64 p.var, .int .i64 p.op, .int .i64 p.imm, .int .i64 p.immVar, .slice A1 p.kids.length c1] 24))
          replace hKK := keep_alloc hKK (.cells #[.int .i64 p.var, .int .i64 p.op, .int .i64 p.imm, .int .i64 p.immVar, .slice A1 p.kids.length c1] 24)
          replace hsz := Nat.le_trans hsz ((Below.refl _ _).alloc (Nat.le_refl _) (.cells #[.int .i64 p.var, .int .i64 p.op, .int .i64 p.imm, .int .i64 p.immVar, .slice A1 p.kids.length c1] 24)).size
          replace hF1 := Kd.F_alloc hF1 (.cells #[.int .i64 p.var, .int .i64 p.op, .int .i64 p.imm, .int .i64 p.immVar, .slice A1 p.kids.length c1] 24)
          refine hK.out _ _ trivial (fun hHeld => ?_)
          clear hK K
          refine norm_ (a' := ?_) ?_ ?_
          rotate_left
          · show Act.put _ (some 63) _ = _
            simp only [P4]
            rfl
          exact norm_ (by simp only [putAll, P4]) (hCont (w2.heap.size, w2.heap.size + 1, A1, c1) _ ⟨hbx, hN, hRd, hKK⟩)
        · skip
          refine value_ (w1 := ?_) (v := ?_) (by rfl) rfl ?_ ?_
          rotate_left 2
          · go_simp
            constructor
            · rfl
            · rfl
          have hN := F_new kPat (w2.alloc (.cells #[.int .i64 20, .int .i64 21] 3)) (fun k => w1d.heap.size ≤ k) [p] _ 24 (Reps.c5 (kPat_mkF _ _ p hc1 hF1) (Reps.none _ _)) (by simp) hsz
          simp only [World.size_alloc] at hN
          replace hbx := blk_below hbx ((Below.refl _ _).alloc (Nat.le_refl _) (.cells #[.int .i64 p.var, .int .i64 p.op, .int .i64 p.imm, .int .i64 p.immVar, .slice A1 p.kids.length c1] 24))
          replace hRd := hRd.below ((Below.refl _ _).alloc (Nat.le_refl _) (.cells #[.int .i64 p.var, .int .i64 p.op, .int .i64 p.imm, .int .i64 p.immVar, .slice A1 p.kids.length c1] 24))
          replace hKK := keep_alloc hKK (.cells #[.int .i64 p.var, .int .i64 p.op, .int .i64 p.imm, .int .i64 p.immVar, .slice A1 p.kids.length c1] 24)
          replace hsz := Nat.le_trans hsz ((Below.refl _ _).alloc (Nat.le_refl _) (.cells #[.int .i64 p.var, .int .i64 p.op, .int .i64 p.imm, .int .i64 p.immVar, .slice A1 p.kids.length c1] 24)).size
          replace hF1 := Kd.F_alloc hF1 (.cells #[.int .i64 p.var, .int .i64 p.op, .int .i64 p.imm, .int .i64 p.immVar, .slice A1 p.kids.length c1] 24)
          replace hlit := cell_alloc hlit (.cells #[.int .i64 p.var, .int .i64 p.op, .int .i64 p.imm, .int .i64 p.immVar, .slice A1 p.kids.length c1] 24)
          refine hK.out _ _ trivial (fun hHeld => ?_)
          clear hK K
          refine norm_ (a' := ?_) ?_ ?_
          rotate_left
          · show Act.put _ (some 63) _ = _
            simp only [P4]
            rfl
          refine one_ (i := 4) (N := some 57) (bm 13 2047) rfl rfl (by kernel_rfl) (by decide) (fun K hK => ?_)
          refine value_ (w1 := ?_) (v := ?_) (by rfl) rfl ?_ ?_
          rotate_left 2
          · go_simp
            constructor
            · rfl
            · rfl
          refine hK.out _ _ trivial (fun hHeld => ?_)
          clear hK K
          refine norm_ (a' := ?_) ?_ ?_
          rotate_left
          · show Act.put _ (some 57) _ = _
            simp only [P4]
            rfl
          exact norm_ (by simp only [putAll, P4]) (hCont (w2.heap.size, w2.heap.size + 1, A1, c1) _ ⟨hbx, hN, hRd, hKK⟩)
      · skip
        refine value_ (w1 := ?_) (v := ?_) (by rfl) rfl ?_ ?_
        rotate_left 2
        · go_simp
          constructor
          · rfl
          · rfl
        have hN := F_new kPat w2 (fun k => w1d.heap.size ≤ k) [p] _ 24 (Reps.c5 (kPat_mkF _ _ p hc1 hF1) (Reps.none _ _)) (by simp) hsz
        replace hbx := blk_below hbx ((Below.refl _ _).alloc (Nat.le_refl _) (.cells #[.int .i64 p.var, .int .i64 p.op, .int .i64 p.imm, .int .i64 p.immVar, .slice A1 p.kids.length c1] 24))
        replace hRd := hRd.below ((Below.refl _ _).alloc (Nat.le_refl _) (.cells #[.int .i64 p.var, .int .i64 p.op, .int .i64 p.imm, .int .i64 p.immVar, .slice A1 p.kids.length c1] 24))
        replace hKK := keep_alloc hKK (.cells #[.int .i64 p.var, .int .i64 p.op, .int .i64 p.imm, .int .i64 p.immVar, .slice A1 p.kids.length c1] 24)
        replace hsz := Nat.le_trans hsz ((Below.refl _ _).alloc (Nat.le_refl _) (.cells #[.int .i64 p.var, .int .i64 p.op, .int .i64 p.imm, .int .i64 p.immVar, .slice A1 p.kids.length c1] 24)).size
        replace hF1 := Kd.F_alloc hF1 (.cells #[.int .i64 p.var, .int .i64 p.op, .int .i64 p.imm, .int .i64 p.immVar, .slice A1 p.kids.length c1] 24)
        refine hK.out _ _ trivial (fun hHeld => ?_)
        clear hK K
        refine norm_ (a' := ?_) ?_ ?_
        rotate_left
        · show Act.put _ (some 63) _ = _
          simp only [P4]
          rfl
        refine one_ (i := 0) (N := some 53) (bm 13 2023) rfl rfl (by kernel_rfl) (by decide) (fun K hK => ?_)
        refine value_ (w1 := ?_) (v := ?_) (by rfl) rfl ?_ ?_
        rotate_left 2
        · go_simp
          constructor
          · rfl
          · rfl
        have hg : (w2.alloc (.cells #[.int .i64 p.var, .int .i64 p.op, .int .i64 p.imm, .int .i64 p.immVar, .slice A1 p.kids.length c1] 24)).heap.size ≠ b := by have := hRd.lt; omega
        have hlit := (blk_cell (blk_new (w2.alloc (.cells #[.int .i64 p.var, .int .i64 p.op, .int .i64 p.imm, .int .i64 p.immVar, .slice A1 p.kids.length c1] 24)) (.cells #[.int .i64 20, .int .i64 21] 3)) 0).trans rfl
        replace hbx := blk_below hbx ((Below.refl _ _).alloc (Nat.le_refl _) (.cells #[.int .i64 20, .int .i64 21] 3))
        replace hRd := hRd.below ((Below.refl _ _).alloc (Nat.le_refl _) (.cells #[.int .i64 20, .int .i64 21] 3))
        replace hKK := keep_alloc hKK (.cells #[.int .i64 20, .int .i64 21] 3)
        replace hsz := Nat.le_trans hsz ((Below.refl _ _).alloc (Nat.le_refl _) (.cells #[.int .i64 20, .int .i64 21] 3)).size
        replace hF1 := Kd.F_alloc hF1 (.cells #[.int .i64 20, .int .i64 21] 3)
        replace hN := Kd.F_alloc hN (.cells #[.int .i64 20, .int .i64 21] 3)
        refine hK.out _ _ trivial (fun hHeld => ?_)
        clear hK K
        refine norm_ (a' := ?_) ?_ ?_
        rotate_left
        · show Act.put _ (some 53) _ = _
          simp only [P4]
          rfl
        refine pure_ (i := 3) (N := some 56) (v := ?_) (a' := ?_) (bm 13 2031) rfl rfl (by kernel_rfl) (fun _ _ _ h => h) (Or.inl ⟨by rfl, ?_⟩) ?_ ?_
        rotate_left
        · intro w'; go_simp; with_reducible rfl
        rotate_left
        · simp only [P4]; rfl
        refine one_ (i := 4) (N := some 57) (bm 13 2047) rfl rfl (by kernel_rfl) (by decide) (fun K hK => ?_)
        refine value_ (w1 := ?_) (v := ?_) (by rfl) rfl ?_ ?_
        rotate_left 2
        · go_simp
          constructor
          · rfl
          · rfl
        refine hK.out _ _ trivial (fun hHeld => ?_)
        clear hK K
        refine norm_ (a' := ?_) ?_ ?_
        rotate_left
        · show Act.put _ (some 57) _ = _
          simp only [P4]
          rfl
        exact norm_ (by simp only [putAll, P4]) (hCont (w2.heap.size + 1, w2.heap.size, A1, c1) _ ⟨hbx, hN, hRd, hKK⟩)
  rintro ⟨g, gk, A1, c1⟩ w3 ⟨hbx, hN, hRd, hKK⟩
  have hHeld : True := trivial
  refine norm_ (a' := ?_) ?_ ?_
  rotate_left
  · simp only [putAll, P4]
    rfl
  refine pure_ (i := 11) (N := some 64) (v := ?_) (a' := ?_) (bm 13 4095) rfl rfl (by kernel_rfl) (fun _ _ _ h => h) (Or.inl ⟨by rfl, ?_⟩) ?_ ?_
  rotate_left
  · intro w'; go_simp; with_reducible rfl
  rotate_left
  · simp only [P4]; rfl
  refine one_ (i := 12) (N := none) (bm 13 8191) rfl rfl (by kernel_rfl) (by decide) (fun K hK => ?_)
  have c0 := (blk_cell hbx 0).trans rfl
  have c1 := (blk_cell hbx 1).trans rfl
  have c2 := (blk_cell hbx 2).trans rfl
  have c3 := (blk_cell hbx 3).trans rfl
  have c4 := (blk_cell hbx 4).trans rfl
  have hfz := fun j => blk_frozen hbx j
  refine skip_ (w1 := ?_) (by rfl) rfl ?_ ?_
  rotate_left
  · go_simp
    rfl
  refine hK.out _ _ trivial (fun hHeld => ?_)
  clear hK K
  refine done_ (by kernel_rfl) ?_
  go_wp2
  refine bodyPost_ret (results_cell_row rfl _ _ w.heap.size 24 _ (0, 0) _ rfl (put5 hbx _ _ _ _ _) Try.underlying24 rfl (by kernel_rfl)) rfl ?_
  rw [E.out]
  exact ⟨_, 1, rfl, Nat.le_refl _, Kd.F_mono (F_far5 hN (fun k hk e => by omega) _ _ _ _ _) (fun k hk => by omega), hRd.far5 hgw hgb _ _ _ _ _, keep_far5 hKK (Nat.le_refl _) _ _ _ _ _⟩
set_option maxHeartbeats 1000000 in
set_option maxRecDepth 100000 in
theorem pat_un1 (vars : Int) (hv : 1 ≤ vars) (hv2 : vars ≤ 6) (d : Nat) (hd4 : d < 4) (ih : PatC vars d) (w0 w : World) (b : Nat) (ls : List Int) (hRd : Rd w0 w b ls) (hls : ∀ n ∈ ls, I64 n) (hk1 : 5 ≤ ls.headD 0 % 11 ∧ ls.headD 0 % 11 < 6) (hk2 : (ls.headD 0).tdiv 11 % 1000 % 2 = 1) :
    Calls Try.prog 41 #[.pointer (some ⟨b, 0, none⟩), .int .i64 (4 - (d + 1 : Nat)), .int .i64 vars] w (PatRes w0 w b (genPat vars (d + 1) ls)) := by
  have hls1 := mem_tail_i64 hls
  have ih1 := fun W h => ih w0 W b ls.tail h hls1
  have ih2 := fun W h => ih w0 W b (genPat vars d ls.tail).2 h (genPat_i64 vars d _ hls1)
  obtain ⟨D, hD⟩ : ∃ D : Int, D = 4 - (d + 1 : Nat) := ⟨_, rfl⟩
  have hD1 : (4 - (d : Int)) = D + 1 := by omega
  have hD0 : 0 ≤ D ∧ D ≤ 3 := by omega
  have hwD : wrap64 (D + 1) = D + 1 := by rw [wrap64]; omega
  rw [hD1] at ih1 ih2
  rw [← hD]
  clear hD
  have hn := head_i64 hls
  have hd := tdiv_i64 hn (show (2 : Int) ≤ 11 by decide)
  have hnx := fun W h => Next_calls w0 W b ls h
  obtain ⟨n, hnn⟩ : ∃ n, n = ls.headD 0 := ⟨_, rfl⟩
  have E : Hid (genPat vars (d + 1) ls = (⟨0, 21, 0, 0, [(genPat vars d ls.tail).1]⟩, (genPat vars d ls.tail).2)) := Lib.hid (by (try rw [hnn]); simp only [genPat]; rw [if_neg (by omega), if_neg (by omega), if_neg (by omega), if_pos hk1.2, if_neg (by omega)])
  rw [← hnn] at hnx hn hd
  have hw : wrap64 (n.tdiv 11) = n.tdiv 11 := by unfold I64 at hd; rw [wrap64]; omega
  have pc1 := fun W => Pick_calls n 11 W (by decide) (by decide)
  have pc2 := fun W => Pick_calls (n.tdiv 11) 1000 W (by decide) (by decide)
  obtain ⟨k, hk⟩ : ∃ k, k = n % 11 := ⟨_, rfl⟩
  rw [← hnn, ← hk] at hk1
  rw [← hnn] at hk2
  obtain ⟨m, hm⟩ : ∃ m, m = n.tdiv 11 % 1000 := ⟨_, rfl⟩
  have hm0 : 0 ≤ m ∧ m < 1000 := by omega
  rw [← hk] at pc1
  rw [← hm] at pc2 hk2
  rcases hg1 : genPat vars d ls.tail with ⟨p, r⟩
  rw [hg1] at ih1 ih2 E
  simp only at ih2 E
  have hm2 : m.tmod 2 = m % 2 := Int.tmod_eq_emod_of_nonneg hm0.1
  have hmx : m % 2 = 1 := hk2
  rw [hmx] at hm2
  clear hk hm hnn hd hg1 ih hmx hk2 ih2
  have hW := fun ob => (Below.refl w.heap.size w).alloc (Nat.le_refl _) ob
  have hgb : w.heap.size ≠ b := by have := hRd.lt; omega
  have hbl : b < w.heap.size := hRd.lt
  have hgw : w0.heap.size ≤ w.heap.size := hRd.choose_spec.choose_spec.1.size
  go_enter Try.func41, Try.ntmps41
  go_wp2_with fail
  refine (hnx _ (hRd.below (hW _))).mono ?_
  rintro e w1 ⟨rfl, hRd1, hK1⟩
  have hbx : w1.heap[w.heap.size]? = some (.cells #[.int .i64 0, .int .i64 0, .int .i64 0, .int .i64 0, .slice none 0 0] 24 (0, 0)) := hK1.blk (blk_new w _) hgb (by simp)
  have hKK : KeepBut w w1 b none := (KeepBut.of_below (hW _) _ _).trans hK1 (.inl rfl)
  have hg1' : w.heap.size < w1.heap.size := blk_lt hbx
  go_wp2_with fail
  refine (pc1 _).mono ?_
  rintro e w' ⟨rfl, hw'⟩
  subst hw'
  go_wp2_with fail
  refine (pc2 _).mono ?_
  rintro e w' ⟨rfl, hw'⟩
  subst hw'
  obtain ⟨w1, rfl⟩ : ∃ w1 : World, w1 = w' := ⟨_, rfl⟩
  go_wp2
  rw [← hwD] at ih1
  refine start_ (n := 13) (S := fun w' => True) (ds := []) (bm 13 0) (by kernel_rfl) rfl rfl trivial (fun hHeld => ?_)
  replace hbx : w1.drew.heap[w.heap.size]? = _ := hbx
  replace hKK : KeepBut w w1.drew b none := hKK
  have hRd : Rd w0 w1.drew b ls.tail := hRd1.below (below_drew (Below.refl _ _))
  replace hg1' : w.heap.size < w1.drew.heap.size := hg1'
  clear hRd1 hK1
  generalize w1.drew = w1d at hbx hKK hRd hg1' ⊢
  have hsz : w1d.heap.size ≤ w1d.heap.size := Nat.le_refl _
  refine pure_ (i := 1) (N := some 54) (v := ?_) (a' := ?_) (bm 13 2) rfl rfl (by kernel_rfl) (fun _ _ _ h => h) (Or.inl ⟨by rfl, ?_⟩) ?_ ?_
  rotate_left
  · intro w'; go_simp; with_reducible rfl
  rotate_left
  · simp only [P4]; rfl
  refine pure_ (i := 2) (N := some 55) (v := ?_) (a' := ?_) (bm 13 6) rfl rfl (by kernel_rfl) (fun _ _ _ h => h) (Or.inl ⟨by rfl, ?_⟩) ?_ ?_
  rotate_left
  · intro w'; go_simp; with_reducible rfl
  rotate_left
  · simp only [P4]; rfl
  refine pure_ (i := 5) (N := some 58) (v := ?_) (a' := ?_) (bm 13 38) rfl rfl (by kernel_rfl) (fun _ _ _ h => h) (Or.inl ⟨by rfl, ?_⟩) ?_ ?_
  rotate_left
  · intro w'; go_simp; with_reducible rfl
  rotate_left
  · simp only [P4]; rfl
  refine pure_ (i := 6) (N := some 59) (v := ?_) (a' := ?_) (bm 13 102) rfl rfl (by kernel_rfl) (fun _ _ _ h => h) (Or.inl ⟨by rfl, ?_⟩) ?_ ?_
  rotate_left
  · intro w'; go_simp; with_reducible rfl
  rotate_left
  · simp only [P4]; rfl
  refine pure_ (i := 7) (N := some 60) (v := ?_) (a' := ?_) (bm 13 230) rfl rfl (by kernel_rfl) (fun _ _ _ h => h) (Or.inl ⟨by rfl, ?_⟩) ?_ ?_
  rotate_left
  · intro w'; go_simp; with_reducible rfl
  rotate_left
  · simp only [P4]; rfl
  refine pure_ (i := 8) (N := some 61) (v := ?_) (a' := ?_) (bm 13 486) rfl rfl (by kernel_rfl) (fun _ _ _ h => h) (Or.inl ⟨by rfl, ?_⟩) ?_ ?_
  rotate_left
  · intro w'; go_simp; with_reducible rfl
  rotate_left
  · simp only [P4]; rfl
  refine join_ (σ := Nat × Nat × Option Addr × Nat) 2 (bm 13 2047) (fun s => [(53, .slice (some ⟨s.1, 0, none⟩) 2 2), (56, .pointer (some ⟨s.1, 1, none⟩)), (57, .int .i64 21), (62, .agg #[.int .i64 p.var, .int .i64 p.op, .int .i64 p.imm, .int .i64 p.immVar, .slice s.2.2.1 p.kids.length s.2.2.2]), (63, .slice (some ⟨s.2.1, 0, none⟩) 1 1)]) (fun s w' => w'.heap[w.heap.size]? = some (.cells #[.int .i64 0, .int .i64 0, .int .i64 0, .int .i64 0, .slice none 0 0] 24 (0, 0)) ∧ Kd.F kPat w' (fun k => w1d.heap.size ≤ k) (some ⟨s.2.1, 0, none⟩) 1 [p] ∧ Rd w0 w' b r ∧ KeepBut w w' b none) ?_ ?_
  rotate_left
  · intro hCont
    refine two_ (i := 0) (j := 9) (Ni := some 53) (Nj := some 62) (bm 13 487) (bm 13 998) rfl rfl rfl rfl (by kernel_rfl) (by decide) (by decide) (fun K hK => ?_) (fun K hK => ?_)
    · skip
      refine value_ (w1 := ?_) (v := ?_) (by rfl) rfl ?_ ?_
      rotate_left 2
      · go_simp
        constructor
        · rfl
        · rfl
      have hg : w1d.heap.size ≠ b := by have := hRd.lt; omega
      have hlit := (blk_cell (blk_new w1d (.cells #[.int .i64 20, .int .i64 21] 3)) 1).trans rfl
      replace hbx := blk_below hbx ((Below.refl _ _).alloc (Nat.le_refl _) (.cells #[.int .i64 20, .int .i64 21] 3))
      replace hRd := hRd.below ((Below.refl _ _).alloc (Nat.le_refl _) (.cells #[.int .i64 20, .int .i64 21] 3))
      replace hKK := keep_alloc hKK (.cells #[.int .i64 20, .int .i64 21] 3)
      replace hsz := Nat.le_trans hsz ((Below.refl _ _).alloc (Nat.le_refl _) (.cells #[.int .i64 20, .int .i64 21] 3)).size
      refine hK.out _ _ trivial (fun hHeld => ?_)
      clear hK K
      refine norm_ (a' := ?_) ?_ ?_
      rotate_left
      · show Act.put _ (some 53) _ = _
        simp only [P4]
        rfl
      refine pure_ (i := 3) (N := some 56) (v := ?_) (a' := ?_) (bm 13 495) rfl rfl (by kernel_rfl) (fun _ _ _ h => h) (Or.inl ⟨by rfl, ?_⟩) ?_ ?_
      rotate_left
      · intro w'; go_simp; with_reducible rfl
      rotate_left
      · simp only [P4]; rfl
      refine two_ (i := 4) (j := 9) (Ni := some 57) (Nj := some 62) (bm 13 511) (bm 13 1007) rfl rfl rfl rfl (by kernel_rfl) (by decide) (by decide) (fun K hK => ?_) (fun K hK => ?_)
      · skip
        refine value_ (w1 := ?_) (v := ?_) (by rfl) rfl ?_ ?_
        rotate_left 2
        · go_simp
          constructor
          · rfl
          · rfl
        refine hK.out _ _ trivial (fun hHeld => ?_)
        clear hK K
        refine norm_ (a' := ?_) ?_ ?_
        rotate_left
        · show Act.put _ (some 57) _ = _
          simp only [P4]
          rfl
        refine one_ (i := 9) (N := some 62) (bm 13 1023) rfl rfl (by kernel_rfl) (by decide) (fun K hK => ?_)
        refine goes_ Try.func41 (by kernel_rfl) rfl #[.pointer (some ⟨b, 0, none⟩), .int .i64 (wrap64 (D + 1)), .int .i64 vars] (by rfl) rfl rfl (by simp only [List.map_toArray, List.map_cons, List.map_nil]; rfl) ?_
        with_reducible refine (ih1 _ hRd).mono ?_
        rintro e w2 ⟨A1, c1, rfl, hc1, hF1, hRdn, hK⟩
        refine ⟨_, rfl, ?_⟩
        replace hbx := hK.blk hbx hgb (by simp)
        replace hKK := hKK.trans hK (.inl rfl)
        replace hF1 := Kd.F_mono hF1 (ok' := fun k => w1d.heap.size ≤ k) (fun k hk => Nat.le_trans hsz hk)
        replace hsz := Nat.le_trans hsz hK.1
        clear hK hRd
        have hRd := hRdn
        clear hRdn
        refine hK.out _ _ trivial (fun hHeld => ?_)
        clear hK K
        refine norm_ (a' := ?_) ?_ ?_
        rotate_left
        · show Act.put _ (some 62) _ = _
          simp only [P4]
          rfl
        refine one_ (i := 10) (N := some 63) (bm 13 2047) rfl rfl (by kernel_rfl) (by decide) (fun K hK => ?_)
        refine value_ (w1 := ?_) (v := ?_) (by rfl) rfl ?_ ?_
        rotate_left 2
        · go_simp
          constructor
          · rfl
          · rfl
        have hN := F_new kPat w2 (fun k => w1d.heap.size ≤ k) [p] _ 24 (Reps.c5 (kPat_mkF _ _ p hc1 hF1) (Reps.none _ _)) (by simp) hsz
        replace hbx := blk_below hbx ((Below.refl _ _).alloc (Nat.le_refl _) (.cells #[.int .i64 p.var, .int .i64 p.op, .int .i64 p.imm, .int .i64 p.immVar, .slice A1 p.kids.length c1] 24))
        replace hRd := hRd.below ((Below.refl _ _).alloc (Nat.le_refl _) (.cells #[.int .i64 p.var, .int .i64 p.op, .int .i64 p.imm, .int .i64 p.immVar, .slice A1 p.kids.length c1] 24))
        replace hKK := keep_alloc hKK (.cells #[.int .i64 p.var, .int .i64 p.op, .int .i64 p.imm, .int .i64 p.immVar, .slice A1 p.kids.length c1] 24)
        replace hsz := Nat.le_trans hsz ((Below.refl _ _).alloc (Nat.le_refl _) (.cells #[.int .i64 p.var, .int .i64 p.op, .int .i64 p.imm, .int .i64 p.immVar, .slice A1 p.kids.length c1] 24)).size
        replace hF1 := Kd.F_alloc hF1 (.cells #[.int .i64 p.var, .int .i64 p.op, .int .i64 p.imm, .int .i64 p.immVar, .slice A1 p.kids.length c1] 24)
        refine hK.out _ _ trivial (fun hHeld => ?_)
        clear hK K
        refine norm_ (a' := ?_) ?_ ?_
        rotate_left
        · show Act.put _ (some 63) _ = _
          simp only [P4]
          rfl
        exact norm_ (by simp only [putAll, P4]) (hCont (w1d.heap.size, w2.heap.size, A1, c1) _ ⟨hbx, hN, hRd, hKK⟩)
      · skip
        refine goes_ Try.func41 (by kernel_rfl) rfl #[.pointer (some ⟨b, 0, none⟩), .int .i64 (wrap64 (D + 1)), .int .i64 vars] (by rfl) rfl rfl (by simp only [List.map_toArray, List.map_cons, List.map_nil]; rfl) ?_
        with_reducible refine (ih1 _ hRd).mono ?_
        rintro e w2 ⟨A1, c1, rfl, hc1, hF1, hRdn, hK⟩
        refine ⟨_, rfl, ?_⟩
        replace hbx := hK.blk hbx hgb (by simp)
        replace hKK := hKK.trans hK (.inl rfl)
        replace hF1 := Kd.F_mono hF1 (ok' := fun k => w1d.heap.size ≤ k) (fun k hk => Nat.le_trans hsz hk)
        replace hlit := keep_cell hK hlit hg
        replace hsz := Nat.le_trans hsz hK.1
        clear hK hRd
        have hRd := hRdn
        clear hRdn
        refine hK.out _ _ trivial (fun hHeld => ?_)
        clear hK K
        refine norm_ (a' := ?_) ?_ ?_
        rotate_left
        · show Act.put _ (some 62) _ = _
          simp only [P4]
          rfl
        refine two_ (i := 4) (j := 10) (Ni := some 57) (Nj := some 63) (bm 13 1023) (bm 13 2031) rfl rfl rfl rfl (by kernel_rfl) (by decide) (by decide) (fun K hK => ?_) (fun K hK => ?_)
        · skip
          refine value_ (w1 := ?_) (v := ?_) (by rfl) rfl ?_ ?_
          rotate_left 2
          · go_simp
            constructor
            · rfl
            · rfl
          refine hK.out _ _ trivial (fun hHeld => ?_)
          clear hK K
          refine norm_ (a' := ?_) ?_ ?_
          rotate_left
          · show Act.put _ (some 57) _ = _
            simp only [P4]
            rfl
          refine one_ (i := 10) (N := some 63) (bm 13 2047) rfl rfl (by kernel_rfl) (by decide) (fun K hK => ?_)
          refine value_ (w1 := ?_) (v := ?_) (by rfl) rfl ?_ ?_
          rotate_left 2
          · go_simp
            constructor
            · rfl
            · rfl
          have hN := F_new kPat w2 (fun k => w1d.heap.size ≤ k) [p] _ 24 (Reps.c5 (kPat_mkF _ _ p hc1 hF1) (Reps.none _ _)) (by simp) hsz
          replace hbx := blk_below hbx ((Below.refl _ _).alloc (Nat.le_refl _) (.cells #[.int .i64 p.var, .int .i64 p.op, .int .i64 p.imm, .int .i64 p.immVar, .slice A1 p.kids.length c1] 24))
          replace hRd := hRd.below ((Below.refl _ _).alloc (Nat.le_refl _) (.cells #[.int .i64 p.var, .int .i64 p.op, .int .i64 p.imm, .int .i64 p.immVar, .slice A1 p.kids.length c1] 24))
          replace hKK := keep_alloc hKK (.cells #[.int .i64 p.var, .int .i64 p.op, .int .i64 p.imm, .int .i64 p.immVar, .slice A1 p.kids.length c1] 24)
          replace hsz := Nat.le_trans hsz ((Below.refl _ _).alloc (Nat.le_refl _) (.cells #[.int .i64 p.var, .int .i64 p.op, .int .i64 p.imm, .int .i64 p.immVar, .slice A1 p.kids.length c1] 24)).size
          replace hF1 := Kd.F_alloc hF1 (.cells #[.int .i64 p.var, .int .i64 p.op, .int .i64 p.imm, .int .i64 p.immVar, .slice A1 p.kids.length c1] 24)
          refine hK.out _ _ trivial (fun hHeld => ?_)
          clear hK K
          refine norm_ (a' := ?_) ?_ ?_
          rotate_left
          · show Act.put _ (some 63) _ = _
            simp only [P4]
            rfl
          exact norm_ (by simp only [putAll, P4]) (hCont (w1d.heap.size, w2.heap.size, A1, c1) _ ⟨hbx, hN, hRd, hKK⟩)
        · skip
          refine value_ (w1 := ?_) (v := ?_) (by rfl) rfl ?_ ?_
          rotate_left 2
          · go_simp
            constructor
            · rfl
            · rfl
          have hN := F_new kPat w2 (fun k => w1d.heap.size ≤ k) [p] _ 24 (Reps.c5 (kPat_mkF _ _ p hc1 hF1) (Reps.none _ _)) (by simp) hsz
          replace hbx := blk_below hbx ((Below.refl _ _).alloc (Nat.le_refl _) (.cells #[.int .i64 p.var, .int .i64 p.op, .int .i64 p.imm, .int .i64 p.immVar, .slice A1 p.kids.length c1] 24))
          replace hRd := hRd.below ((Below.refl _ _).alloc (Nat.le_refl _) (.cells #[.int .i64 p.var, .int .i64 p.op, .int .i64 p.imm, .int .i64 p.immVar, .slice A1 p.kids.length c1] 24))
          replace hKK := keep_alloc hKK (.cells #[.int .i64 p.var, .int .i64 p.op, .int .i64 p.imm, .int .i64 p.immVar, .slice A1 p.kids.length c1] 24)
          replace hsz := Nat.le_trans hsz ((Below.refl _ _).alloc (Nat.le_refl _) (.cells #[.int .i64 p.var, .int .i64 p.op, .int .i64 p.imm, .int .i64 p.immVar, .slice A1 p.kids.length c1] 24)).size
          replace hF1 := Kd.F_alloc hF1 (.cells #[.int .i64 p.var, .int .i64 p.op, .int .i64 p.imm, .int .i64 p.immVar, .slice A1 p.kids.length c1] 24)
          replace hlit := cell_alloc hlit (.cells #[.int .i64 p.var, .int .i64 p.op, .int .i64 p.imm, .int .i64 p.immVar, .slice A1 p.kids.length c1] 24)
          refine hK.out _ _ trivial (fun hHeld => ?_)
          clear hK K
          refine norm_ (a' := ?_) ?_ ?_
          rotate_left
          · show Act.put _ (some 63) _ = _
            simp only [P4]
            rfl
          refine one_ (i := 4) (N := some 57) (bm 13 2047) rfl rfl (by kernel_rfl) (by decide) (fun K hK => ?_)
          refine value_ (w1 := ?_) (v := ?_) (by rfl) rfl ?_ ?_
          rotate_left 2
          · go_simp
            constructor
            · rfl
            · rfl
          refine hK.out _ _ trivial (fun hHeld => ?_)
          clear hK K
          refine norm_ (a' := ?_) ?_ ?_
          rotate_left
          · show Act.put _ (some 57) _ = _
            simp only [P4]
            rfl
          exact norm_ (by simp only [putAll, P4]) (hCont (w1d.heap.size, w2.heap.size, A1, c1) _ ⟨hbx, hN, hRd, hKK⟩)
    · skip
      refine goes_ Try.func41 (by kernel_rfl) rfl #[.pointer (some ⟨b, 0, none⟩), .int .i64 (wrap64 (D + 1)), .int .i64 vars] (by rfl) rfl rfl (by simp only [List.map_toArray, List.map_cons, List.map_nil]; rfl) ?_
      with_reducible refine (ih1 _ hRd).mono ?_
      rintro e w2 ⟨A1, c1, rfl, hc1, hF1, hRdn, hK⟩
      refine ⟨_, rfl, ?_⟩
      replace hbx := hK.blk hbx hgb (by simp)
      replace hKK := hKK.trans hK (.inl rfl)
      replace hF1 := Kd.F_mono hF1 (ok' := fun k => w1d.heap.size ≤ k) (fun k hk => Nat.le_trans hsz hk)
      replace hsz := Nat.le_trans hsz hK.1
      clear hK hRd
      have hRd := hRdn
      clear hRdn
      refine hK.out _ _ trivial (fun hHeld => ?_)
      clear hK K
      refine norm_ (a' := ?_) ?_ ?_
      rotate_left
      · show Act.put _ (some 62) _ = _
        simp only [P4]
        rfl
      refine two_ (i := 0) (j := 10) (Ni := some 53) (Nj := some 63) (bm 13 999) (bm 13 2022) rfl rfl rfl rfl (by kernel_rfl) (by decide) (by decide) (fun K hK => ?_) (fun K hK => ?_)
      · skip
        refine value_ (w1 := ?_) (v := ?_) (by rfl) rfl ?_ ?_
        rotate_left 2
        · go_simp
          constructor
          · rfl
          · rfl
        have hg : w2.heap.size ≠ b := by have := hRd.lt; omega
        have hlit := (blk_cell (blk_new w2 (.cells #[.int .i64 20, .int .i64 21] 3)) 1).trans rfl
        replace hbx := blk_below hbx ((Below.refl _ _).alloc (Nat.le_refl _) (.cells #[.int .i64 20, .int .i64 21] 3))
        replace hRd := hRd.below ((Below.refl _ _).alloc (Nat.le_refl _) (.cells #[.int .i64 20, .int .i64 21] 3))
        replace hKK := keep_alloc hKK (.cells #[.int .i64 20, .int .i64 21] 3)
        replace hsz := Nat.le_trans hsz ((Below.refl _ _).alloc (Nat.le_refl _) (.cells #[.int .i64 20, .int .i64 21] 3)).size
        replace hF1 := Kd.F_alloc hF1 (.cells #[.int .i64 20, .int .i64 21] 3)
        refine hK.out _ _ trivial (fun hHeld => ?_)
        clear hK K
        refine norm_ (a' := ?_) ?_ ?_
        rotate_left
        · show Act.put _ (some 53) _ = _
          simp only [P4]
          rfl
        refine pure_ (i := 3) (N := some 56) (v := ?_) (a' := ?_) (bm 13 1007) rfl rfl (by kernel_rfl) (fun _ _ _ h => h) (Or.inl ⟨by rfl, ?_⟩) ?_ ?_
        rotate_left
        · intro w'; go_simp; with_reducible rfl
        rotate_left
        · simp only [P4]; rfl
        refine two_ (i := 4) (j := 10) (Ni := some 57) (Nj := some 63) (bm 13 1023) (bm 13 2031) rfl rfl rfl rfl (by kernel_rfl) (by decide) (by decide) (fun K hK => ?_) (fun K hK => ?_)
        · skip
          refine value_ (w1 := ?_) (v := ?_) (by rfl) rfl ?_ ?_
          rotate_left 2
          · go_simp
            constructor
            · rfl
            · rfl
          refine hK.out _ _ trivial (fun hHeld => ?_)
          clear hK K
          refine norm_ (a' := ?_) ?_ ?_
          rotate_left
          · show Act.put _ (some 57) _ = _
            simp only [P4]
            rfl
          refine one_ (i := 10) (N := some 63) (bm 13 2047) rfl rfl (by kernel_rfl) (by decide) (fun K hK => ?_)
          refine value_ (w1 := ?_) (v := ?_) (by rfl) rfl ?_ ?_
          rotate_left 2
          · go_simp
            constructor
            · rfl
            · rfl
          have hN := F_new kPat (w2.alloc (.cells #[.int .i64 20, .int .i64 21] 3)) (fun k => w1d.heap.size ≤ k) [p] _ 24 (Reps.c5 (kPat_mkF _ _ p hc1 hF1) (Reps.none _ _)) (by simp) hsz
          simp only [World.size_alloc] at hN
          replace hbx := blk_below hbx ((Below.refl _ _).alloc (Nat.le_refl _) (.cells #[.int .i64 p.var, .int .i64 p.op, .int .i64 p.imm, .int .i64 p.immVar, .slice A1 p.kids.length c1] 24))
          replace hRd := hRd.below ((Below.refl _ _).alloc (Nat.le_refl _) (.cells #[.int .i64 p.var, .int .i64 p.op, .int .i64 p.imm, .int .i64 p.immVar, .slice A1 p.kids.length c1] 24))
          replace hKK := keep_alloc hKK (.cells #[.int .i64 p.var, .int .i64 p.op, .int .i64 p.imm, .int .i64 p.immVar, .slice A1 p.kids.length c1] 24)
          replace hsz := Nat.le_trans hsz ((Below.refl _ _).alloc (Nat.le_refl _) (.cells #[.int .i64 p.var, .int .i64 p.op, .int .i64 p.imm, .int .i64 p.immVar, .slice A1 p.kids.length c1] 24)).size
          replace hF1 := Kd.F_alloc hF1 (.cells #[.int .i64 p.var, .int .i64 p.op, .int .i64 p.imm, .int .i64 p.immVar, .slice A1 p.kids.length c1] 24)
          refine hK.out _ _ trivial (fun hHeld => ?_)
          clear hK K
          refine norm_ (a' := ?_) ?_ ?_
          rotate_left
          · show Act.put _ (some 63) _ = _
            simp only [P4]
            rfl
          exact norm_ (by simp only [putAll, P4]) (hCont (w2.heap.size, w2.heap.size + 1, A1, c1) _ ⟨hbx, hN, hRd, hKK⟩)
        · skip
          refine value_ (w1 := ?_) (v := ?_) (by rfl) rfl ?_ ?_
          rotate_left 2
          · go_simp
            constructor
            · rfl
            · rfl
          have hN := F_new kPat (w2.alloc (.cells #[.int .i64 20, .int .i64 21] 3)) (fun k => w1d.heap.size ≤ k) [p] _ 24 (Reps.c5 (kPat_mkF _ _ p hc1 hF1) (Reps.none _ _)) (by simp) hsz
          simp only [World.size_alloc] at hN
          replace hbx := blk_below hbx ((Below.refl _ _).alloc (Nat.le_refl _) (.cells #[.int .i64 p.var, .int .i64 p.op, .int .i64 p.imm, .int .i64 p.immVar, .slice A1 p.kids.length c1] 24))
          replace hRd := hRd.below ((Below.refl _ _).alloc (Nat.le_refl _) (.cells #[.int .i64 p.var, .int .i64 p.op, .int .i64 p.imm, .int .i64 p.immVar, .slice A1 p.kids.length c1] 24))
          replace hKK := keep_alloc hKK (.cells #[.int .i64 p.var, .int .i64 p.op, .int .i64 p.imm, .int .i64 p.immVar, .slice A1 p.kids.length c1] 24)
          replace hsz := Nat.le_trans hsz ((Below.refl _ _).alloc (Nat.le_refl _) (.cells #[.int .i64 p.var, .int .i64 p.op, .int .i64 p.imm, .int .i64 p.immVar, .slice A1 p.kids.length c1] 24)).size
          replace hF1 := Kd.F_alloc hF1 (.cells #[.int .i64 p.var, .int .i64 p.op, .int .i64 p.imm, .int .i64 p.immVar, .slice A1 p.kids.length c1] 24)
          replace hlit := cell_alloc hlit (.cells #[.int .i64 p.var, .int .i64 p.op, .int .i64 p.imm, .int .i64 p.immVar, .slice A1 p.kids.length c1] 24)
          refine hK.out _ _ trivial (fun hHeld => ?_)
          clear hK K
          refine norm_ (a' := ?_) ?_ ?_
          rotate_left
          · show Act.put _ (some 63) _ = _
            simp only [P4]
            rfl
          refine one_ (i := 4) (N := some 57) (bm 13 2047) rfl rfl (by kernel_rfl) (by decide) (fun K hK => ?_)
          refine value_ (w1 := ?_) (v := ?_) (by rfl) rfl ?_ ?_
          rotate_left 2
          · go_simp
            constructor
            · rfl
            · rfl
          refine hK.out _ _ trivial (fun hHeld => ?_)
          clear hK K
          refine norm_ (a' := ?_) ?_ ?_
          rotate_left
          · show Act.put _ (some 57) _ = _
            simp only [P4]
            rfl
          exact norm_ (by simp only [putAll, P4]) (hCont (w2.heap.size, w2.heap.size + 1, A1, c1) _ ⟨hbx, hN, hRd, hKK⟩)
      · skip
        refine value_ (w1 := ?_) (v := ?_) (by rfl) rfl ?_ ?_
        rotate_left 2
        · go_simp
          constructor
          · rfl
          · rfl
        have hN := F_new kPat w2 (fun k => w1d.heap.size ≤ k) [p] _ 24 (Reps.c5 (kPat_mkF _ _ p hc1 hF1) (Reps.none _ _)) (by simp) hsz
        replace hbx := blk_below hbx ((Below.refl _ _).alloc (Nat.le_refl _) (.cells #[.int .i64 p.var, .int .i64 p.op, .int .i64 p.imm, .int .i64 p.immVar, .slice A1 p.kids.length c1] 24))
        replace hRd := hRd.below ((Below.refl _ _).alloc (Nat.le_refl _) (.cells #[.int .i64 p.var, .int .i64 p.op, .int .i64 p.imm, .int .i64 p.immVar, .slice A1 p.kids.length c1] 24))
        replace hKK := keep_alloc hKK (.cells #[.int .i64 p.var, .int .i64 p.op, .int .i64 p.imm, .int .i64 p.immVar, .slice A1 p.kids.length c1] 24)
        replace hsz := Nat.le_trans hsz ((Below.refl _ _).alloc (Nat.le_refl _) (.cells #[.int .i64 p.var, .int .i64 p.op, .int .i64 p.imm, .int .i64 p.immVar, .slice A1 p.kids.length c1] 24)).size
        replace hF1 := Kd.F_alloc hF1 (.cells #[.int .i64 p.var, .int .i64 p.op, .int .i64 p.imm, .int .i64 p.immVar, .slice A1 p.kids.length c1] 24)
        refine hK.out _ _ trivial (fun hHeld => ?_)
        clear hK K
        refine norm_ (a' := ?_) ?_ ?_
        rotate_left
        · show Act.put _ (some 63) _ = _
          simp only [P4]
          rfl
        refine one_ (i := 0) (N := some 53) (bm 13 2023) rfl rfl (by kernel_rfl) (by decide) (fun K hK => ?_)
        refine value_ (w1 := ?_) (v := ?_) (by rfl) rfl ?_ ?_
        rotate_left 2
        · go_simp
          constructor
          · rfl
          · rfl
        have hg : (w2.alloc (.cells #[.int .i64 p.var, .int .i64 p.op, .int .i64 p.imm, .int .i64 p.immVar, .slice A1 p.kids.length c1] 24)).heap.size ≠ b := by have := hRd.lt; omega
        have hlit := (blk_cell (blk_new (w2.alloc (.cells #[.int .i64 p.var, .int .i64 p.op, .int .i64 p.imm, .int .i64 p.immVar, .slice A1 p.kids.length c1] 24)) (.cells #[.int .i64 20, .int .i64 21] 3)) 1).trans rfl
        replace hbx := blk_below hbx ((Below.refl _ _).alloc (Nat.le_refl _) (.cells #[.int .i64 20, .int .i64 21] 3))
        replace hRd := hRd.below ((Below.refl _ _).alloc (Nat.le_refl _) (.cells #[.int .i64 20, .int .i64 21] 3))
        replace hKK := keep_alloc hKK (.cells #[.int .i64 20, .int .i64 21] 3)
        replace hsz := Nat.le_trans hsz ((Below.refl _ _).alloc (Nat.le_refl _) (.cells #[.int .i64 20, .int .i64 21] 3)).size
        replace hF1 := Kd.F_alloc hF1 (.cells #[.int .i64 20, .int .i64 21] 3)
        replace hN := Kd.F_alloc hN (.cells #[.int .i64 20, .int .i64 21] 3)
        refine hK.out _ _ trivial (fun hHeld => ?_)
        clear hK K
        refine norm_ (a' := ?_) ?_ ?_
        rotate_left
        · show Act.put _ (some 53) _ = _
          simp only [P4]
          rfl
        refine pure_ (i := 3) (N := some 56) (v := ?_) (a' := ?_) (bm 13 2031) rfl rfl (by kernel_rfl) (fun _ _ _ h => h) (Or.inl ⟨by rfl, ?_⟩) ?_ ?_
        rotate_left
        · intro w'; go_simp; with_reducible rfl
        rotate_left
        · simp only [P4]; rfl
        refine one_ (i := 4) (N := some 57) (bm 13 2047) rfl rfl (by kernel_rfl) (by decide) (fun K hK => ?_)
        refine value_ (w1 := ?_) (v := ?_) (by rfl) rfl ?_ ?_
        rotate_left 2
        · go_simp
          constructor
          · rfl
          · rfl
        refine hK.out _ _ trivial (fun hHeld => ?_)
        clear hK K
        refine norm_ (a' := ?_) ?_ ?_
        rotate_left
        · show Act.put _ (some 57) _ = _
          simp only [P4]
          rfl
        exact norm_ (by simp only [putAll, P4]) (hCont (w2.heap.size + 1, w2.heap.size, A1, c1) _ ⟨hbx, hN, hRd, hKK⟩)
  rintro ⟨g, gk, A1, c1⟩ w3 ⟨hbx, hN, hRd, hKK⟩
  have hHeld : True := trivial
  refine norm_ (a' := ?_) ?_ ?_
  rotate_left
  · simp only [putAll, P4]
    rfl
  refine pure_ (i := 11) (N := some 64) (v := ?_) (a' := ?_) (bm 13 4095) rfl rfl (by kernel_rfl) (fun _ _ _ h => h) (Or.inl ⟨by rfl, ?_⟩) ?_ ?_
  rotate_left
  · intro w'; go_simp; with_reducible rfl
  rotate_left
  · simp only [P4]; rfl
  refine one_ (i := 12) (N := none) (bm 13 8191) rfl rfl (by kernel_rfl) (by decide) (fun K hK => ?_)
  have c0 := (blk_cell hbx 0).trans rfl
  have c1 := (blk_cell hbx 1).trans rfl
  have c2 := (blk_cell hbx 2).trans rfl
  have c3 := (blk_cell hbx 3).trans rfl
  have c4 := (blk_cell hbx 4).trans rfl
  have hfz := fun j => blk_frozen hbx j
  refine skip_ (w1 := ?_) (by rfl) rfl ?_ ?_
  rotate_left
  · go_simp
    rfl
  refine hK.out _ _ trivial (fun hHeld => ?_)
  clear hK K
  refine done_ (by kernel_rfl) ?_
  go_wp2
  refine bodyPost_ret (results_cell_row rfl _ _ w.heap.size 24 _ (0, 0) _ rfl (put5 hbx _ _ _ _ _) Try.underlying24 rfl (by kernel_rfl)) rfl ?_
  rw [E.out]
  exact ⟨_, 1, rfl, Nat.le_refl _, Kd.F_mono (F_far5 hN (fun k hk e => by omega) _ _ _ _ _) (fun k hk => by omega), hRd.far5 hgw hgb _ _ _ _ _, keep_far5 hKK (Nat.le_refl _) _ _ _ _ _⟩
set_option maxHeartbeats 1000000 in
set_option maxRecDepth 100000 in
theorem pat_bin0 (vars : Int) (hv : 1 ≤ vars) (hv2 : vars ≤ 6) (d : Nat) (hd4 : d < 4) (ih : PatC vars d) (w0 w : World) (b : Nat) (ls : List Int) (hRd : Rd w0 w b ls) (hls : ∀ n ∈ ls, I64 n) (hk1 : 6 ≤ ls.headD 0 % 11) (hk2 : (ls.headD 0).tdiv 11 % 1000 % 3 = 0) :
    Calls Try.prog 41 #[.pointer (some ⟨b, 0, none⟩), .int .i64 (4 - (d + 1 : Nat)), .int .i64 vars] w (PatRes w0 w b (genPat vars (d + 1) ls)) := by
  have hls1 := mem_tail_i64 hls
  have ih1 := fun W h => ih w0 W b ls.tail h hls1
  have ih2 := fun W h => ih w0 W b (genPat vars d ls.tail).2 h (genPat_i64 vars d _ hls1)
  obtain ⟨D, hD⟩ : ∃ D : Int, D = 4 - (d + 1 : Nat) := ⟨_, rfl⟩
  have hD1 : (4 - (d : Int)) = D + 1 := by omega
  have hD0 : 0 ≤ D ∧ D ≤ 3 := by omega
  have hwD : wrap64 (D + 1) = D + 1 := by rw [wrap64]; omega
  rw [hD1] at ih1 ih2
  rw [← hD]
  clear hD
  have hn := head_i64 hls
  have hd := tdiv_i64 hn (show (2 : Int) ≤ 11 by decide)
  have hnx := fun W h => Next_calls w0 W b ls h
  obtain ⟨n, hnn⟩ : ∃ n, n = ls.headD 0 := ⟨_, rfl⟩
  have E : Hid (genPat vars (d + 1) ls = (⟨0, 4, 0, 0, [(genPat vars d ls.tail).1, (genPat vars d (genPat vars d ls.tail).2).1]⟩, (genPat vars d (genPat vars d ls.tail).2).2)) := Lib.hid (by (try rw [hnn]); simp only [genPat]; rw [if_neg (by omega), if_neg (by omega), if_neg (by omega), if_neg (by omega), if_pos hk2])
  rw [← hnn] at hnx hn hd
  have hw : wrap64 (n.tdiv 11) = n.tdiv 11 := by unfold I64 at hd; rw [wrap64]; omega
  have pc1 := fun W => Pick_calls n 11 W (by decide) (by decide)
  have pc2 := fun W => Pick_calls (n.tdiv 11) 1000 W (by decide) (by decide)
  obtain ⟨k, hk⟩ : ∃ k, k = n % 11 := ⟨_, rfl⟩
  rw [← hnn, ← hk] at hk1
  rw [← hnn] at hk2
  obtain ⟨m, hm⟩ : ∃ m, m = n.tdiv 11 % 1000 := ⟨_, rfl⟩
  have hm0 : 0 ≤ m ∧ m < 1000 := by omega
  rw [← hk] at pc1
  rw [← hm] at pc2 hk2
  rcases hg1 : genPat vars d ls.tail with ⟨p, r⟩
  rw [hg1] at ih1 ih2 E
  simp only at ih2 E
  rcases hg2 : genPat vars d r with ⟨q, r2⟩
  rw [hg2] at ih2 E
  simp only at E
  have hm2 : m.tmod 3 = m % 3 := Int.tmod_eq_emod_of_nonneg hm0.1
  have hmx : m % 3 = 0 := hk2
  rw [hmx] at hm2
  clear hk hm hnn hd hg1 ih hmx hk2 hg2
  have hW := fun ob => (Below.refl w.heap.size w).alloc (Nat.le_refl _) ob
  have hgb : w.heap.size ≠ b := by have := hRd.lt; omega
  have hbl : b < w.heap.size := hRd.lt
  have hgw : w0.heap.size ≤ w.heap.size := hRd.choose_spec.choose_spec.1.size
  go_enter Try.func41, Try.ntmps41
  go_wp2_with fail
  refine (hnx _ (hRd.below (hW _))).mono ?_
  rintro e w1 ⟨rfl, hRd1, hK1⟩
  have hbx : w1.heap[w.heap.size]? = some (.cells #[.int .i64 0, .int .i64 0, .int .i64 0, .int .i64 0, .slice none 0 0] 24 (0, 0)) := hK1.blk (blk_new w _) hgb (by simp)
  have hKK : KeepBut w w1 b none := (KeepBut.of_below (hW _) _ _).trans hK1 (.inl rfl)
  have hg1' : w.heap.size < w1.heap.size := blk_lt hbx
  go_wp2_with fail
  refine (pc1 _).mono ?_
  rintro e w' ⟨rfl, hw'⟩
  subst hw'
  go_wp2_with fail
  refine (pc2 _).mono ?_
  rintro e w' ⟨rfl, hw'⟩
  subst hw'
  obtain ⟨w1, rfl⟩ : ∃ w1 : World, w1 = w' := ⟨_, rfl⟩
  go_wp2
  rw [← hwD] at ih1 ih2
  refine start_ (n := 18) (S := fun w' => True) (ds := []) (bm 18 0) (by kernel_rfl) rfl rfl trivial (fun hHeld => ?_)
  replace hbx : w1.drew.heap[w.heap.size]? = _ := hbx
  replace hKK : KeepBut w w1.drew b none := hKK
  have hRd : Rd w0 w1.drew b ls.tail := hRd1.below (below_drew (Below.refl _ _))
  replace hg1' : w.heap.size < w1.drew.heap.size := hg1'
  clear hRd1 hK1
  generalize w1.drew = w1d at hbx hKK hRd hg1' ⊢
  have hsz : w1d.heap.size ≤ w1d.heap.size := Nat.le_refl _
  refine pure_ (i := 1) (N := some 66) (v := ?_) (a' := ?_) (bm 18 2) rfl rfl (by kernel_rfl) (fun _ _ _ h => h) (Or.inl ⟨by rfl, ?_⟩) ?_ ?_
  rotate_left
  · intro w'; go_simp; with_reducible rfl
  rotate_left
  · simp only [P4]; rfl
  refine pure_ (i := 2) (N := some 67) (v := ?_) (a' := ?_) (bm 18 6) rfl rfl (by kernel_rfl) (fun _ _ _ h => h) (Or.inl ⟨by rfl, ?_⟩) ?_ ?_
  rotate_left
  · intro w'; go_simp; with_reducible rfl
  rotate_left
  · simp only [P4]; rfl
  refine pure_ (i := 5) (N := some 70) (v := ?_) (a' := ?_) (bm 18 38) rfl rfl (by kernel_rfl) (fun _ _ _ h => h) (Or.inl ⟨by rfl, ?_⟩) ?_ ?_
  rotate_left
  · intro w'; go_simp; with_reducible rfl
  rotate_left
  · simp only [P4]; rfl
  refine pure_ (i := 6) (N := some 71) (v := ?_) (a' := ?_) (bm 18 102) rfl rfl (by kernel_rfl) (fun _ _ _ h => h) (Or.inl ⟨by rfl, ?_⟩) ?_ ?_
  rotate_left
  · intro w'; go_simp; with_reducible rfl
  rotate_left
  · simp only [P4]; rfl
  refine pure_ (i := 7) (N := some 72) (v := ?_) (a' := ?_) (bm 18 230) rfl rfl (by kernel_rfl) (fun _ _ _ h => h) (Or.inl ⟨by rfl, ?_⟩) ?_ ?_
  rotate_left
  · intro w'; go_simp; with_reducible rfl
  rotate_left
  · simp only [P4]; rfl
  refine pure_ (i := 8) (N := some 73) (v := ?_) (a' := ?_) (bm 18 486) rfl rfl (by kernel_rfl) (fun _ _ _ h => h) (Or.inl ⟨by rfl, ?_⟩) ?_ ?_
  rotate_left
  · intro w'; go_simp; with_reducible rfl
  rotate_left
  · simp only [P4]; rfl
  refine pure_ (i := 10) (N := some 75) (v := ?_) (a' := ?_) (bm 18 1510) rfl rfl (by kernel_rfl) (fun _ _ _ h => h) (Or.inl ⟨by rfl, ?_⟩) ?_ ?_
  rotate_left
  · intro w'; go_simp; with_reducible rfl
  rotate_left
  · simp only [P4]; rfl
  refine pure_ (i := 11) (N := some 76) (v := ?_) (a' := ?_) (bm 18 3558) rfl rfl (by kernel_rfl) (fun _ _ _ h => h) (Or.inl ⟨by rfl, ?_⟩) ?_ ?_
  rotate_left
  · intro w'; go_simp; with_reducible rfl
  rotate_left
  · simp only [P4]; rfl
  refine pure_ (i := 12) (N := some 77) (v := ?_) (a' := ?_) (bm 18 7654) rfl rfl (by kernel_rfl) (fun _ _ _ h => h) (Or.inl ⟨by rfl, ?_⟩) ?_ ?_
  rotate_left
  · intro w'; go_simp; with_reducible rfl
  rotate_left
  · simp only [P4]; rfl
  refine pure_ (i := 13) (N := some 78) (v := ?_) (a' := ?_) (bm 18 15846) rfl rfl (by kernel_rfl) (fun _ _ _ h => h) (Or.inl ⟨by rfl, ?_⟩) ?_ ?_
  rotate_left
  · intro w'; go_simp; with_reducible rfl
  rotate_left
  · simp only [P4]; rfl
  refine join_ (σ := Nat × Nat × Option Addr × Nat × Option Addr × Nat) 2 (bm 18 65535) (fun s => [(65, .slice (some ⟨s.1, 0, none⟩) 3 3), (68, .pointer (some ⟨s.1, 0, none⟩)), (69, .int .i64 4), (74, .agg #[.int .i64 p.var, .int .i64 p.op, .int .i64 p.imm, .int .i64 p.immVar, .slice s.2.2.1 p.kids.length s.2.2.2.1]), (79, .agg #[.int .i64 q.var, .int .i64 q.op, .int .i64 q.imm, .int .i64 q.immVar, .slice s.2.2.2.2.1 q.kids.length s.2.2.2.2.2]), (80, .slice (some ⟨s.2.1, 0, none⟩) 2 2)]) (fun s w' => w'.heap[w.heap.size]? = some (.cells #[.int .i64 0, .int .i64 0, .int .i64 0, .int .i64 0, .slice none 0 0] 24 (0, 0)) ∧ Kd.F kPat w' (fun k => w1d.heap.size ≤ k) (some ⟨s.2.1, 0, none⟩) 2 [p, q] ∧ Rd w0 w' b r2 ∧ KeepBut w w' b none) ?_ ?_
  rotate_left
  · intro hCont
    refine two_ (i := 0) (j := 9) (Ni := some 65) (Nj := some 74) (bm 18 15847) (bm 18 16358) rfl rfl rfl rfl (by kernel_rfl) (by decide) (by decide) (fun K hK => ?_) (fun K hK => ?_)
    · skip
      refine value_ (w1 := ?_) (v := ?_) (by rfl) rfl ?_ ?_
      rotate_left 2
      · go_simp
        constructor
        · rfl
        · rfl
      have hg : w1d.heap.size ≠ b := by have := hRd.lt; omega
      have hlit := (blk_cell (blk_new w1d (.cells #[.int .i64 4, .int .i64 5, .int .i64 6] 3)) 0).trans rfl
      replace hbx := blk_below hbx ((Below.refl _ _).alloc (Nat.le_refl _) (.cells #[.int .i64 4, .int .i64 5, .int .i64 6] 3))
      replace hRd := hRd.below ((Below.refl _ _).alloc (Nat.le_refl _) (.cells #[.int .i64 4, .int .i64 5, .int .i64 6] 3))
      replace hKK := keep_alloc hKK (.cells #[.int .i64 4, .int .i64 5, .int .i64 6] 3)
      replace hsz := Nat.le_trans hsz ((Below.refl _ _).alloc (Nat.le_refl _) (.cells #[.int .i64 4, .int .i64 5, .int .i64 6] 3)).size
      refine hK.out _ _ trivial (fun hHeld => ?_)
      clear hK K
      refine norm_ (a' := ?_) ?_ ?_
      rotate_left
      · show Act.put _ (some 65) _ = _
        simp only [P4]
        rfl
      refine pure_ (i := 3) (N := some 68) (v := ?_) (a' := ?_) (bm 18 15855) rfl rfl (by kernel_rfl) (fun _ _ _ h => h) (Or.inl ⟨by rfl, ?_⟩) ?_ ?_
      rotate_left
      · intro w'; go_simp; with_reducible rfl
      rotate_left
      · simp only [P4]; rfl
      refine two_ (i := 4) (j := 9) (Ni := some 69) (Nj := some 74) (bm 18 15871) (bm 18 16367) rfl rfl rfl rfl (by kernel_rfl) (by decide) (by decide) (fun K hK => ?_) (fun K hK => ?_)
      · skip
        refine value_ (w1 := ?_) (v := ?_) (by rfl) rfl ?_ ?_
        rotate_left 2
        · go_simp
          constructor
          · rfl
          · rfl
        refine hK.out _ _ trivial (fun hHeld => ?_)
        clear hK K
        refine norm_ (a' := ?_) ?_ ?_
        rotate_left
        · show Act.put _ (some 69) _ = _
          simp only [P4]
          rfl
        refine one_ (i := 9) (N := some 74) (bm 18 16383) rfl rfl (by kernel_rfl) (by decide) (fun K hK => ?_)
        refine goes_ Try.func41 (by kernel_rfl) rfl #[.pointer (some ⟨b, 0, none⟩), .int .i64 (wrap64 (D + 1)), .int .i64 vars] (by rfl) rfl rfl (by simp only [List.map_toArray, List.map_cons, List.map_nil]; rfl) ?_
        with_reducible refine (ih1 _ hRd).mono ?_
        rintro e w2 ⟨A1, c1, rfl, hc1, hF1, hRdn, hK⟩
        refine ⟨_, rfl, ?_⟩
        replace hbx := hK.blk hbx hgb (by simp)
        replace hKK := hKK.trans hK (.inl rfl)
        replace hF1 := Kd.F_mono hF1 (ok' := fun k => w1d.heap.size ≤ k) (fun k hk => Nat.le_trans hsz hk)
        replace hsz := Nat.le_trans hsz hK.1
        clear hK hRd
        have hRd := hRdn
        clear hRdn
        refine hK.out _ _ trivial (fun hHeld => ?_)
        clear hK K
        refine norm_ (a' := ?_) ?_ ?_
        rotate_left
        · show Act.put _ (some 74) _ = _
          simp only [P4]
          rfl
        refine one_ (i := 14) (N := some 79) (bm 18 32767) rfl rfl (by kernel_rfl) (by decide) (fun K hK => ?_)
        refine goes_ Try.func41 (by kernel_rfl) rfl #[.pointer (some ⟨b, 0, none⟩), .int .i64 (wrap64 (D + 1)), .int .i64 vars] (by rfl) rfl rfl (by simp only [List.map_toArray, List.map_cons, List.map_nil]; rfl) ?_
        with_reducible refine (ih2 _ hRd).mono ?_
        rintro e w3 ⟨A2, c2, rfl, hc2, hF2, hRdn, hK⟩
        refine ⟨_, rfl, ?_⟩
        replace hbx := hK.blk hbx hgb (by simp)
        replace hKK := hKK.trans hK (.inl rfl)
        replace hF2 := Kd.F_mono hF2 (ok' := fun k => w1d.heap.size ≤ k) (fun k hk => Nat.le_trans hsz hk)
        replace hF1 := Kd.F_keep hF1 hK (fun k hk e => by omega)
        replace hsz := Nat.le_trans hsz hK.1
        clear hK hRd
        have hRd := hRdn
        clear hRdn
        refine hK.out _ _ trivial (fun hHeld => ?_)
        clear hK K
        refine norm_ (a' := ?_) ?_ ?_
        rotate_left
        · show Act.put _ (some 79) _ = _
          simp only [P4]
          rfl
        refine one_ (i := 15) (N := some 80) (bm 18 65535) rfl rfl (by kernel_rfl) (by decide) (fun K hK => ?_)
        refine value_ (w1 := ?_) (v := ?_) (by rfl) rfl ?_ ?_
        rotate_left 2
        · go_simp
          constructor
          · rfl
          · rfl
        have hN := F_new kPat w3 (fun k => w1d.heap.size ≤ k) [p, q] _ 24 (Reps.c5 (kPat_mkF _ _ p hc1 hF1) (Reps.c5 (kPat_mkF _ _ q hc2 hF2) (Reps.none _ _))) (by simp) hsz
        replace hbx := blk_below hbx ((Below.refl _ _).alloc (Nat.le_refl _) (.cells #[.int .i64 p.var, .int .i64 p.op, .int .i64 p.imm, .int .i64 p.immVar, .slice A1 p.kids.length c1, .int .i64 q.var, .int .i64 q.op, .int .i64 q.imm, .int .i64 q.immVar, .slice A2 q.kids.length c2] 24))
        replace hRd := hRd.below ((Below.refl _ _).alloc (Nat.le_refl _) (.cells #[.int .i64 p.var, .int .i64 p.op, .int .i64 p.imm, .int .i64 p.immVar, .slice A1 p.kids.length c1, .int .i64 q.var, .int .i64 q.op, .int .i64 q.imm, .int .i64 q.immVar, .slice A2 q.kids.length c2] 24))
        replace hKK := keep_alloc hKK (.cells #[.int .i64 p.var, .int .i64 p.op, .int .i64 p.imm, .int .i64 p.immVar, .slice A1 p.kids.length c1, .int .i64 q.var, .int .i64 q.op, .int .i64 q.imm, .int .i64 q.immVar, .slice A2 q.kids.length c2] 24)
        replace hsz := Nat.le_trans hsz ((Below.refl _ _).alloc (Nat.le_refl _) (.cells #[.int .i64 p.var, .int .i64 p.op, .int .i64 p.imm, .int .i64 p.immVar, .slice A1 p.kids.length c1, .int .i64 q.var, .int .i64 q.op, .int .i64 q.imm, .int .i64 q.immVar, .slice A2 q.kids.length c2] 24)).size
        replace hF1 := Kd.F_alloc hF1 (.cells #[.int .i64 p.var, .int .i64 p.op, .int .i64 p.imm, .int .i64 p.immVar, .slice A1 p.kids.length c1, .int .i64 q.var, .int .i64 q.op, .int .i64 q.imm, .int .i64 q.immVar, .slice A2 q.kids.length c2] 24)
        replace hF2 := Kd.F_alloc hF2 (.cells #[.int .i64 p.var, .int .i64 p.op, .int .i64 p.imm, .int .i64 p.immVar, .slice A1 p.kids.length c1, .int .i64 q.var, .int .i64 q.op, .int .i64 q.imm, .int .i64 q.immVar, .slice A2 q.kids.length c2] 24)
        refine hK.out _ _ trivial (fun hHeld => ?_)
        clear hK K
        refine norm_ (a' := ?_) ?_ ?_
        rotate_left
        · show Act.put _ (some 80) _ = _
          simp only [P4]
          rfl
        exact norm_ (by simp only [putAll, P4]) (hCont (w1d.heap.size, w3.heap.size, A1, c1, A2, c2) _ ⟨hbx, hN, hRd, hKK⟩)
      · skip
        refine goes_ Try.func41 (by kernel_rfl) rfl #[.pointer (some ⟨b, 0, none⟩), .int .i64 (wrap64 (D + 1)), .int .i64 vars] (by rfl) rfl rfl (by simp only [List.map_toArray, List.map_cons, List.map_nil]; rfl) ?_
        with_reducible refine (ih1 _ hRd).mono ?_
        rintro e w2 ⟨A1, c1, rfl, hc1, hF1, hRdn, hK⟩
        refine ⟨_, rfl, ?_⟩
        replace hbx := hK.blk hbx hgb (by simp)
        replace hKK := hKK.trans hK (.inl rfl)
        replace hF1 := Kd.F_mono hF1 (ok' := fun k => w1d.heap.size ≤ k) (fun k hk => Nat.le_trans hsz hk)
        replace hlit := keep_cell hK hlit hg
        replace hsz := Nat.le_trans hsz hK.1
        clear hK hRd
        have hRd := hRdn
        clear hRdn
        refine hK.out _ _ trivial (fun hHeld => ?_)
        clear hK K
        refine norm_ (a' := ?_) ?_ ?_
        rotate_left
        · show Act.put _ (some 74) _ = _
          simp only [P4]
          rfl
        refine two_ (i := 4) (j := 14) (Ni := some 69) (Nj := some 79) (bm 18 16383) (bm 18 32751) rfl rfl rfl rfl (by kernel_rfl) (by decide) (by decide) (fun K hK => ?_) (fun K hK => ?_)
        · skip
          refine value_ (w1 := ?_) (v := ?_) (by rfl) rfl ?_ ?_
          rotate_left 2
          · go_simp
            constructor
            · rfl
            · rfl
          refine hK.out _ _ trivial (fun hHeld => ?_)
          clear hK K
          refine norm_ (a' := ?_) ?_ ?_
          rotate_left
          · show Act.put _ (some 69) _ = _
            simp only [P4]
            rfl
          refine one_ (i := 14) (N := some 79) (bm 18 32767) rfl rfl (by kernel_rfl) (by decide) (fun K hK => ?_)
          refine goes_ Try.func41 (by kernel_rfl) rfl #[.pointer (some ⟨b, 0, none⟩), .int .i64 (wrap64 (D + 1)), .int .i64 vars] (by rfl) rfl rfl (by simp only [List.map_toArray, List.map_cons, List.map_nil]; rfl) ?_
          with_reducible refine (ih2 _ hRd).mono ?_
          rintro e w3 ⟨A2, c2, rfl, hc2, hF2, hRdn, hK⟩
          refine ⟨_, rfl, ?_⟩
          replace hbx := hK.blk hbx hgb (by simp)
          replace hKK := hKK.trans hK (.inl rfl)
          replace hF2 := Kd.F_mono hF2 (ok' := fun k => w1d.heap.size ≤ k) (fun k hk => Nat.le_trans hsz hk)
          replace hF1 := Kd.F_keep hF1 hK (fun k hk e => by omega)
          replace hsz := Nat.le_trans hsz hK.1
          clear hK hRd
          have hRd := hRdn
          clear hRdn
          refine hK.out _ _ trivial (fun hHeld => ?_)
          clear hK K
          refine norm_ (a' := ?_) ?_ ?_
          rotate_left
          · show Act.put _ (some 79) _ = _
            simp only [P4]
            rfl
          refine one_ (i := 15) (N := some 80) (bm 18 65535) rfl rfl (by kernel_rfl) (by decide) (fun K hK => ?_)
          refine value_ (w1 := ?_) (v := ?_) (by rfl) rfl ?_ ?_
          rotate_left 2
          · go_simp
            constructor
            · rfl
            · rfl
          have hN := F_new kPat w3 (fun k => w1d.heap.size ≤ k) [p, q] _ 24 (Reps.c5 (kPat_mkF _ _ p hc1 hF1) (Reps.c5 (kPat_mkF _ _ q hc2 hF2) (Reps.none _ _))) (by simp) hsz
          replace hbx := blk_below hbx ((Below.refl _ _).alloc (Nat.le_refl _) (.cells #[.int .i64 p.var, .int .i64 p.op, .int .i64 p.imm, .int .i64 p.immVar, .slice A1 p.kids.length c1, .int .i64 q.var, .int .i64 q.op, .int .i64 q.imm, .int .i64 q.immVar, .slice A2 q.kids.length c2] 24))
          replace hRd := hRd.below ((Below.refl _ _).alloc (Nat.le_refl _) (.cells #[.int .i64 p.var, .int .i64 p.op, .int .i64 p.imm, .int .i64 p.immVar, .slice A1 p.kids.length c1, .int .i64 q.var, .int .i64 q.op, .int .i64 q.imm, .int .i64 q.immVar, .slice A2 q.kids.length c2] 24))
          replace hKK := keep_alloc hKK (.cells #[.int .i64 p.var, .int .i64 p.op, .int .i64 p.imm, .int .i64 p.immVar, .slice A1 p.kids.length c1, .int .i64 q.var, .int .i64 q.op, .int .i64 q.imm, .int .i64 q.immVar, .slice A2 q.kids.length c2] 24)
          replace hsz := Nat.le_trans hsz ((Below.refl _ _).alloc (Nat.le_refl _) (.cells #[.int .i64 p.var, .int .i64 p.op, .int .i64 p.imm, .int .i64 p.immVar, .slice A1 p.kids.length c1, .int .i64 q.var, .int .i64 q.op, .int .i64 q.imm, .int .i64 q.immVar, .slice A2 q.kids.length c2] 24)).size
          replace hF1 := Kd.F_alloc hF1 (.cells #[.int .i64 p.var, .int .i64 p.op, .int .i64 p.imm, .int .i64 p.immVar, .slice A1 p.kids.length c1, .int .i64 q.var, .int .i64 q.op, .int .i64 q.imm, .int .i64 q.immVar, .slice A2 q.kids.length c2] 24)
          replace hF2 := Kd.F_alloc hF2 (.cells #[.int .i64 p.var, .int .i64 p.op, .int .i64 p.imm, .int .i64 p.immVar, .slice A1 p.kids.length c1, .int .i64 q.var, .int .i64 q.op, .int .i64 q.imm, .int .i64 q.immVar, .slice A2 q.kids.length c2] 24)
          refine hK.out _ _ trivial (fun hHeld => ?_)
          clear hK K
          refine norm_ (a' := ?_) ?_ ?_
          rotate_left
          · show Act.put _ (some 80) _ = _
            simp only [P4]
            rfl
          exact norm_ (by simp only [putAll, P4]) (hCont (w1d.heap.size, w3.heap.size, A1, c1, A2, c2) _ ⟨hbx, hN, hRd, hKK⟩)
        · skip
          refine goes_ Try.func41 (by kernel_rfl) rfl #[.pointer (some ⟨b, 0, none⟩), .int .i64 (wrap64 (D + 1)), .int .i64 vars] (by rfl) rfl rfl (by simp only [List.map_toArray, List.map_cons, List.map_nil]; rfl) ?_
          with_reducible refine (ih2 _ hRd).mono ?_
          rintro e w3 ⟨A2, c2, rfl, hc2, hF2, hRdn, hK⟩
          refine ⟨_, rfl, ?_⟩
          replace hbx := hK.blk hbx hgb (by simp)
          replace hKK := hKK.trans hK (.inl rfl)
          replace hF2 := Kd.F_mono hF2 (ok' := fun k => w1d.heap.size ≤ k) (fun k hk => Nat.le_trans hsz hk)
          replace hF1 := Kd.F_keep hF1 hK (fun k hk e => by omega)
          replace hlit := keep_cell hK hlit hg
          replace hsz := Nat.le_trans hsz hK.1
          clear hK hRd
          have hRd := hRdn
          clear hRdn
          refine hK.out _ _ trivial (fun hHeld => ?_)
          clear hK K
          refine norm_ (a' := ?_) ?_ ?_
          rotate_left
          · show Act.put _ (some 79) _ = _
            simp only [P4]
            rfl
          refine two_ (i := 4) (j := 15) (Ni := some 69) (Nj := some 80) (bm 18 32767) (bm 18 65519) rfl rfl rfl rfl (by kernel_rfl) (by decide) (by decide) (fun K hK => ?_) (fun K hK => ?_)
          · skip
            refine value_ (w1 := ?_) (v := ?_) (by rfl) rfl ?_ ?_
            rotate_left 2
            · go_simp
              constructor
              · rfl
              · rfl
            refine hK.out _ _ trivial (fun hHeld => ?_)
            clear hK K
            refine norm_ (a' := ?_) ?_ ?_
            rotate_left
            · show Act.put _ (some 69) _ = _
              simp only [P4]
              rfl
            refine one_ (i := 15) (N := some 80) (bm 18 65535) rfl rfl (by kernel_rfl) (by decide) (fun K hK => ?_)
            refine value_ (w1 := ?_) (v := ?_) (by rfl) rfl ?_ ?_
            rotate_left 2
            · go_simp
              constructor
              · rfl
              · rfl
            have hN := F_new kPat w3 (fun k => w1d.heap.size ≤ k) [p, q] _ 24 (Reps.c5 (kPat_mkF _ _ p hc1 hF1) (Reps.c5 (kPat_mkF _ _ q hc2 hF2) (Reps.none _ _))) (by simp) hsz
            replace hbx := blk_below hbx ((Below.refl _ _).alloc (Nat.le_refl _) (.cells #[.int .i64 p.var, .int .i64 p.op, .int .i64 p.imm, .int .i64 p.immVar, .slice A1 p.kids.length c1, .int .i64 q.var, .int .i64 q.op, .int .i64 q.imm, .int .i64 q.immVar, .slice A2 q.kids.length c2] 24))
            replace hRd := hRd.below ((Below.refl _ _).alloc (Nat.le_refl _) (.cells #[.int .i64 p.var, .int .i64 p.op, .int .i64 p.imm, .int .i64 p.immVar, .slice A1 p.kids.length c1, .int .i64 q.var, .int .i64 q.op, .int .i64 q.imm, .int .i64 q.immVar, .slice A2 q.kids.length c2] 24))
            replace hKK := keep_alloc hKK (.cells #[.int .i64 p.var, .int .i64 p.op, .int .i64 p.imm, .int .i64 p.immVar, .slice A1 p.kids.length c1, .int .i64 q.var, .int .i64 q.op, .int .i64 q.imm, .int .i64 q.immVar, .slice A2 q.kids.length c2] 24)
            replace hsz := Nat.le_trans hsz ((Below.refl _ _).alloc (Nat.le_refl _) (.cells #[.int .i64 p.var, .int .i64 p.op, .int .i64 p.imm, .int .i64 p.immVar, .slice A1 p.kids.length c1, .int .i64 q.var, .int .i64 q.op, .int .i64 q.imm, .int .i64 q.immVar, .slice A2 q.kids.length c2] 24)).size
            replace hF1 := Kd.F_alloc hF1 (.cells #[.int .i64 p.var, .int .i64 p.op, .int .i64 p.imm, .int .i64 p.immVar, .slice A1 p.kids.length c1, .int .i64 q.var, .int .i64 q.op, .int .i64 q.imm, .int .i64 q.immVar, .slice A2 q.kids.length c2] 24)
            replace hF2 := Kd.F_alloc hF2 (.cells #[.int .i64 p.var, .int .i64 p.op, .int .i64 p.imm, .int .i64 p.immVar, .slice A1 p.kids.length c1, .int .i64 q.var, .int .i64 q.op, .int .i64 q.imm, .int .i64 q.immVar, .slice A2 q.kids.length c2] 24)
            refine hK.out _ _ trivial (fun hHeld => ?_)
            clear hK K
            refine norm_ (a' := ?_) ?_ ?_
            rotate_left
            · show Act.put _ (some 80) _ = _
              simp only [P4]
              rfl
            exact norm_ (by simp only [putAll, P4]) (hCont (w1d.heap.size, w3.heap.size, A1, c1, A2, c2) _ ⟨hbx, hN, hRd, hKK⟩)
          · skip
            refine value_ (w1 := ?_) (v := ?_) (by rfl) rfl ?_ ?_
            rotate_left 2
            · go_simp
              constructor
              · rfl
              · rfl
            have hN := F_new kPat w3 (fun k => w1d.heap.size ≤ k) [p, q] _ 24 (Reps.c5 (kPat_mkF _ _ p hc1 hF1) (Reps.c5 (kPat_mkF _ _ q hc2 hF2) (Reps.none _ _))) (by simp) hsz
            replace hbx := blk_below hbx ((Below.refl _ _).alloc (Nat.le_refl _) (.cells #[.int .i64 p.var, .int .i64 p.op, .int .i64 p.imm, .int .i64 p.immVar, .slice A1 p.kids.length c1, .int .i64 q.var, .int .i64 q.op, .int .i64 q.imm, .int .i64 q.immVar, .slice A2 q.kids.length c2] 24))
            replace hRd := hRd.below ((Below.refl _ _).alloc (Nat.le_refl _) (.cells #[.int .i64 p.var, .int .i64 p.op, .int .i64 p.imm, .int .i64 p.immVar, .slice A1 p.kids.length c1, .int .i64 q.var, .int .i64 q.op, .int .i64 q.imm, .int .i64 q.immVar, .slice A2 q.kids.length c2] 24))
            replace hKK := keep_alloc hKK (.cells #[.int .i64 p.var, .int .i64 p.op, .int .i64 p.imm, .int .i64 p.immVar, .slice A1 p.kids.length c1, .int .i64 q.var, .int .i64 q.op, .int .i64 q.imm, .int .i64 q.immVar, .slice A2 q.kids.length c2] 24)
            replace hsz := Nat.le_trans hsz ((Below.refl _ _).alloc (Nat.le_refl _) (.cells #[.int .i64 p.var, .int .i64 p.op, .int .i64 p.imm, .int .i64 p.immVar, .slice A1 p.kids.length c1, .int .i64 q.var, .int .i64 q.op, .int .i64 q.imm, .int .i64 q.immVar, .slice A2 q.kids.length c2] 24)).size
            replace hF1 := Kd.F_alloc hF1 (.cells #[.int .i64 p.var, .int .i64 p.op, .int .i64 p.imm, .int .i64 p.immVar, .slice A1 p.kids.length c1, .int .i64 q.var, .int .i64 q.op, .int .i64 q.imm, .int .i64 q.immVar, .slice A2 q.kids.length c2] 24)
            replace hF2 := Kd.F_alloc hF2 (.cells #[.int .i64 p.var, .int .i64 p.op, .int .i64 p.imm, .int .i64 p.immVar, .slice A1 p.kids.length c1, .int .i64 q.var, .int .i64 q.op, .int .i64 q.imm, .int .i64 q.immVar, .slice A2 q.kids.length c2] 24)
            replace hlit := cell_alloc hlit (.cells #[.int .i64 p.var, .int .i64 p.op, .int .i64 p.imm, .int .i64 p.immVar, .slice A1 p.kids.length c1, .int .i64 q.var, .int .i64 q.op, .int .i64 q.imm, .int .i64 q.immVar, .slice A2 q.kids.length c2] 24)
            refine hK.out _ _ trivial (fun hHeld => ?_)
            clear hK K
            refine norm_ (a' := ?_) ?_ ?_
            rotate_left
            · show Act.put _ (some 80) _ = _
              simp only [P4]
              rfl
            refine one_ (i := 4) (N := some 69) (bm 18 65535) rfl rfl (by kernel_rfl) (by decide) (fun K hK => ?_)
            refine value_ (w1 := ?_) (v := ?_) (by rfl) rfl ?_ ?_
            rotate_left 2
            · go_simp
              constructor
              · rfl
              · rfl
            refine hK.out _ _ trivial (fun hHeld => ?_)
            clear hK K
            refine norm_ (a' := ?_) ?_ ?_
            rotate_left
            · show Act.put _ (some 69) _ = _
              simp only [P4]
              rfl
            exact norm_ (by simp only [putAll, P4]) (hCont (w1d.heap.size, w3.heap.size, A1, c1, A2, c2) _ ⟨hbx, hN, hRd, hKK⟩)
    · skip
      refine goes_ Try.func41 (by kernel_rfl) rfl #[.pointer (some ⟨b, 0, none⟩), .int .i64 (wrap64 (D + 1)), .int .i64 vars] (by rfl) rfl rfl (by simp only [List.map_toArray, List.map_cons, List.map_nil]; rfl) ?_
      with_reducible refine (ih1 _ hRd).mono ?_
      rintro e w2 ⟨A1, c1, rfl, hc1, hF1, hRdn, hK⟩
      refine ⟨_, rfl, ?_⟩
      replace hbx := hK.blk hbx hgb (by simp)
      replace hKK := hKK.trans hK (.inl rfl)
      replace hF1 := Kd.F_mono hF1 (ok' := fun k => w1d.heap.size ≤ k) (fun k hk => Nat.le_trans hsz hk)
      replace hsz := Nat.le_trans hsz hK.1
      clear hK hRd
      have hRd := hRdn
      clear hRdn
      refine hK.out _ _ trivial (fun hHeld => ?_)
      clear hK K
      refine norm_ (a' := ?_) ?_ ?_
      rotate_left
      · show Act.put _ (some 74) _ = _
        simp only [P4]
        rfl
      refine two_ (i := 0) (j := 14) (Ni := some 65) (Nj := some 79) (bm 18 16359) (bm 18 32742) rfl rfl rfl rfl (by kernel_rfl) (by decide) (by decide) (fun K hK => ?_) (fun K hK => ?_)
      · skip
        refine value_ (w1 := ?_) (v := ?_) (by rfl) rfl ?_ ?_
        rotate_left 2
        · go_simp
          constructor
          · rfl
          · rfl
        have hg : w2.heap.size ≠ b := by have := hRd.lt; omega
        have hlit := (blk_cell (blk_new w2 (.cells #[.int .i64 4, .int .i64 5, .int .i64 6] 3)) 0).trans rfl
        replace hbx := blk_below hbx ((Below.refl _ _).alloc (Nat.le_refl _) (.cells #[.int .i64 4, .int .i64 5, .int .i64 6] 3))
        replace hRd := hRd.below ((Below.refl _ _).alloc (Nat.le_refl _) (.cells #[.int .i64 4, .int .i64 5, .int .i64 6] 3))
        replace hKK := keep_alloc hKK (.cells #[.int .i64 4, .int .i64 5, .int .i64 6] 3)
        replace hsz := Nat.le_trans hsz ((Below.refl _ _).alloc (Nat.le_refl _) (.cells #[.int .i64 4, .int .i64 5, .int .i64 6] 3)).size
        replace hF1 := Kd.F_alloc hF1 (.cells #[.int .i64 4, .int .i64 5, .int .i64 6] 3)
        refine hK.out _ _ trivial (fun hHeld => ?_)
        clear hK K
        refine norm_ (a' := ?_) ?_ ?_
        rotate_left
        · show Act.put _ (some 65) _ = _
          simp only [P4]
          rfl
        refine pure_ (i := 3) (N := some 68) (v := ?_) (a' := ?_) (bm 18 16367) rfl rfl (by kernel_rfl) (fun _ _ _ h => h) (Or.inl ⟨by rfl, ?_⟩) ?_ ?_
        rotate_left
        · intro w'; go_simp; with_reducible rfl
        rotate_left
        · simp only [P4]; rfl
        refine two_ (i := 4) (j := 14) (Ni := some 69) (Nj := some 79) (bm 18 16383) (bm 18 32751) rfl rfl rfl rfl (by kernel_rfl) (by decide) (by decide) (fun K hK => ?_) (fun K hK => ?_)
        · skip
          refine value_ (w1 := ?_) (v := ?_) (by rfl) rfl ?_ ?_
          rotate_left 2
          · go_simp
            constructor
            · rfl
            · rfl
          refine hK.out _ _ trivial (fun hHeld => ?_)
          clear hK K
          refine norm_ (a' := ?_) ?_ ?_
          rotate_left
          · show Act.put _ (some 69) _ = _
            simp only [P4]
            rfl
          refine one_ (i := 14) (N := some 79) (bm 18 32767) rfl rfl (by kernel_rfl) (by decide) (fun K hK => ?_)
          refine goes_ Try.func41 (by kernel_rfl) rfl #[.pointer (some ⟨b, 0, none⟩), .int .i64 (wrap64 (D + 1)), .int .i64 vars] (by rfl) rfl rfl (by simp only [List.map_toArray, List.map_cons, List.map_nil]; rfl) ?_
          with_reducible refine (ih2 _ hRd).mono ?_
          rintro e w3 ⟨A2, c2, rfl, hc2, hF2, hRdn, hK⟩
          refine ⟨_, rfl, ?_⟩
          replace hbx := hK.blk hbx hgb (by simp)
          replace hKK := hKK.trans hK (.inl rfl)
          replace hF2 := Kd.F_mono hF2 (ok' := fun k => w1d.heap.size ≤ k) (fun k hk => Nat.le_trans hsz hk)
          replace hF1 := Kd.F_keep hF1 hK (fun k hk e => by omega)
          replace hsz := Nat.le_trans hsz hK.1
          clear hK hRd
          have hRd := hRdn
          clear hRdn
          refine hK.out _ _ trivial (fun hHeld => ?_)
          clear hK K
          refine norm_ (a' := ?_) ?_ ?_
          rotate_left
          · show Act.put _ (some 79) _ = _
            simp only [P4]
            rfl
          refine one_ (i := 15) (N := some 80) (bm 18 65535) rfl rfl (by kernel_rfl) (by decide) (fun K hK => ?_)
          refine value_ (w1 := ?_) (v := ?_) (by rfl) rfl ?_ ?_
          rotate_left 2
          · go_simp
            constructor
            · rfl
            · rfl
          have hN := F_new kPat w3 (fun k => w1d.heap.size ≤ k) [p, q] _ 24 (Reps.c5 (kPat_mkF _ _ p hc1 hF1) (Reps.c5 (kPat_mkF _ _ q hc2 hF2) (Reps.none _ _))) (by simp) hsz
          replace hbx := blk_below hbx ((Below.refl _ _).alloc (Nat.le_refl _) (.cells #[.int .i64 p.var, .int .i64 p.op, .int .i64 p.imm, .int .i64 p.immVar, .slice A1 p.kids.length c1, .int .i64 q.var, .int .i64 q.op, .int .i64 q.imm, .int .i64 q.immVar, .slice A2 q.kids.length c2] 24))
          replace hRd := hRd.below ((Below.refl _ _).alloc (Nat.le_refl _) (.cells #[.int .i64 p.var, .int .i64 p.op, .int .i64 p.imm, .int .i64 p.immVar, .slice A1 p.kids.length c1, .int .i64 q.var, .int .i64 q.op, .int .i64 q.imm, .int .i64 q.immVar, .slice A2 q.kids.length c2] 24))
          replace hKK := keep_alloc hKK (.cells #[.int .i64 p.var, .int .i64 p.op, .int .i64 p.imm, .int .i64 p.immVar, .slice A1 p.kids.length c1, .int .i64 q.var, .int .i64 q.op, .int .i64 q.imm, .int .i64 q.immVar, .slice A2 q.kids.length c2] 24)
          replace hsz := Nat.le_trans hsz ((Below.refl _ _).alloc (Nat.le_refl _) (.cells #[.int .i64 p.var, .int .i64 p.op, .int .i64 p.imm, .int .i64 p.immVar, .slice A1 p.kids.length c1, .int .i64 q.var, .int .i64 q.op, .int .i64 q.imm, .int .i64 q.immVar, .slice A2 q.kids.length c2] 24)).size
          replace hF1 := Kd.F_alloc hF1 (.cells #[.int .i64 p.var, .int .i64 p.op, .int .i64 p.imm, .int .i64 p.immVar, .slice A1 p.kids.length c1, .int .i64 q.var, .int .i64 q.op, .int .i64 q.imm, .int .i64 q.immVar, .slice A2 q.kids.length c2] 24)
          replace hF2 := Kd.F_alloc hF2 (.cells #[.int .i64 p.var, .int .i64 p.op, .int .i64 p.imm, .int .i64 p.immVar, .slice A1 p.kids.length c1, .int .i64 q.var, .int .i64 q.op, .int .i64 q.imm, .int .i64 q.immVar, .slice A2 q.kids.length c2] 24)
          refine hK.out _ _ trivial (fun hHeld => ?_)
          clear hK K
          refine norm_ (a' := ?_) ?_ ?_
          rotate_left
          · show Act.put _ (some 80) _ = _
            simp only [P4]
            rfl
          exact norm_ (by simp only [putAll, P4]) (hCont (w2.heap.size, w3.heap.size, A1, c1, A2, c2) _ ⟨hbx, hN, hRd, hKK⟩)
        · skip
          refine goes_ Try.func41 (by kernel_rfl) rfl #[.pointer (some ⟨b, 0, none⟩), .int .i64 (wrap64 (D + 1)), .int .i64 vars] (by rfl) rfl rfl (by simp only [List.map_toArray, List.map_cons, List.map_nil]; rfl) ?_
          with_reducible refine (ih2 _ hRd).mono ?_
          rintro e w3 ⟨A2, c2, rfl, hc2, hF2, hRdn, hK⟩
          refine ⟨_, rfl, ?_⟩
          replace hbx := hK.blk hbx hgb (by simp)
          replace hKK := hKK.trans hK (.inl rfl)
          replace hF2 := Kd.F_mono hF2 (ok' := fun k => w1d.heap.size ≤ k) (fun k hk => Nat.le_trans hsz hk)
          replace hF1 := Kd.F_keep hF1 hK (fun k hk e => by omega)
          replace hlit := keep_cell hK hlit hg
          replace hsz := Nat.le_trans hsz hK.1
          clear hK hRd
          have hRd := hRdn
          clear hRdn
          refine hK.out _ _ trivial (fun hHeld => ?_)
          clear hK K
          refine norm_ (a' := ?_) ?_ ?_
          rotate_left
          · show Act.put _ (some 79) _ = _
            simp only [P4]
            rfl
          refine two_ (i := 4) (j := 15) (Ni := some 69) (Nj := some 80) (bm 18 32767) (bm 18 65519) rfl rfl rfl rfl (by kernel_rfl) (by decide) (by decide) (fun K hK => ?_) (fun K hK => ?_)
          · skip
            refine value_ (w1 := ?_) (v := ?_) (by rfl) rfl ?_ ?_
            rotate_left 2
            · go_simp
              constructor
              · rfl
              · rfl
            refine hK.out _ _ trivial (fun hHeld => ?_)
            clear hK K
            refine norm_ (a' := ?_) ?_ ?_
            rotate_left
            · show Act.put _ (some 69) _ = _
              simp only [P4]
              rfl
            refine one_ (i := 15) (N := some 80) (bm 18 65535) rfl rfl (by kernel_rfl) (by decide) (fun K hK => ?_)
            refine value_ (w1 := ?_) (v := ?_) (by rfl) rfl ?_ ?_
            rotate_left 2
            · go_simp
              constructor
              · rfl
              · rfl
            have hN := F_new kPat w3 (fun k => w1d.heap.size ≤ k) [p, q] _ 24 (Reps.c5 (kPat_mkF _ _ p hc1 hF1) (Reps.c5 (kPat_mkF _ _ q hc2 hF2) (Reps.none _ _))) (by simp) hsz
            replace hbx := blk_below hbx ((Below.refl _ _).alloc (Nat.le_refl _) (.cells #[.int .i64 p.var, .int .i64 p.op, .int .i64 p.imm, .int .i64 p.immVar, .slice A1 p.kids.length c1, .int .i64 q.var, .int .i64 q.op, .int .i64 q.imm, .int .i64 q.immVar, .slice A2 q.kids.length c2] 24))
            replace hRd := hRd.below ((Below.refl _ _).alloc (Nat.le_refl _) (.cells #[.int .i64 p.var, .int .i64 p.op, .int .i64 p.imm, .int .i64 p.immVar, .slice A1 p.kids.length c1, .int .i64 q.var, .int .i64 q.op, .int .i64 q.imm, .int .i64 q.immVar, .slice A2 q.kids.length c2] 24))
            replace hKK := keep_alloc hKK (.cells #[.int .i64 p.var, .int .i64 p.op, .int .i64 p.imm, .int .i64 p.immVar, .slice A1 p.kids.length c1, .int .i64 q.var, .int .i64 q.op, .int .i64 q.imm, .int .i64 q.immVar, .slice A2 q.kids.length c2] 24)
            replace hsz := Nat.le_trans hsz ((Below.refl _ _).alloc (Nat.le_refl _) (.cells #[.int .i64 p.var, .int .i64 p.op, .int .i64 p.imm, .int .i64 p.immVar, .slice A1 p.kids.length c1, .int .i64 q.var, .int .i64 q.op, .int .i64 q.imm, .int .i64 q.immVar, .slice A2 q.kids.length c2] 24)).size
            replace hF1 := Kd.F_alloc hF1 (.cells #[.int .i64 p.var, .int .i64 p.op, .int .i64 p.imm, .int .i64 p.immVar, .slice A1 p.kids.length c1, .int .i64 q.var, .int .i64 q.op, .int .i64 q.imm, .int .i64 q.immVar, .slice A2 q.kids.length c2] 24)
            replace hF2 := Kd.F_alloc hF2 (.cells #[.int .i64 p.var, .int .i64 p.op, .int .i64 p.imm, .int .i64 p.immVar, .slice A1 p.kids.length c1, .int .i64 q.var, .int .i64 q.op, .int .i64 q.imm, .int .i64 q.immVar, .slice A2 q.kids.length c2] 24)
            refine hK.out _ _ trivial (fun hHeld => ?_)
            clear hK K
            refine norm_ (a' := ?_) ?_ ?_
            rotate_left
            · show Act.put _ (some 80) _ = _
              simp only [P4]
              rfl
            exact norm_ (by simp only [putAll, P4]) (hCont (w2.heap.size, w3.heap.size, A1, c1, A2, c2) _ ⟨hbx, hN, hRd, hKK⟩)
          · skip
            refine value_ (w1 := ?_) (v := ?_) (by rfl) rfl ?_ ?_
            rotate_left 2
            · go_simp
              constructor
              · rfl
              · rfl
            have hN := F_new kPat w3 (fun k => w1d.heap.size ≤ k) [p, q] _ 24 (Reps.c5 (kPat_mkF _ _ p hc1 hF1) (Reps.c5 (kPat_mkF _ _ q hc2 hF2) (Reps.none _ _))) (by simp) hsz
            replace hbx := blk_below hbx ((Below.refl _ _).alloc (Nat.le_refl _) (.cells #[.int .i64 p.var, .int .i64 p.op, .int .i64 p.imm, .int .i64 p.immVar, .slice A1 p.kids.length c1, .int .i64 q.var, .int .i64 q.op, .int .i64 q.imm, .int .i64 q.immVar, .slice A2 q.kids.length c2] 24))
            replace hRd := hRd.below ((Below.refl _ _).alloc (Nat.le_refl _) (.cells #[.int .i64 p.var, .int .i64 p.op, .int .i64 p.imm, .int .i64 p.immVar, .slice A1 p.kids.length c1, .int .i64 q.var, .int .i64 q.op, .int .i64 q.imm, .int .i64 q.immVar, .slice A2 q.kids.length c2] 24))
            replace hKK := keep_alloc hKK (.cells #[.int .i64 p.var, .int .i64 p.op, .int .i64 p.imm, .int .i64 p.immVar, .slice A1 p.kids.length c1, .int .i64 q.var, .int .i64 q.op, .int .i64 q.imm, .int .i64 q.immVar, .slice A2 q.kids.length c2] 24)
            replace hsz := Nat.le_trans hsz ((Below.refl _ _).alloc (Nat.le_refl _) (.cells #[.int .i64 p.var, .int .i64 p.op, .int .i64 p.imm, .int .i64 p.immVar, .slice A1 p.kids.length c1, .int .i64 q.var, .int .i64 q.op, .int .i64 q.imm, .int .i64 q.immVar, .slice A2 q.kids.length c2] 24)).size
            replace hF1 := Kd.F_alloc hF1 (.cells #[.int .i64 p.var, .int .i64 p.op, .int .i64 p.imm, .int .i64 p.immVar, .slice A1 p.kids.length c1, .int .i64 q.var, .int .i64 q.op, .int .i64 q.imm, .int .i64 q.immVar, .slice A2 q.kids.length c2] 24)
            replace hF2 := Kd.F_alloc hF2 (.cells #[.int .i64 p.var, .int .i64 p.op, .int .i64 p.imm, .int .i64 p.immVar, .slice A1 p.kids.length c1, .int .i64 q.var, .int .i64 q.op, .int .i64 q.imm, .int .i64 q.immVar, .slice A2 q.kids.length c2] 24)
            replace hlit := cell_alloc hlit (.cells #[.int .i64 p.var, .int .i64 p.op, .int .i64 p.imm, .int .i64 p.immVar, .slice A1 p.kids.length c1, .int .i64 q.var, .int .i64 q.op, .int .i64 q.imm, .int .i64 q.immVar, .slice A2 q.kids.length c2] 24)
            refine hK.out _ _ trivial (fun hHeld => ?_)
            clear hK K
            refine norm_ (a' := ?_) ?_ ?_
            rotate_left
            · show Act.put _ (some 80) _ = _
              simp only [P4]
              rfl
            refine one_ (i := 4) (N := some 69) (bm 18 65535) rfl rfl (by kernel_rfl) (by decide) (fun K hK => ?_)
            refine value_ (w1 := ?_) (v := ?_) (by rfl) rfl ?_ ?_
            rotate_left 2
            · go_simp
              constructor
              · rfl
              · rfl
            refine hK.out _ _ trivial (fun hHeld => ?_)
            clear hK K
            refine norm_ (a' := ?_) ?_ ?_
            rotate_left
            · show Act.put _ (some 69) _ = _
              simp only [P4]
              rfl
            exact norm_ (by simp only [putAll, P4]) (hCont (w2.heap.size, w3.heap.size, A1, c1, A2, c2) _ ⟨hbx, hN, hRd, hKK⟩)
      · skip
        refine goes_ Try.func41 (by kernel_rfl) rfl #[.pointer (some ⟨b, 0, none⟩), .int .i64 (wrap64 (D + 1)), .int .i64 vars] (by rfl) rfl rfl (by simp only [List.map_toArray, List.map_cons, List.map_nil]; rfl) ?_
        with_reducible refine (ih2 _ hRd).mono ?_
        rintro e w3 ⟨A2, c2, rfl, hc2, hF2, hRdn, hK⟩
        refine ⟨_, rfl, ?_⟩
        replace hbx := hK.blk hbx hgb (by simp)
        replace hKK := hKK.trans hK (.inl rfl)
        replace hF2 := Kd.F_mono hF2 (ok' := fun k => w1d.heap.size ≤ k) (fun k hk => Nat.le_trans hsz hk)
        replace hF1 := Kd.F_keep hF1 hK (fun k hk e => by omega)
        replace hsz := Nat.le_trans hsz hK.1
        clear hK hRd
        have hRd := hRdn
        clear hRdn
        refine hK.out _ _ trivial (fun hHeld => ?_)
        clear hK K
        refine norm_ (a' := ?_) ?_ ?_
        rotate_left
        · show Act.put _ (some 79) _ = _
          simp only [P4]
          rfl
        refine two_ (i := 0) (j := 15) (Ni := some 65) (Nj := some 80) (bm 18 32743) (bm 18 65510) rfl rfl rfl rfl (by kernel_rfl) (by decide) (by decide) (fun K hK => ?_) (fun K hK => ?_)
        · skip
          refine value_ (w1 := ?_) (v := ?_) (by rfl) rfl ?_ ?_
          rotate_left 2
          · go_simp
            constructor
            · rfl
            · rfl
          have hg : w3.heap.size ≠ b := by have := hRd.lt; omega
          have hlit := (blk_cell (blk_new w3 (.cells #[.int .i64 4, .int .i64 5, .int .i64 6] 3)) 0).trans rfl
          replace hbx := blk_below hbx ((Below.refl _ _).alloc (Nat.le_refl _) (.cells #[.int .i64 4, .int .i64 5, .int .i64 6] 3))
          replace hRd := hRd.below ((Below.refl _ _).alloc (Nat.le_refl _) (.cells #[.int .i64 4, .int .i64 5, .int .i64 6] 3))
          replace hKK := keep_alloc hKK (.cells #[.int .i64 4, .int .i64 5, .int .i64 6] 3)
          replace hsz := Nat.le_trans hsz ((Below.refl _ _).alloc (Nat.le_refl _) (.cells #[.int .i64 4, .int .i64 5, .int .i64 6] 3)).size
          replace hF1 := Kd.F_alloc hF1 (.cells #[.int .i64 4, .int .i64 5, .int .i64 6] 3)
          replace hF2 := Kd.F_alloc hF2 (.cells #[.int .i64 4, .int .i64 5, .int .i64 6] 3)
          refine hK.out _ _ trivial (fun hHeld => ?_)
          clear hK K
          refine norm_ (a' := ?_) ?_ ?_
          rotate_left
          · show Act.put _ (some 65) _ = _
            simp only [P4]
            rfl
          refine pure_ (i := 3) (N := some 68) (v := ?_) (a' := ?_) (bm 18 32751) rfl rfl (by kernel_rfl) (fun _ _ _ h => h) (Or.inl ⟨by rfl, ?_⟩) ?_ ?_
          rotate_left
          · intro w'; go_simp; with_reducible rfl
          rotate_left
          · simp only [P4]; rfl
          refine two_ (i := 4) (j := 15) (Ni := some 69) (Nj := some 80) (bm 18 32767) (bm 18 65519) rfl rfl rfl rfl (by kernel_rfl) (by decide) (by decide) (fun K hK => ?_) (fun K hK => ?_)
          · skip
            refine value_ (w1 := ?_) (v := ?_) (by rfl) rfl ?_ ?_
            rotate_left 2
            · go_simp
              constructor
              · rfl
              · rfl
            refine hK.out _ _ trivial (fun hHeld => ?_)
            clear hK K
            refine norm_ (a' := ?_) ?_ ?_
            rotate_left
            · show Act.put _ (some 69) _ = _
              simp only [P4]
              rfl
            refine one_ (i := 15) (N := some 80) (bm 18 65535) rfl rfl (by kernel_rfl) (by decide) (fun K hK => ?_)
            refine value_ (w1 := ?_) (v := ?_) (by rfl) rfl ?_ ?_
            rotate_left 2
            · go_simp
              constructor
              · rfl
              · rfl
            have hN := F_new kPat (w3.alloc (.cells #[.int .i64 4, .int .i64 5, .int .i64 6] 3)) (fun k => w1d.heap.size ≤ k) [p, q] _ 24 (Reps.c5 (kPat_mkF _ _ p hc1 hF1) (Reps.c5 (kPat_mkF _ _ q hc2 hF2) (Reps.none _ _))) (by simp) hsz
            simp only [World.size_alloc] at hN
            replace hbx := blk_below hbx ((Below.refl _ _).alloc (Nat.le_refl _) (.cells #[.int .i64 p.var, .int .i64 p.op, .int .i64 p.imm, .int .i64 p.immVar, .slice A1 p.kids.length c1, .int .i64 q.var, .int .i64 q.op, .int .i64 q.imm, .int .i64 q.immVar, .slice A2 q.kids.length c2] 24))
            replace hRd := hRd.below ((Below.refl _ _).alloc (Nat.le_refl _) (.cells #[.int .i64 p.var, .int .i64 p.op, .int .i64 p.imm, .int .i64 p.immVar, .slice A1 p.kids.length c1, .int .i64 q.var, .int .i64 q.op, .int .i64 q.imm, .int .i64 q.immVar, .slice A2 q.kids.length c2] 24))
            replace hKK := keep_alloc hKK (.cells #[.int .i64 p.var, .int .i64 p.op, .int .i64 p.imm, .int .i64 p.immVar, .slice A1 p.kids.length c1, .int .i64 q.var, .int .i64 q.op, .int .i64 q.imm, .int .i64 q.immVar, .slice A2 q.kids.length c2] 24)
            replace hsz := Nat.le_trans hsz ((Below.refl _ _).alloc (Nat.le_refl _) (.cells #[.int .i64 p.var, .int .i64 p.op, .int .i64 p.imm, .int .i64 p.immVar, .slice A1 p.kids.length c1, .int .i64 q.var, .int .i64 q.op, .int .i64 q.imm, .int .i64 q.immVar, .slice A2 q.kids.length c2] 24)).size
            replace hF1 := Kd.F_alloc hF1 (.cells #[.int .i64 p.var, .int .i64 p.op, .int .i64 p.imm, .int .i64 p.immVar, .slice A1 p.kids.length c1, .int .i64 q.var, .int .i64 q.op, .int .i64 q.imm, .int .i64 q.immVar, .slice A2 q.kids.length c2] 24)
            replace hF2 := Kd.F_alloc hF2 (.cells #[.int .i64 p.var, .int .i64 p.op, .int .i64 p.imm, .int .i64 p.immVar, .slice A1 p.kids.length c1, .int .i64 q.var, .int .i64 q.op, .int .i64 q.imm, .int .i64 q.immVar, .slice A2 q.kids.length c2] 24)
            refine hK.out _ _ trivial (fun hHeld => ?_)
            clear hK K
            refine norm_ (a' := ?_) ?_ ?_
            rotate_left
            · show Act.put _ (some 80) _ = _
              simp only [P4]
              rfl
            exact norm_ (by simp only [putAll, P4]) (hCont (w3.heap.size, w3.heap.size + 1, A1, c1, A2, c2) _ ⟨hbx, hN, hRd, hKK⟩)
          · skip
            refine value_ (w1 := ?_) (v := ?_) (by rfl) rfl ?_ ?_
            rotate_left 2
            · go_simp
              constructor
              · rfl
              · rfl
            have hN := F_new kPat (w3.alloc (.cells #[.int .i64 4, .int .i64 5, .int .i64 6] 3)) (fun k => w1d.heap.size ≤ k) [p, q] _ 24 (Reps.c5 (kPat_mkF _ _ p hc1 hF1) (Reps.c5 (kPat_mkF _ _ q hc2 hF2) (Reps.none _ _))) (by simp) hsz
            simp only [World.size_alloc] at hN
            replace hbx := blk_below hbx ((Below.refl _ _).alloc (Nat.le_refl _) (.cells #[.int .i64 p.var, .int .i64 p.op, .int .i64 p.imm, .int .i64 p.immVar, .slice A1 p.kids.length c1, .int .i64 q.var, .int .i64 q.op, .int .i64 q.imm, .int .i64 q.immVar, .slice A2 q.kids.length c2] 24))
            replace hRd := hRd.below ((Below.refl _ _).alloc (Nat.le_refl _) (.cells #[.int .i64 p.var, .int .i64 p.op, .int .i64 p.imm, .int .i64 p.immVar, .slice A1 p.kids.length c1, .int .i64 q.var, .int .i64 q.op, .int .i64 q.imm, .int .i64 q.immVar, .slice A2 q.kids.length c2] 24))
            replace hKK := keep_alloc hKK (.cells #[.int .i64 p.var, .int .i64 p.op, .int .i64 p.imm, .int .i64 p.immVar, .slice A1 p.kids.length c1, .int .i64 q.var, .int .i64 q.op, .int .i64 q.imm, .int .i64 q.immVar, .slice A2 q.kids.length c2] 24)
            replace hsz := Nat.le_trans hsz ((Below.refl _ _).alloc (Nat.le_refl _) (.cells #[.int .i64 p.var, .int .i64 p.op, .int .i64 p.imm, .int .i64 p.immVar, .slice A1 p.kids.length c1, .int .i64 q.var, .int .i64 q.op, .int .i64 q.imm, .int .i64 q.immVar, .slice A2 q.kids.length c2] 24)).size
            replace hF1 := Kd.F_alloc hF1 (.cells #[.int .i64 p.var, .int .i64 p.op, .int .i64 p.imm, .int .i64 p.immVar, .slice A1 p.kids.length c1, .int .i64 q.var, .int .i64 q.op, .int .i64 q.imm, .int .i64 q.immVar, .slice A2 q.kids.length c2] 24)
            replace hF2 := Kd.F_alloc hF2 (.cells #[.int .i64 p.var, .int .i64 p.op, .int .i64 p.imm, .int .i64 p.immVar, .slice A1 p.kids.length c1, .int .i64 q.var, .int .i64 q.op, .int .i64 q.imm, .int .i64 q.immVar, .slice A2 q.kids.length c2] 24)
            replace hlit := cell_alloc hlit (.cells #[.int .i64 p.var, .int .i64 p.op, .int .i64 p.imm, .int .i64 p.immVar, .slice A1 p.kids.length c1, .int .i64 q.var, .int .i64 q.op, .int .i64 q.imm, .int .i64 q.immVar, .slice A2 q.kids.length c2] 24)
            refine hK.out _ _ trivial (fun hHeld => ?_)
            clear hK K
            refine norm_ (a' := ?_) ?_ ?_
            rotate_left
            · show Act.put _ (some 80) _ = _
              simp only [P4]
              rfl
            refine one_ (i := 4) (N := some 69) (bm 18 65535) rfl rfl (by kernel_rfl) (by decide) (fun K hK => ?_)
            refine value_ (w1 := ?_) (v := ?_) (by rfl) rfl ?_ ?_
            rotate_left 2
            · go_simp
              constructor
              · rfl
              · rfl
            refine hK.out _ _ trivial (fun hHeld => ?_)
            clear hK K
            refine norm_ (a' := ?_) ?_ ?_
            rotate_left
            · show Act.put _ (some 69) _ = _
              simp only [P4]
              rfl
            exact norm_ (by simp only [putAll, P4]) (hCont (w3.heap.size, w3.heap.size + 1, A1, c1, A2, c2) _ ⟨hbx, hN, hRd, hKK⟩)
        · skip
          refine value_ (w1 := ?_) (v := ?_) (by rfl) rfl ?_ ?_
          rotate_left 2
          · go_simp
            constructor
            · rfl
            · rfl
          have hN := F_new kPat w3 (fun k => w1d.heap.size ≤ k) [p, q] _ 24 (Reps.c5 (kPat_mkF _ _ p hc1 hF1) (Reps.c5 (kPat_mkF _ _ q hc2 hF2) (Reps.none _ _))) (by simp) hsz
          replace hbx := blk_below hbx ((Below.refl _ _).alloc (Nat.le_refl _) (.cells #[.int .i64 p.var, .int .i64 p.op, .int .i64 p.imm, .int .i64 p.immVar, .slice A1 p.kids.length c1, .int .i64 q.var, .int .i64 q.op, .int .i64 q.imm, .int .i64 q.immVar, .slice A2 q.kids.length c2] 24))
          replace hRd := hRd.below ((Below.refl _ _).alloc (Nat.le_refl _) (.cells #[.int .i64 p.var, .int .i64 p.op, .int .i64 p.imm, .int .i64 p.immVar, .slice A1 p.kids.length c1, .int .i64 q.var, .int .i64 q.op, .int .i64 q.imm, .int .i64 q.immVar, .slice A2 q.kids.length c2] 24))
          replace hKK := keep_alloc hKK (.cells #[.int .i64 p.var, .int .i64 p.op, .int .i64 p.imm, .int .i64 p.immVar, .slice A1 p.kids.length c1, .int .i64 q.var, .int .i64 q.op, .int .i64 q.imm, .int .i64 q.immVar, .slice A2 q.kids.length c2] 24)
          replace hsz := Nat.le_trans hsz ((Below.refl _ _).alloc (Nat.le_refl _) (.cells #[.int .i64 p.var, .int .i64 p.op, .int .i64 p.imm, .int .i64 p.immVar, .slice A1 p.kids.length c1, .int .i64 q.var, .int .i64 q.op, .int .i64 q.imm, .int .i64 q.immVar, .slice A2 q.kids.length c2] 24)).size
          replace hF1 := Kd.F_alloc hF1 (.cells #[.int .i64 p.var, .int .i64 p.op, .int .i64 p.imm, .int .i64 p.immVar, .slice A1 p.kids.length c1, .int .i64 q.var, .int .i64 q.op, .int .i64 q.imm, .int .i64 q.immVar, .slice A2 q.kids.length c2] 24)
          replace hF2 := Kd.F_alloc hF2 (.cells #[.int .i64 p.var, .int .i64 p.op, .int .i64 p.imm, .int .i64 p.immVar, .slice A1 p.kids.length c1, .int .i64 q.var, .int .i64 q.op, .int .i64 q.imm, .int .i64 q.immVar, .slice A2 q.kids.length c2] 24)
          refine hK.out _ _ trivial (fun hHeld => ?_)
          clear hK K
          refine norm_ (a' := ?_) ?_ ?_
          rotate_left
          · show Act.put _ (some 80) _ = _
            simp only [P4]
            rfl
          refine one_ (i := 0) (N := some 65) (bm 18 65511) rfl rfl (by kernel_rfl) (by decide) (fun K hK => ?_)
          refine value_ (w1 := ?_) (v := ?_) (by rfl) rfl ?_ ?_
          rotate_left 2
          · go_simp
            constructor
            · rfl
            · rfl
          have hg : (w3.alloc (.cells #[.int .i64 p.var, .int .i64 p.op, .int .i64 p.imm, .int .i64 p.immVar, .slice A1 p.kids.length c1, .int .i64 q.var, .int .i64 q.op, .int .i64 q.imm, .int .i64 q.immVar, .slice A2 q.kids.length c2] 24)).heap.size ≠ b := by have := hRd.lt; omega
          have hlit := (blk_cell (blk_new (w3.alloc (.cells #[.int .i64 p.var, .int .i64 p.op, .int .i64 p.imm, .int .i64 p.immVar, .slice A1 p.kids.length c1, .int .i64 q.var, .int .i64 q.op, .int .i64 q.imm, .int .i64 q.immVar, .slice A2 q.kids.length c2] 24)) (.cells #[.int .i64 4, .int .i64 5, .int .i64 6] 3)) 0).trans rfl
          replace hbx := blk_below hbx ((Below.refl _ _).alloc (Nat.le_refl _) (.cells #[.int .i64 4, .int .i64 5, .int .i64 6] 3))
          replace hRd := hRd.below ((Below.refl _ _).alloc (Nat.le_refl _) (.cells #[.int .i64 4, .int .i64 5, .int .i64 6] 3))
          replace hKK := keep_alloc hKK (.cells #[.int .i64 4, .int .i64 5, .int .i64 6] 3)
          replace hsz := Nat.le_trans hsz ((Below.refl _ _).alloc (Nat.le_refl _) (.cells #[.int .i64 4, .int .i64 5, .int .i64 6] 3)).size
          replace hF1 := Kd.F_alloc hF1 (.cells #[.int .i64 4, .int .i64 5, .int .i64 6] 3)
          replace hF2 := Kd.F_alloc hF2 (.cells #[.int .i64 4, .int .i64 5, .int .i64 6] 3)
          replace hN := Kd.F_alloc hN (.cells #[.int .i64 4, .int .i64 5, .int .i64 6] 3)
          refine hK.out _ _ trivial (fun hHeld => ?_)
          clear hK K
          refine norm_ (a' := ?_) ?_ ?_
          rotate_left
          · show Act.put _ (some 65) _ = _
            simp only [P4]
            rfl
          refine pure_ (i := 3) (N := some 68) (v := ?_) (a' := ?_) (bm 18 65519) rfl rfl (by kernel_rfl) (fun _ _ _ h => h) (Or.inl ⟨by rfl, ?_⟩) ?_ ?_
          rotate_left
          · intro w'; go_simp; with_reducible rfl
          rotate_left
          · simp only [P4]; rfl
          refine one_ (i := 4) (N := some 69) (bm 18 65535) rfl rfl (by kernel_rfl) (by decide) (fun K hK => ?_)
          refine value_ (w1 := ?_) (v := ?_) (by rfl) rfl ?_ ?_
          rotate_left 2
          · go_simp
            constructor
            · rfl
            · rfl
          refine hK.out _ _ trivial (fun hHeld => ?_)
          clear hK K
          refine norm_ (a' := ?_) ?_ ?_
          rotate_left
          · show Act.put _ (some 69) _ = _
            simp only [P4]
            rfl
          exact norm_ (by simp only [putAll, P4]) (hCont (w3.heap.size + 1, w3.heap.size, A1, c1, A2, c2) _ ⟨hbx, hN, hRd, hKK⟩)
  rintro ⟨g, gk, A1, c1, A2, c2⟩ w4 ⟨hbx, hN, hRd, hKK⟩
  have hHeld : True := trivial
  refine norm_ (a' := ?_) ?_ ?_
  rotate_left
  · simp only [putAll, P4]
    rfl
  refine pure_ (i := 16) (N := some 81) (v := ?_) (a' := ?_) (bm 18 131071) rfl rfl (by kernel_rfl) (fun _ _ _ h => h) (Or.inl ⟨by rfl, ?_⟩) ?_ ?_
  rotate_left
  · intro w'; go_simp; with_reducible rfl
  rotate_left
  · simp only [P4]; rfl
  refine one_ (i := 17) (N := none) (bm 18 262143) rfl rfl (by kernel_rfl) (by decide) (fun K hK => ?_)
  have c0 := (blk_cell hbx 0).trans rfl
  have c1 := (blk_cell hbx 1).trans rfl
  have c2 := (blk_cell hbx 2).trans rfl
  have c3 := (blk_cell hbx 3).trans rfl
  have c4 := (blk_cell hbx 4).trans rfl
  have hfz := fun j => blk_frozen hbx j
  refine skip_ (w1 := ?_) (by rfl) rfl ?_ ?_
  rotate_left
  · go_simp
    rfl
  refine hK.out _ _ trivial (fun hHeld => ?_)
  clear hK K
  refine done_ (by kernel_rfl) ?_
  go_wp2
  refine bodyPost_ret (results_cell_row rfl _ _ w.heap.size 24 _ (0, 0) _ rfl (put5 hbx _ _ _ _ _) Try.underlying24 rfl (by kernel_rfl)) rfl ?_
  rw [E.out]
  exact ⟨_, 2, rfl, Nat.le_refl _, Kd.F_mono (F_far5 hN (fun k hk e => by omega) _ _ _ _ _) (fun k hk => by omega), hRd.far5 hgw hgb _ _ _ _ _, keep_far5 hKK (Nat.le_refl _) _ _ _ _ _⟩
set_option maxHeartbeats 1000000 in
set_option maxRecDepth 100000 in
theorem pat_bin1 (vars : Int) (hv : 1 ≤ vars) (hv2 : vars ≤ 6) (d : Nat) (hd4 : d < 4) (ih : PatC vars d) (w0 w : World) (b : Nat) (ls : List Int) (hRd : Rd w0 w b ls) (hls : ∀ n ∈ ls, I64 n) (hk1 : 6 ≤ ls.headD 0 % 11) (hk2 : (ls.headD 0).tdiv 11 % 1000 % 3 = 1) :
    Calls Try.prog 41 #[.pointer (some ⟨b, 0, none⟩), .int .i64 (4 - (d + 1 : Nat)), .int .i64 vars] w (PatRes w0 w b (genPat vars (d + 1) ls)) := by
  have hls1 := mem_tail_i64 hls
  have ih1 := fun W h => ih w0 W b ls.tail h hls1
  have ih2 := fun W h => ih w0 W b (genPat vars d ls.tail).2 h (genPat_i64 vars d _ hls1)
  obtain ⟨D, hD⟩ : ∃ D : Int, D = 4 - (d + 1 : Nat) := ⟨_, rfl⟩
  have hD1 : (4 - (d : Int)) = D + 1 := by omega
  have hD0 : 0 ≤ D ∧ D ≤ 3 := by omega
  have hwD : wrap64 (D + 1) = D + 1 := by rw [wrap64]; omega
  rw [hD1] at ih1 ih2
  rw [← hD]
  clear hD
  have hn := head_i64 hls
  have hd := tdiv_i64 hn (show (2 : Int) ≤ 11 by decide)
  have hnx := fun W h => Next_calls w0 W b ls h
  obtain ⟨n, hnn⟩ : ∃ n, n = ls.headD 0 := ⟨_, rfl⟩
  have E : Hid (genPat vars (d + 1) ls = (⟨0, 5, 0, 0, [(genPat vars d ls.tail).1, (genPat vars d (genPat vars d ls.tail).2).1]⟩, (genPat vars d (genPat vars d ls.tail).2).2)) := Lib.hid (by (try rw [hnn]); simp only [genPat]; rw [if_neg (by omega), if_neg (by omega), if_neg (by omega), if_neg (by omega), if_neg (by omega), if_pos hk2])
  rw [← hnn] at hnx hn hd
  have hw : wrap64 (n.tdiv 11) = n.tdiv 11 := by unfold I64 at hd; rw [wrap64]; omega
  have pc1 := fun W => Pick_calls n 11 W (by decide) (by decide)
  have pc2 := fun W => Pick_calls (n.tdiv 11) 1000 W (by decide) (by decide)
  obtain ⟨k, hk⟩ : ∃ k, k = n % 11 := ⟨_, rfl⟩
  rw [← hnn, ← hk] at hk1
  rw [← hnn] at hk2
  obtain ⟨m, hm⟩ : ∃ m, m = n.tdiv 11 % 1000 := ⟨_, rfl⟩
  have hm0 : 0 ≤ m ∧ m < 1000 := by omega
  rw [← hk] at pc1
  rw [← hm] at pc2 hk2
  rcases hg1 : genPat vars d ls.tail with ⟨p, r⟩
  rw [hg1] at ih1 ih2 E
  simp only at ih2 E
  rcases hg2 : genPat vars d r with ⟨q, r2⟩
  rw [hg2] at ih2 E
  simp only at E
  have hm2 : m.tmod 3 = m % 3 := Int.tmod_eq_emod_of_nonneg hm0.1
  have hmx : m % 3 = 1 := hk2
  rw [hmx] at hm2
  clear hk hm hnn hd hg1 ih hmx hk2 hg2
  have hW := fun ob => (Below.refl w.heap.size w).alloc (Nat.le_refl _) ob
  have hgb : w.heap.size ≠ b := by have := hRd.lt; omega
  have hbl : b < w.heap.size := hRd.lt
  have hgw : w0.heap.size ≤ w.heap.size := hRd.choose_spec.choose_spec.1.size
  go_enter Try.func41, Try.ntmps41
  go_wp2_with fail
  refine (hnx _ (hRd.below (hW _))).mono ?_
  rintro e w1 ⟨rfl, hRd1, hK1⟩
  have hbx : w1.heap[w.heap.size]? = some (.cells #[.int .i64 0, .int .i64 0, .int .i64 0, .int .i64 0, .slice none 0 0] 24 (0, 0)) := hK1.blk (blk_new w _) hgb (by simp)
  have hKK : KeepBut w w1 b none := (KeepBut.of_below (hW _) _ _).trans hK1 (.inl rfl)
  have hg1' : w.heap.size < w1.heap.size := blk_lt hbx
  go_wp2_with fail
  refine (pc1 _).mono ?_
  rintro e w' ⟨rfl, hw'⟩
  subst hw'
  go_wp2_with fail
  refine (pc2 _).mono ?_
  rintro e w' ⟨rfl, hw'⟩
  subst hw'
  obtain ⟨w1, rfl⟩ : ∃ w1 : World, w1 = w' := ⟨_, rfl⟩
  go_wp2
  rw [← hwD] at ih1 ih2
  refine start_ (n := 18) (S := fun w' => True) (ds := []) (bm 18 0) (by kernel_rfl) rfl rfl trivial (fun hHeld => ?_)
  replace hbx : w1.drew.heap[w.heap.size]? = _ := hbx
  replace hKK : KeepBut w w1.drew b none := hKK
  have hRd : Rd w0 w1.drew b ls.tail := hRd1.below (below_drew (Below.refl _ _))
  replace hg1' : w.heap.size < w1.drew.heap.size := hg1'
  clear hRd1 hK1
  generalize w1.drew = w1d at hbx hKK hRd hg1' ⊢
  have hsz : w1d.heap.size ≤ w1d.heap.size := Nat.le_refl _
  refine pure_ (i := 1) (N := some 66) (v := ?_) (a' := ?_) (bm 18 2) rfl rfl (by kernel_rfl) (fun _ _ _ h => h) (Or.inl ⟨by rfl, ?_⟩) ?_ ?_
  rotate_left
  · intro w'; go_simp; with_reducible rfl
  rotate_left
  · simp only [P4]; rfl
  refine pure_ (i := 2) (N := some 67) (v := ?_) (a' := ?_) (bm 18 6) rfl rfl (by kernel_rfl) (fun _ _ _ h => h) (Or.inl ⟨by rfl, ?_⟩) ?_ ?_
  rotate_left
  · intro w'; go_simp; with_reducible rfl
  rotate_left
  · simp only [P4]; rfl
  refine pure_ (i := 5) (N := some 70) (v := ?_) (a' := ?_) (bm 18 38) rfl rfl (by kernel_rfl) (fun _ _ _ h => h) (Or.inl ⟨by rfl, ?_⟩) ?_ ?_
  rotate_left
  · intro w'; go_simp; with_reducible rfl
  rotate_left
  · simp only [P4]; rfl
  refine pure_ (i := 6) (N := some 71) (v := ?_) (a' := ?_) (bm 18 102) rfl rfl (by kernel_rfl) (fun _ _ _ h => h) (Or.inl ⟨by rfl, ?_⟩) ?_ ?_
  rotate_left
  · intro w'; go_simp; with_reducible rfl
  rotate_left
  · simp only [P4]; rfl
  refine pure_ (i := 7) (N := some 72) (v := ?_) (a' := ?_) (bm 18 230) rfl rfl (by kernel_rfl) (fun _ _ _ h => h) (Or.inl ⟨by rfl, ?_⟩) ?_ ?_
  rotate_left
  · intro w'; go_simp; with_reducible rfl
  rotate_left
  · simp only [P4]; rfl
  refine pure_ (i := 8) (N := some 73) (v := ?_) (a' := ?_) (bm 18 486) rfl rfl (by kernel_rfl) (fun _ _ _ h => h) (Or.inl ⟨by rfl, ?_⟩) ?_ ?_
  rotate_left
  · intro w'; go_simp; with_reducible rfl
  rotate_left
  · simp only [P4]; rfl
  refine pure_ (i := 10) (N := some 75) (v := ?_) (a' := ?_) (bm 18 1510) rfl rfl (by kernel_rfl) (fun _ _ _ h => h) (Or.inl ⟨by rfl, ?_⟩) ?_ ?_
  rotate_left
  · intro w'; go_simp; with_reducible rfl
  rotate_left
  · simp only [P4]; rfl
  refine pure_ (i := 11) (N := some 76) (v := ?_) (a' := ?_) (bm 18 3558) rfl rfl (by kernel_rfl) (fun _ _ _ h => h) (Or.inl ⟨by rfl, ?_⟩) ?_ ?_
  rotate_left
  · intro w'; go_simp; with_reducible rfl
  rotate_left
  · simp only [P4]; rfl
  refine pure_ (i := 12) (N := some 77) (v := ?_) (a' := ?_) (bm 18 7654) rfl rfl (by kernel_rfl) (fun _ _ _ h => h) (Or.inl ⟨by rfl, ?_⟩) ?_ ?_
  rotate_left
  · intro w'; go_simp; with_reducible rfl
  rotate_left
  · simp only [P4]; rfl
  refine pure_ (i := 13) (N := some 78) (v := ?_) (a' := ?_) (bm 18 15846) rfl rfl (by kernel_rfl) (fun _ _ _ h => h) (Or.inl ⟨by rfl, ?_⟩) ?_ ?_
  rotate_left
  · intro w'; go_simp; with_reducible rfl
  rotate_left
  · simp only [P4]; rfl
  refine join_ (σ := Nat × Nat × Option Addr × Nat × Option Addr × Nat) 2 (bm 18 65535) (fun s => [(65, .slice (some ⟨s.1, 0, none⟩) 3 3), (68, .pointer (some ⟨s.1, 1, none⟩)), (69, .int .i64 5), (74, .agg #[.int .i64 p.var, .int .i64 p.op, .int .i64 p.imm, .int .i64 p.immVar, .slice s.2.2.1 p.kids.length s.2.2.2.1]), (79, .agg #[.int .i64 q.var, .int .i64 q.op, .int .i64 q.imm, .int .i64 q.immVar, .slice s.2.2.2.2.1 q.kids.length s.2.2.2.2.2]), (80, .slice (some ⟨s.2.1, 0, none⟩) 2 2)]) (fun s w' => w'.heap[w.heap.size]? = some (.cells #[.int .i64 0, .int .i64 0, .int .i64 0, .int .i64 0, .slice none 0 0] 24 (0, 0)) ∧ Kd.F kPat w' (fun k => w1d.heap.size ≤ k) (some ⟨s.2.1, 0, none⟩) 2 [p, q] ∧ Rd w0 w' b r2 ∧ KeepBut w w' b none) ?_ ?_
  rotate_left
  · intro hCont
    refine two_ (i := 0) (j := 9) (Ni := some 65) (Nj := some 74) (bm 18 15847) (bm 18 16358) rfl rfl rfl rfl (by kernel_rfl) (by decide) (by decide) (fun K hK => ?_) (fun K hK => ?_)
    · skip
      refine value_ (w1 := ?_) (v := ?_) (by rfl) rfl ?_ ?_
      rotate_left 2
      · go_simp
        constructor
        · rfl
        · rfl
      have hg : w1d.heap.size ≠ b := by have := hRd.lt; omega
      have hlit := (blk_cell (blk_new w1d (.cells #[.int .i64 4, .int .i64 5, .int .i64 6] 3)) 1).trans rfl
      replace hbx := blk_below hbx ((Below.refl _ _).alloc (Nat.le_refl _) (.cells #[.int .i64 4, .int .i64 5, .int .i64 6] 3))
      replace hRd := hRd.below ((Below.refl _ _).alloc (Nat.le_refl _) (.cells #[.int .i64 4, .int .i64 5, .int .i64 6] 3))
      replace hKK := keep_alloc hKK (.cells #[.int .i64 4, .int .i64 5, .int .i64 6] 3)
      replace hsz := Nat.le_trans hsz ((Below.refl _ _).alloc (Nat.le_refl _) (.cells #[.int .i64 4, .int .i64 5, .int .i64 6] 3)).size
      refine hK.out _ _ trivial (fun hHeld => ?_)
      clear hK K
      refine norm_ (a' := ?_) ?_ ?_
      rotate_left
      · show Act.put _ (some 65) _ = _
        simp only [P4]
        rfl
      refine pure_ (i := 3) (N := some 68) (v := ?_) (a' := ?_) (bm 18 15855) rfl rfl (by kernel_rfl) (fun _ _ _ h => h) (Or.inl ⟨by rfl, ?_⟩) ?_ ?_
      rotate_left
      · intro w'; go_simp; with_reducible rfl
      rotate_left
      · simp only [P4]; rfl
      refine two_ (i := 4) (j := 9) (Ni := some 69) (Nj := some 74) (bm 18 15871) (bm 18 16367) rfl rfl rfl rfl (by kernel_rfl) (by decide) (by decide) (fun K hK => ?_) (fun K hK => ?_)
      · skip
        refine value_ (w1 := ?_) (v := ?_) (by rfl) rfl ?_ ?_
        rotate_left 2
        · go_simp
          constructor
          · rfl
          · rfl
        refine hK.out _ _ trivial (fun hHeld => ?_)
        clear hK K
        refine norm_ (a' := ?_) ?_ ?_
        rotate_left
        · show Act.put _ (some 69) _ = _
          simp only [P4]
          rfl
        refine one_ (i := 9) (N := some 74) (bm 18 16383) rfl rfl (by kernel_rfl) (by decide) (fun K hK => ?_)
        refine goes_ Try.func41 (by kernel_rfl) rfl #[.pointer (some ⟨b, 0, none⟩), .int .i64 (wrap64 (D + 1)), .int .i64 vars] (by rfl) rfl rfl (by simp only [List.map_toArray, List.map_cons, List.map_nil]; rfl) ?_
        with_reducible refine (ih1 _ hRd).mono ?_
        rintro e w2 ⟨A1, c1, rfl, hc1, hF1, hRdn, hK⟩
        refine ⟨_, rfl, ?_⟩
        replace hbx := hK.blk hbx hgb (by simp)
        replace hKK := hKK.trans hK (.inl rfl)
        replace hF1 := Kd.F_mono hF1 (ok' := fun k => w1d.heap.size ≤ k) (fun k hk => Nat.le_trans hsz hk)
        replace hsz := Nat.le_trans hsz hK.1
        clear hK hRd
        have hRd := hRdn
        clear hRdn
        refine hK.out _ _ trivial (fun hHeld => ?_)
        clear hK K
        refine norm_ (a' := ?_) ?_ ?_
        rotate_left
        · show Act.put _ (some 74) _ = _
          simp only [P4]
          rfl
        refine one_ (i := 14) (N := some 79) (bm 18 32767) rfl rfl (by kernel_rfl) (by decide) (fun K hK => ?_)
        refine goes_ Try.func41 (by kernel_rfl) rfl #[.pointer (some ⟨b, 0, none⟩), .int .i64 (wrap64 (D + 1)), .int .i64 vars] (by rfl) rfl rfl (by simp only [List.map_toArray, List.map_cons, List.map_nil]; rfl) ?_
        with_reducible refine (ih2 _ hRd).mono ?_
        rintro e w3 ⟨A2, c2, rfl, hc2, hF2, hRdn, hK⟩
        refine ⟨_, rfl, ?_⟩
        replace hbx := hK.blk hbx hgb (by simp)
        replace hKK := hKK.trans hK (.inl rfl)
        replace hF2 := Kd.F_mono hF2 (ok' := fun k => w1d.heap.size ≤ k) (fun k hk => Nat.le_trans hsz hk)
        replace hF1 := Kd.F_keep hF1 hK (fun k hk e => by omega)
        replace hsz := Nat.le_trans hsz hK.1
        clear hK hRd
        have hRd := hRdn
        clear hRdn
        refine hK.out _ _ trivial (fun hHeld => ?_)
        clear hK K
        refine norm_ (a' := ?_) ?_ ?_
        rotate_left
        · show Act.put _ (some 79) _ = _
          simp only [P4]
          rfl
        refine one_ (i := 15) (N := some 80) (bm 18 65535) rfl rfl (by kernel_rfl) (by decide) (fun K hK => ?_)
        refine value_ (w1 := ?_) (v := ?_) (by rfl) rfl ?_ ?_
        rotate_left 2
        · go_simp
          constructor
          · rfl
          · rfl
        have hN := F_new kPat w3 (fun k => w1d.heap.size ≤ k) [p, q] _ 24 (Reps.c5 (kPat_mkF _ _ p hc1 hF1) (Reps.c5 (kPat_mkF _ _ q hc2 hF2) (Reps.none _ _))) (by simp) hsz
        replace hbx := blk_below hbx ((Below.refl _ _).alloc (Nat.le_refl _) (.cells #[.int .i64 p.var, .int .i64 p.op, .int .i64 p.imm, .int .i64 p.immVar, .slice A1 p.kids.length c1, .int .i64 q.var, .int .i64 q.op, .int .i64 q.imm, .int .i64 q.immVar, .slice A2 q.kids.length c2] 24))
        replace hRd := hRd.below ((Below.refl _ _).alloc (Nat.le_refl _) (.cells #[.int .i64 p.var, .int .i64 p.op, .int .i64 p.imm, .int .i64 p.immVar, .slice A1 p.kids.length c1, .int .i64 q.var, .int .i64 q.op, .int .i64 q.imm, .int .i64 q.immVar, .slice A2 q.kids.length c2] 24))
        replace hKK := keep_alloc hKK (.cells #[.int .i64 p.var, .int .i64 p.op, .int .i64 p.imm, .int .i64 p.immVar, .slice A1 p.kids.length c1, .int .i64 q.var, .int .i64 q.op, .int .i64 q.imm, .int .i64 q.immVar, .slice A2 q.kids.length c2] 24)
        replace hsz := Nat.le_trans hsz ((Below.refl _ _).alloc (Nat.le_refl _) (.cells #[.int .i64 p.var, .int .i64 p.op, .int .i64 p.imm, .int .i64 p.immVar, .slice A1 p.kids.length c1, .int .i64 q.var, .int .i64 q.op, .int .i64 q.imm, .int .i64 q.immVar, .slice A2 q.kids.length c2] 24)).size
        replace hF1 := Kd.F_alloc hF1 (.cells #[.int .i64 p.var, .int .i64 p.op, .int .i64 p.imm, .int .i64 p.immVar, .slice A1 p.kids.length c1, .int .i64 q.var, .int .i64 q.op, .int .i64 q.imm, .int .i64 q.immVar, .slice A2 q.kids.length c2] 24)
        replace hF2 := Kd.F_alloc hF2 (.cells #[.int .i64 p.var, .int .i64 p.op, .int .i64 p.imm, .int .i64 p.immVar, .slice A1 p.kids.length c1, .int .i64 q.var, .int .i64 q.op, .int .i64 q.imm, .int .i64 q.immVar, .slice A2 q.kids.length c2] 24)
        refine hK.out _ _ trivial (fun hHeld => ?_)
        clear hK K
        refine norm_ (a' := ?_) ?_ ?_
        rotate_left
        · show Act.put _ (some 80) _ = _
          simp only [P4]
          rfl
        exact norm_ (by simp only [putAll, P4]) (hCont (w1d.heap.size, w3.heap.size, A1, c1, A2, c2) _ ⟨hbx, hN, hRd, hKK⟩)
      · skip
        refine goes_ Try.func41 (by kernel_rfl) rfl #[.pointer (some ⟨b, 0, none⟩), .int .i64 (wrap64 (D + 1)), .int .i64 vars] (by rfl) rfl rfl (by simp only [List.map_toArray, List.map_cons, List.map_nil]; rfl) ?_
        with_reducible refine (ih1 _ hRd).mono ?_
        rintro e w2 ⟨A1, c1, rfl, hc1, hF1, hRdn, hK⟩
        refine ⟨_, rfl, ?_⟩
        replace hbx := hK.blk hbx hgb (by simp)
        replace hKK := hKK.trans hK (.inl rfl)
        replace hF1 := Kd.F_mono hF1 (ok' := fun k => w1d.heap.size ≤ k) (fun k hk => Nat.le_trans hsz hk)
        replace hlit := keep_cell hK hlit hg
        replace hsz := Nat.le_trans hsz hK.1
        clear hK hRd
        have hRd := hRdn
        clear hRdn
        refine hK.out _ _ trivial (fun hHeld => ?_)
        clear hK K
        refine norm_ (a' := ?_) ?_ ?_
        rotate_left
        · show Act.put _ (some 74) _ = _
          simp only [P4]
          rfl
        refine two_ (i := 4) (j := 14) (Ni := some 69) (Nj := some 79) (bm 18 16383) (bm 18 32751) rfl rfl rfl rfl (by kernel_rfl) (by decide) (by decide) (fun K hK => ?_) (fun K hK => ?_)
        · skip
          refine value_ (w1 := ?_) (v := ?_) (by rfl) rfl ?_ ?_
          rotate_left 2
          · go_simp
            constructor
            · rfl
            · rfl
          refine hK.out _ _ trivial (fun hHeld => ?_)
          clear hK K
          refine norm_ (a' := ?_) ?_ ?_
          rotate_left
          · show Act.put _ (some 69) _ = _
            simp only [P4]
            rfl
          refine one_ (i := 14) (N := some 79) (bm 18 32767) rfl rfl (by kernel_rfl) (by decide) (fun K hK => ?_)
          refine goes_ Try.func41 (by kernel_rfl) rfl #[.pointer (some ⟨b, 0, none⟩), .int .i64 (wrap64 (D + 1)), .int .i64 vars] (by rfl) rfl rfl (by simp only [List.map_toArray, List.map_cons, List.map_nil]; rfl) ?_
          with_reducible refine (ih2 _ hRd).mono ?_
          rintro e w3 ⟨A2, c2, rfl, hc2, hF2, hRdn, hK⟩
          refine ⟨_, rfl, ?_⟩
          replace hbx := hK.blk hbx hgb (by simp)
          replace hKK := hKK.trans hK (.inl rfl)
          replace hF2 := Kd.F_mono hF2 (ok' := fun k => w1d.heap.size ≤ k) (fun k hk => Nat.le_trans hsz hk)
          replace hF1 := Kd.F_keep hF1 hK (fun k hk e => by omega)
          replace hsz := Nat.le_trans hsz hK.1
          clear hK hRd
          have hRd := hRdn
          clear hRdn
          refine hK.out _ _ trivial (fun hHeld => ?_)
          clear hK K
          refine norm_ (a' := ?_) ?_ ?_
          rotate_left
          · show Act.put _ (some 79) _ = _
            simp only [P4]
            rfl
          refine one_ (i := 15) (N := some 80) (bm 18 65535) rfl rfl (by kernel_rfl) (by decide) (fun K hK => ?_)
          refine value_ (w1 := ?_) (v := ?_) (by rfl) rfl ?_ ?_
          rotate_left 2
          · go_simp
            constructor
            · rfl
            · rfl
          have hN := F_new kPat w3 (fun k => w1d.heap.size ≤ k) [p, q] _ 24 (Reps.c5 (kPat_mkF _ _ p hc1 hF1) (Reps.c5 (kPat_mkF _ _ q hc2 hF2) (Reps.none _ _))) (by simp) hsz
          replace hbx := blk_below hbx ((Below.refl _ _).alloc (Nat.le_refl _) (.cells #[.int .i64 p.var, .int .i64 p.op, .int .i64 p.imm, .int .i64 p.immVar, .slice A1 p.kids.length c1, .int .i64 q.var, .int .i64 q.op, .int .i64 q.imm, .int .i64 q.immVar, .slice A2 q.kids.length c2] 24))
          replace hRd := hRd.below ((Below.refl _ _).alloc (Nat.le_refl _) (.cells #[.int .i64 p.var, .int .i64 p.op, .int .i64 p.imm, .int .i64 p.immVar, .slice A1 p.kids.length c1, .int .i64 q.var, .int .i64 q.op, .int .i64 q.imm, .int .i64 q.immVar, .slice A2 q.kids.length c2] 24))
          replace hKK := keep_alloc hKK (.cells #[.int .i64 p.var, .int .i64 p.op, .int .i64 p.imm, .int .i64 p.immVar, .slice A1 p.kids.length c1, .int .i64 q.var, .int .i64 q.op, .int .i64 q.imm, .int .i64 q.immVar, .slice A2 q.kids.length c2] 24)
          replace hsz := Nat.le_trans hsz ((Below.refl _ _).alloc (Nat.le_refl _) (.cells #[.int .i64 p.var, .int .i64 p.op, .int .i64 p.imm, .int .i64 p.immVar, .slice A1 p.kids.length c1, .int .i64 q.var, .int .i64 q.op, .int .i64 q.imm, .int .i64 q.immVar, .slice A2 q.kids.length c2] 24)).size
          replace hF1 := Kd.F_alloc hF1 (.cells #[.int .i64 p.var, .int .i64 p.op, .int .i64 p.imm, .int .i64 p.immVar, .slice A1 p.kids.length c1, .int .i64 q.var, .int .i64 q.op, .int .i64 q.imm, .int .i64 q.immVar, .slice A2 q.kids.length c2] 24)
          replace hF2 := Kd.F_alloc hF2 (.cells #[.int .i64 p.var, .int .i64 p.op, .int .i64 p.imm, .int .i64 p.immVar, .slice A1 p.kids.length c1, .int .i64 q.var, .int .i64 q.op, .int .i64 q.imm, .int .i64 q.immVar, .slice A2 q.kids.length c2] 24)
          refine hK.out _ _ trivial (fun hHeld => ?_)
          clear hK K
          refine norm_ (a' := ?_) ?_ ?_
          rotate_left
          · show Act.put _ (some 80) _ = _
            simp only [P4]
            rfl
          exact norm_ (by simp only [putAll, P4]) (hCont (w1d.heap.size, w3.heap.size, A1, c1, A2, c2) _ ⟨hbx, hN, hRd, hKK⟩)
        · skip
          refine goes_ Try.func41 (by kernel_rfl) rfl #[.pointer (some ⟨b, 0, none⟩), .int .i64 (wrap64 (D + 1)), .int .i64 vars] (by rfl) rfl rfl (by simp only [List.map_toArray, List.map_cons, List.map_nil]; rfl) ?_
          with_reducible refine (ih2 _ hRd).mono ?_
          rintro e w3 ⟨A2, c2, rfl, hc2, hF2, hRdn, hK⟩
          refine ⟨_, rfl, ?_⟩
          replace hbx := hK.blk hbx hgb (by simp)
          replace hKK := hKK.trans hK (.inl rfl)
          replace hF2 := Kd.F_mono hF2 (ok' := fun k => w1d.heap.size ≤ k) (fun k hk => Nat.le_trans hsz hk)
          replace hF1 := Kd.F_keep hF1 hK (fun k hk e => by omega)
          replace hlit := keep_cell hK hlit hg
          replace hsz := Nat.le_trans hsz hK.1
          clear hK hRd
          have hRd := hRdn
          clear hRdn
          refine hK.out _ _ trivial (fun hHeld => ?_)
          clear hK K
          refine norm_ (a' := ?_) ?_ ?_
          rotate_left
          · show Act.put _ (some 79) _ = _
            simp only [P4]
            rfl
          refine two_ (i := 4) (j := 15) (Ni := some 69) (Nj := some 80) (bm 18 32767) (bm 18 65519) rfl rfl rfl rfl (by kernel_rfl) (by decide) (by decide) (fun K hK => ?_) (fun K hK => ?_)
          · skip
            refine value_ (w1 := ?_) (v := ?_) (by rfl) rfl ?_ ?_
            rotate_left 2
            · go_simp
              constructor
              · rfl
              · rfl
            refine hK.out _ _ trivial (fun hHeld => ?_)
            clear hK K
            refine norm_ (a' := ?_) ?_ ?_
            rotate_left
            · show Act.put _ (some 69) _ = _
              simp only [P4]
              rfl
            refine one_ (i := 15) (N := some 80) (bm 18 65535) rfl rfl (by kernel_rfl) (by decide) (fun K hK => ?_)
            refine value_ (w1 := ?_) (v := ?_) (by rfl) rfl ?_ ?_
            rotate_left 2
            · go_simp
              constructor
              · rfl
              · rfl
            have hN := F_new kPat w3 (fun k => w1d.heap.size ≤ k) [p, q] _ 24 (Reps.c5 (kPat_mkF _ _ p hc1 hF1) (Reps.c5 (kPat_mkF _ _ q hc2 hF2) (Reps.none _ _))) (by simp) hsz
            replace hbx := blk_below hbx ((Below.refl _ _).alloc (Nat.le_refl _) (.cells #[.int .i64 p.var, .int .i64 p.op, .int .i64 p.imm, .int .i64 p.immVar, .slice A1 p.kids.length c1, .int .i64 q.var, .int .i64 q.op, .int .i64 q.imm, .int .i64 q.immVar, .slice A2 q.kids.length c2] 24))
            replace hRd := hRd.below ((Below.refl _ _).alloc (Nat.le_refl _) (.cells #[.int .i64 p.var, .int .i64 p.op, .int .i64 p.imm, .int .i64 p.immVar, .slice A1 p.kids.length c1, .int .i64 q.var, .int .i64 q.op, .int .i64 q.imm, .int .i64 q.immVar, .slice A2 q.kids.length c2] 24))
            replace hKK := keep_alloc hKK (.cells #[.int .i64 p.var, .int .i64 p.op, .int .i64 p.imm, .int .i64 p.immVar, .slice A1 p.kids.length c1, .int .i64 q.var, .int .i64 q.op, .int .i64 q.imm, .int .i64 q.immVar, .slice A2 q.kids.length c2] 24)
            replace hsz := Nat.le_trans hsz ((Below.refl _ _).alloc (Nat.le_refl _) (.cells #[.int .i64 p.var, .int .i64 p.op, .int .i64 p.imm, .int .i64 p.immVar, .slice A1 p.kids.length c1, .int .i64 q.var, .int .i64 q.op, .int .i64 q.imm, .int .i64 q.immVar, .slice A2 q.kids.length c2] 24)).size
            replace hF1 := Kd.F_alloc hF1 (.cells #[.int .i64 p.var, .int .i64 p.op, .int .i64 p.imm, .int .i64 p.immVar, .slice A1 p.kids.length c1, .int .i64 q.var, .int .i64 q.op, .int .i64 q.imm, .int .i64 q.immVar, .slice A2 q.kids.length c2] 24)
            replace hF2 := Kd.F_alloc hF2 (.cells #[.int .i64 p.var, .int .i64 p.op, .int .i64 p.imm, .int .i64 p.immVar, .slice A1 p.kids.length c1, .int .i64 q.var, .int .i64 q.op, .int .i64 q.imm, .int .i64 q.immVar, .slice A2 q.kids.length c2] 24)
            refine hK.out _ _ trivial (fun hHeld => ?_)
            clear hK K
            refine norm_ (a' := ?_) ?_ ?_
            rotate_left
            · show Act.put _ (some 80) _ = _
              simp only [P4]
              rfl
            exact norm_ (by simp only [putAll, P4]) (hCont (w1d.heap.size, w3.heap.size, A1, c1, A2, c2) _ ⟨hbx, hN, hRd, hKK⟩)
          · skip
            refine value_ (w1 := ?_) (v := ?_) (by rfl) rfl ?_ ?_
            rotate_left 2
            · go_simp
              constructor
              · rfl
              · rfl
            have hN := F_new kPat w3 (fun k => w1d.heap.size ≤ k) [p, q] _ 24 (Reps.c5 (kPat_mkF _ _ p hc1 hF1) (Reps.c5 (kPat_mkF _ _ q hc2 hF2) (Reps.none _ _))) (by simp) hsz
            replace hbx := blk_below hbx ((Below.refl _ _).alloc (Nat.le_refl _) (.cells #[.int .i64 p.var, .int .i64 p.op, .int .i64 p.imm, .int .i64 p.immVar, .slice A1 p.kids.length c1, .int .i64 q.var, .int .i64 q.op, .int .i64 q.imm, .int .i64 q.immVar, .slice A2 q.kids.length c2] 24))
            replace hRd := hRd.below ((Below.refl _ _).alloc (Nat.le_refl _) (.cells #[.int .i64 p.var, .int .i64 p.op, .int .i64 p.imm, .int .i64 p.immVar, .slice A1 p.kids.length c1, .int .i64 q.var, .int .i64 q.op, .int .i64 q.imm, .int .i64 q.immVar, .slice A2 q.kids.length c2] 24))
            replace hKK := keep_alloc hKK (.cells #[.int .i64 p.var, .int .i64 p.op, .int .i64 p.imm, .int .i64 p.immVar, .slice A1 p.kids.length c1, .int .i64 q.var, .int .i64 q.op, .int .i64 q.imm, .int .i64 q.immVar, .slice A2 q.kids.length c2] 24)
            replace hsz := Nat.le_trans hsz ((Below.refl _ _).alloc (Nat.le_refl _) (.cells #[.int .i64 p.var, .int .i64 p.op, .int .i64 p.imm, .int .i64 p.immVar, .slice A1 p.kids.length c1, .int .i64 q.var, .int .i64 q.op, .int .i64 q.imm, .int .i64 q.immVar, .slice A2 q.kids.length c2] 24)).size
            replace hF1 := Kd.F_alloc hF1 (.cells #[.int .i64 p.var, .int .i64 p.op, .int .i64 p.imm, .int .i64 p.immVar, .slice A1 p.kids.length c1, .int .i64 q.var, .int .i64 q.op, .int .i64 q.imm, .int .i64 q.immVar, .slice A2 q.kids.length c2] 24)
            replace hF2 := Kd.F_alloc hF2 (.cells #[.int .i64 p.var, .int .i64 p.op, .int .i64 p.imm, .int .i64 p.immVar, .slice A1 p.kids.length c1, .int .i64 q.var, .int .i64 q.op, .int .i64 q.imm, .int .i64 q.immVar, .slice A2 q.kids.length c2] 24)
            replace hlit := cell_alloc hlit (.cells #[.int .i64 p.var, .int .i64 p.op, .int .i64 p.imm, .int .i64 p.immVar, .slice A1 p.kids.length c1, .int .i64 q.var, .int .i64 q.op, .int .i64 q.imm, .int .i64 q.immVar, .slice A2 q.kids.length c2] 24)
            refine hK.out _ _ trivial (fun hHeld => ?_)
            clear hK K
            refine norm_ (a' := ?_) ?_ ?_
            rotate_left
            · show Act.put _ (some 80) _ = _
              simp only [P4]
              rfl
            refine one_ (i := 4) (N := some 69) (bm 18 65535) rfl rfl (by kernel_rfl) (by decide) (fun K hK => ?_)
            refine value_ (w1 := ?_) (v := ?_) (by rfl) rfl ?_ ?_
            rotate_left 2
            · go_simp
              constructor
              · rfl
              · rfl
            refine hK.out _ _ trivial (fun hHeld => ?_)
            clear hK K
            refine norm_ (a' := ?_) ?_ ?_
            rotate_left
            · show Act.put _ (some 69) _ = _
              simp only [P4]
              rfl
            exact norm_ (by simp only [putAll, P4]) (hCont (w1d.heap.size, w3.heap.size, A1, c1, A2, c2) _ ⟨hbx, hN, hRd, hKK⟩)
    · skip
      refine goes_ Try.func41 (by kernel_rfl) rfl #[.pointer (some ⟨b, 0, none⟩), .int .i64 (wrap64 (D + 1)), .int .i64 vars] (by rfl) rfl rfl (by simp only [List.map_toArray, List.map_cons, List.map_nil]; rfl) ?_
      with_reducible refine (ih1 _ hRd).mono ?_
      rintro e w2 ⟨A1, c1, rfl, hc1, hF1, hRdn, hK⟩
      refine ⟨_, rfl, ?_⟩
      replace hbx := hK.blk hbx hgb (by simp)
      replace hKK := hKK.trans hK (.inl rfl)
      replace hF1 := Kd.F_mono hF1 (ok' := fun k => w1d.heap.size ≤ k) (fun k hk => Nat.le_trans hsz hk)
      replace hsz := Nat.le_trans hsz hK.1
      clear hK hRd
      have hRd := hRdn
      clear hRdn
      refine hK.out _ _ trivial (fun hHeld => ?_)
      clear hK K
      refine norm_ (a' := ?_) ?_ ?_
      rotate_left
      · show Act.put _ (some 74) _ = _
        simp only [P4]
        rfl
      refine two_ (i := 0) (j := 14) (Ni := some 65) (Nj := some 79) (bm 18 16359) (bm 18 32742) rfl rfl rfl rfl (by kernel_rfl) (by decide) (by decide) (fun K hK => ?_) (fun K hK => ?_)
      · skip
        refine value_ (w1 := ?_) (v := ?_) (by rfl) rfl ?_ ?_
        rotate_left 2
        · go_simp
          constructor
          · rfl
          · rfl
        have hg : w2.heap.size ≠ b := by have := hRd.lt; omega
        have hlit := (blk_cell (blk_new w2 (.cells #[.int .i64 4, .int .i64 5, .int .i64 6] 3)) 1).trans rfl
        replace hbx := blk_below hbx ((Below.refl _ _).alloc (Nat.le_refl _) (.cells #[.int .i64 4, .int .i64 5, .int .i64 6] 3))
        replace hRd := hRd.below ((Below.refl _ _).alloc (Nat.le_refl _) (.cells #[.int .i64 4, .int .i64 5, .int .i64 6] 3))
        replace hKK := keep_alloc hKK (.cells #[.int .i64 4, .int .i64 5, .int .i64 6] 3)
        replace hsz := Nat.le_trans hsz ((Below.refl _ _).alloc (Nat.le_refl _) (.cells #[.int .i64 4, .int .i64 5, .int .i64 6] 3)).size
        replace hF1 := Kd.F_alloc hF1 (.cells #[.int .i64 4, .int .i64 5, .int .i64 6] 3)
        refine hK.out _ _ trivial (fun hHeld => ?_)
        clear hK K
        refine norm_ (a' := ?_) ?_ ?_
        rotate_left
        · show Act.put _ (some 65) _ = _
          simp only [P4]
          rfl
        refine pure_ (i := 3) (N := some 68) (v := ?_) (a' := ?_) (bm 18 16367) rfl rfl (by kernel_rfl) (fun _ _ _ h => h) (Or.inl ⟨by rfl, ?_⟩) ?_ ?_
        rotate_left
        · intro w'; go_simp; with_reducible rfl
        rotate_left
        · simp only [P4]; rfl
        refine two_ (i := 4) (j := 14) (Ni := some 69) (Nj := some 79) (bm 18 16383) (bm 18 32751) rfl rfl rfl rfl (by kernel_rfl) (by decide) (by decide) (fun K hK => ?_) (fun K hK => ?_)
        · skip
          refine value_ (w1 := ?_) (v := ?_) (by rfl) rfl ?_ ?_
          rotate_left 2
          · go_simp
            constructor
            · rfl
            · rfl
          refine hK.out _ _ trivial (fun hHeld => ?_)
          clear hK K
          refine norm_ (a' := ?_) ?_ ?_
          rotate_left
          · show Act.put _ (some 69) _ = _
            simp only [P4]
            rfl
          refine one_ (i := 14) (N := some 79) (bm 18 32767) rfl rfl (by kernel_rfl) (by decide) (fun K hK => ?_)
          refine goes_ Try.func41 (by kernel_rfl) rfl #[.pointer (some ⟨b, 0, none⟩), .int .i64 (wrap64 (D + 1)), .int .i64 vars] (by rfl) rfl rfl (by simp only [List.map_toArray, List.map_cons, List.map_nil]; rfl) ?_
          with_reducible refine (ih2 _ hRd).mono ?_
          rintro e w3 ⟨A2, c2, rfl, hc2, hF2, hRdn, hK⟩
          refine ⟨_, rfl, ?_⟩
          replace hbx := hK.blk hbx hgb (by simp)
          replace hKK := hKK.trans hK (.inl rfl)
          replace hF2 := Kd.F_mono hF2 (ok' := fun k => w1d.heap.size ≤ k) (fun k hk => Nat.le_trans hsz hk)
          replace hF1 := Kd.F_keep hF1 hK (fun k hk e => by omega)
          replace hsz := Nat.le_trans hsz hK.1
          clear hK hRd
          have hRd := hRdn
          clear hRdn
          refine hK.out _ _ trivial (fun hHeld => ?_)
          clear hK K
          refine norm_ (a' := ?_) ?_ ?_
          rotate_left
          · show Act.put _ (some 79) _ = _
            simp only [P4]
            rfl
          refine one_ (i := 15) (N := some 80) (bm 18 65535) rfl rfl (by kernel_rfl) (by decide) (fun K hK => ?_)
          refine value_ (w1 := ?_) (v := ?_) (by rfl) rfl ?_ ?_
          rotate_left 2
          · go_simp
            constructor
            · rfl
            · rfl
          have hN := F_new kPat w3 (fun k => w1d.heap.size ≤ k) [p, q] _ 24 (Reps.c5 (kPat_mkF _ _ p hc1 hF1) (Reps.c5 (kPat_mkF _ _ q hc2 hF2) (Reps.none _ _))) (by simp) hsz
          replace hbx := blk_below hbx ((Below.refl _ _).alloc (Nat.le_refl _) (.cells #[.int .i64 p.var, .int .i64 p.op, .int .i64 p.imm, .int .i64 p.immVar, .slice A1 p.kids.length c1, .int .i64 q.var, .int .i64 q.op, .int .i64 q.imm, .int .i64 q.immVar, .slice A2 q.kids.length c2] 24))
          replace hRd := hRd.below ((Below.refl _ _).alloc (Nat.le_refl _) (.cells #[.int .i64 p.var, .int .i64 p.op, .int .i64 p.imm, .int .i64 p.immVar, .slice A1 p.kids.length c1, .int .i64 q.var, .int .i64 q.op, .int .i64 q.imm, .int .i64 q.immVar, .slice A2 q.kids.length c2] 24))
          replace hKK := keep_alloc hKK (.cells #[.int .i64 p.var, .int .i64 p.op, .int .i64 p.imm, .int .i64 p.immVar, .slice A1 p.kids.length c1, .int .i64 q.var, .int .i64 q.op, .int .i64 q.imm, .int .i64 q.immVar, .slice A2 q.kids.length c2] 24)
          replace hsz := Nat.le_trans hsz ((Below.refl _ _).alloc (Nat.le_refl _) (.cells #[.int .i64 p.var, .int .i64 p.op, .int .i64 p.imm, .int .i64 p.immVar, .slice A1 p.kids.length c1, .int .i64 q.var, .int .i64 q.op, .int .i64 q.imm, .int .i64 q.immVar, .slice A2 q.kids.length c2] 24)).size
          replace hF1 := Kd.F_alloc hF1 (.cells #[.int .i64 p.var, .int .i64 p.op, .int .i64 p.imm, .int .i64 p.immVar, .slice A1 p.kids.length c1, .int .i64 q.var, .int .i64 q.op, .int .i64 q.imm, .int .i64 q.immVar, .slice A2 q.kids.length c2] 24)
          replace hF2 := Kd.F_alloc hF2 (.cells #[.int .i64 p.var, .int .i64 p.op, .int .i64 p.imm, .int .i64 p.immVar, .slice A1 p.kids.length c1, .int .i64 q.var, .int .i64 q.op, .int .i64 q.imm, .int .i64 q.immVar, .slice A2 q.kids.length c2] 24)
          refine hK.out _ _ trivial (fun hHeld => ?_)
          clear hK K
          refine norm_ (a' := ?_) ?_ ?_
          rotate_left
          · show Act.put _ (some 80) _ = _
            simp only [P4]
            rfl
          exact norm_ (by simp only [putAll, P4]) (hCont (w2.heap.size, w3.heap.size, A1, c1, A2, c2) _ ⟨hbx, hN, hRd, hKK⟩)
        · skip
          refine goes_ Try.func41 (by kernel_rfl) rfl #[.pointer (some ⟨b, 0, none⟩), .int .i64 (wrap64 (D + 1)), .int .i64 vars] (by rfl) rfl rfl (by simp only [List.map_toArray, List.map_cons, List.map_nil]; rfl) ?_
          with_reducible refine (ih2 _ hRd).mono ?_
          rintro e w3 ⟨A2, c2, rfl, hc2, hF2, hRdn, hK⟩
          refine ⟨_, rfl, ?_⟩
          replace hbx := hK.blk hbx hgb (by simp)
          replace hKK := hKK.trans hK (.inl rfl)
          replace hF2 := Kd.F_mono hF2 (ok' := fun k => w1d.heap.size ≤ k) (fun k hk => Nat.le_trans hsz hk)
          replace hF1 := Kd.F_keep hF1 hK (fun k hk e => by omega)
          replace hlit := keep_cell hK hlit hg
          replace hsz := Nat.le_trans hsz hK.1
          clear hK hRd
          have hRd := hRdn
          clear hRdn
          refine hK.out _ _ trivial (fun hHeld => ?_)
          clear hK K
          refine norm_ (a' := ?_) ?_ ?_
          rotate_left
          · show Act.put _ (some 79) _ = _
            simp only [P4]
            rfl
          refine two_ (i := 4) (j := 15) (Ni := some 69) (Nj := some 80) (bm 18 32767) (bm 18 65519) rfl rfl rfl rfl (by kernel_rfl) (by decide) (by decide) (fun K hK => ?_) (fun K hK => ?_)
          · skip
            refine value_ (w1 := ?_) (v := ?_) (by rfl) rfl ?_ ?_
            rotate_left 2
            · go_simp
              constructor
              · rfl
              · rfl
            refine hK.out _ _ trivial (fun hHeld => ?_)
            clear hK K
            refine norm_ (a' := ?_) ?_ ?_
            rotate_left
            · show Act.put _ (some 69) _ = _
              simp only [P4]
              rfl
            refine one_ (i := 15) (N := some 80) (bm 18 65535) rfl rfl (by kernel_rfl) (by decide) (fun K hK => ?_)
            refine value_ (w1 := ?_) (v := ?_) (by rfl) rfl ?_ ?_
            rotate_left 2
            · go_simp
              constructor
              · rfl
              · rfl
            have hN := F_new kPat w3 (fun k => w1d.heap.size ≤ k) [p, q] _ 24 (Reps.c5 (kPat_mkF _ _ p hc1 hF1) (Reps.c5 (kPat_mkF _ _ q hc2 hF2) (Reps.none _ _))) (by simp) hsz
            replace hbx := blk_below hbx ((Below.refl _ _).alloc (Nat.le_refl _) (.cells #[.int .i64 p.var, .int .i64 p.op, .int .i64 p.imm, .int .i64 p.immVar, .slice A1 p.kids.length c1, .int .i64 q.var, .int .i64 q.op, .int .i64 q.imm, .int .i64 q.immVar, .slice A2 q.kids.length c2] 24))
            replace hRd := hRd.below ((Below.refl _ _).alloc (Nat.le_refl _) (.cells #[.int .i64 p.var, .int .i64 p.op, .int .i64 p.imm, .int .i64 p.immVar, .slice A1 p.kids.length c1, .int .i64 q.var, .int .i64 q.op, .int .i64 q.imm, .int .i64 q.immVar, .slice A2 q.kids.length c2] 24))
            replace hKK := keep_alloc hKK (.cells #[.int .i64 p.var, .int .i64 p.op, .int .i64 p.imm, .int .i64 p.immVar, .slice A1 p.kids.length c1, .int .i64 q.var, .int .i64 q.op, .int .i64 q.imm, .int .i64 q.immVar, .slice A2 q.kids.length c2] 24)
            replace hsz := Nat.le_trans hsz ((Below.refl _ _).alloc (Nat.le_refl _) (.cells #[.int .i64 p.var, .int .i64 p.op, .int .i64 p.imm, .int .i64 p.immVar, .slice A1 p.kids.length c1, .int .i64 q.var, .int .i64 q.op, .int .i64 q.imm, .int .i64 q.immVar, .slice A2 q.kids.length c2] 24)).size
            replace hF1 := Kd.F_alloc hF1 (.cells #[.int .i64 p.var, .int .i64 p.op, .int .i64 p.imm, .int .i64 p.immVar, .slice A1 p.kids.length c1, .int .i64 q.var, .int .i64 q.op, .int .i64 q.imm, .int .i64 q.immVar, .slice A2 q.kids.length c2] 24)
            replace hF2 := Kd.F_alloc hF2 (.cells #[.int .i64 p.var, .int .i64 p.op, .int .i64 p.imm, .int .i64 p.immVar, .slice A1 p.kids.length c1, .int .i64 q.var, .int .i64 q.op, .int .i64 q.imm, .int .i64 q.immVar, .slice A2 q.kids.length c2] 24)
            refine hK.out _ _ trivial (fun hHeld => ?_)
            clear hK K
            refine norm_ (a' := ?_) ?_ ?_
            rotate_left
            · show Act.put _ (some 80) _ = _
              simp only [P4]
              rfl
            exact norm_ (by simp only [putAll, P4]) (hCont (w2.heap.size, w3.heap.size, A1, c1, A2, c2) _ ⟨hbx, hN, hRd, hKK⟩)
          · skip
            refine value_ (w1 := ?_) (v := ?_) (by rfl) rfl ?_ ?_
            rotate_left 2
            · go_simp
              constructor
              · rfl
              · rfl
            have hN := F_new kPat w3 (fun k => w1d.heap.size ≤ k) [p, q] _ 24 (Reps.c5 (kPat_mkF _ _ p hc1 hF1) (Reps.c5 (kPat_mkF _ _ q hc2 hF2) (Reps.none _ _))) (by simp) hsz
            replace hbx := blk_below hbx ((Below.refl _ _).alloc (Nat.le_refl _) (.cells #[.int .i64 p.var, .int .i64 p.op, .int .i64 p.imm, .int .i64 p.immVar, .slice A1 p.kids.length c1, .int .i64 q.var, .int .i64 q.op, .int .i64 q.imm, .int .i64 q.immVar, .slice A2 q.kids.length c2] 24))
            replace hRd := hRd.below ((Below.refl _ _).alloc (Nat.le_refl _) (.cells #[.int .i64 p.var, .int .i64 p.op, .int .i64 p.imm, .int .i64 p.immVar, .slice A1 p.kids.length c1, .int .i64 q.var, .int .i64 q.op, .int .i64 q.imm, .int .i64 q.immVar, .slice A2 q.kids.length c2] 24))
            replace hKK := keep_alloc hKK (.cells #[.int .i64 p.var, .int .i64 p.op, .int .i64 p.imm, .int .i64 p.immVar, .slice A1 p.kids.length c1, .int .i64 q.var, .int .i64 q.op, .int .i64 q.imm, .int .i64 q.immVar, .slice A2 q.kids.length c2] 24)
            replace hsz := Nat.le_trans hsz ((Below.refl _ _).alloc (Nat.le_refl _) (.cells #[.int .i64 p.var, .int .i64 p.op, .int .i64 p.imm, .int .i64 p.immVar, .slice A1 p.kids.length c1, .int .i64 q.var, .int .i64 q.op, .int .i64 q.imm, .int .i64 q.immVar, .slice A2 q.kids.length c2] 24)).size
            replace hF1 := Kd.F_alloc hF1 (.cells #[.int .i64 p.var, .int .i64 p.op, .int .i64 p.imm, .int .i64 p.immVar, .slice A1 p.kids.length c1, .int .i64 q.var, .int .i64 q.op, .int .i64 q.imm, .int .i64 q.immVar, .slice A2 q.kids.length c2] 24)
            replace hF2 := Kd.F_alloc hF2 (.cells #[.int .i64 p.var, .int .i64 p.op, .int .i64 p.imm, .int .i64 p.immVar, .slice A1 p.kids.length c1, .int .i64 q.var, .int .i64 q.op, .int .i64 q.imm, .int .i64 q.immVar, .slice A2 q.kids.length c2] 24)
            replace hlit := cell_alloc hlit (.cells #[.int .i64 p.var, .int .i64 p.op, .int .i64 p.imm, .int .i64 p.immVar, .slice A1 p.kids.length c1, .int .i64 q.var, .int .i64 q.op, .int .i64 q.imm, .int .i64 q.immVar, .slice A2 q.kids.length c2] 24)
            refine hK.out _ _ trivial (fun hHeld => ?_)
            clear hK K
            refine norm_ (a' := ?_) ?_ ?_
            rotate_left
            · show Act.put _ (some 80) _ = _
              simp only [P4]
              rfl
            refine one_ (i := 4) (N := some 69) (bm 18 65535) rfl rfl (by kernel_rfl) (by decide) (fun K hK => ?_)
            refine value_ (w1 := ?_) (v := ?_) (by rfl) rfl ?_ ?_
            rotate_left 2
            · go_simp
              constructor
              · rfl
              · rfl
            refine hK.out _ _ trivial (fun hHeld => ?_)
            clear hK K
            refine norm_ (a' := ?_) ?_ ?_
            rotate_left
            · show Act.put _ (some 69) _ = _
              simp only [P4]
              rfl
            exact norm_ (by simp only [putAll, P4]) (hCont (w2.heap.size, w3.heap.size, A1, c1, A2, c2) _ ⟨hbx, hN, hRd, hKK⟩)
      · skip
        refine goes_ Try.func41 (by kernel_rfl) rfl #[.pointer (some ⟨b, 0, none⟩), .int .i64 (wrap64 (D + 1)), .int .i64 vars] (by rfl) rfl rfl (by simp only [List.map_toArray, List.map_cons, List.map_nil]; rfl) ?_
        with_reducible refine (ih2 _ hRd).mono ?_
        rintro e w3 ⟨A2, c2, rfl, hc2, hF2, hRdn, hK⟩
        refine ⟨_, rfl, ?_⟩
        replace hbx := hK.blk hbx hgb (by simp)
        replace hKK := hKK.trans hK (.inl rfl)
        replace hF2 := Kd.F_mono hF2 (ok' := fun k => w1d.heap.size ≤ k) (fun k hk => Nat.le_trans hsz hk)
        replace hF1 := Kd.F_keep hF1 hK (fun k hk e => by omega)
        replace hsz := Nat.le_trans hsz hK.1
        clear hK hRd
        have hRd := hRdn
        clear hRdn
        refine hK.out _ _ trivial (fun hHeld => ?_)
        clear hK K
        refine norm_ (a' := ?_) ?_ ?_
        rotate_left
        · show Act.put _ (some 79) _ = _
          simp only [P4]
          rfl
        refine two_ (i := 0) (j := 15) (Ni := some 65) (Nj := some 80) (bm 18 32743) (bm 18 65510) rfl rfl rfl rfl (by kernel_rfl) (by decide) (by decide) (fun K hK => ?_) (fun K hK => ?_)
        · skip
          refine value_ (w1 := ?_) (v := ?_) (by rfl) rfl ?_ ?_
          rotate_left 2
          · go_simp
            constructor
            · rfl
            · rfl
          have hg : w3.heap.size ≠ b := by have := hRd.lt; omega
          have hlit := (blk_cell (blk_new w3 (.cells #[.int .i64 4, .int .i64 5, .int .i64 6] 3)) 1).trans rfl
          replace hbx := blk_below hbx ((Below.refl _ _).alloc (Nat.le_refl _) (.cells #[.int .i64 4, .int .i64 5, .int .i64 6] 3))
          replace hRd := hRd.below ((Below.refl _ _).alloc (Nat.le_refl _) (.cells #[.int .i64 4, .int .i64 5, .int .i64 6] 3))
          replace hKK := keep_alloc hKK (.cells #[.int .i64 4, .int .i64 5, .int .i64 6] 3)
          replace hsz := Nat.le_trans hsz ((Below.refl _ _).alloc (Nat.le_refl _) (.cells #[.int .i64 4, .int .i64 5, .int .i64 6] 3)).size
          replace hF1 := Kd.F_alloc hF1 (.cells #[.int .i64 4, .int .i64 5, .int .i64 6] 3)
          replace hF2 := Kd.F_alloc hF2 (.cells #[.int .i64 4, .int .i64 5, .int .i64 6] 3)
          refine hK.out _ _ trivial (fun hHeld => ?_)
          clear hK K
          refine norm_ (a' := ?_) ?_ ?_
          rotate_left
          · show Act.put _ (some 65) _ = _
            simp only [P4]
            rfl
          refine pure_ (i := 3) (N := some 68) (v := ?_) (a' := ?_) (bm 18 32751) rfl rfl (by kernel_rfl) (fun _ _ _ h => h) (Or.inl ⟨by rfl, ?_⟩) ?_ ?_
          rotate_left
          · intro w'; go_simp; with_reducible rfl
          rotate_left
          · simp only [P4]; rfl
          refine two_ (i := 4) (j := 15) (Ni := some 69) (Nj := some 80) (bm 18 32767) (bm 18 65519) rfl rfl rfl rfl (by kernel_rfl) (by decide) (by decide) (fun K hK => ?_) (fun K hK => ?_)
          · skip
            refine value_ (w1 := ?_) (v := ?_) (by rfl) rfl ?_ ?_
            rotate_left 2
            · go_simp
              constructor
              · rfl
              · rfl
            refine hK.out _ _ trivial (fun hHeld => ?_)
            clear hK K
            refine norm_ (a' := ?_) ?_ ?_
            rotate_left
            · show Act.put _ (some 69) _ = _
              simp only [P4]
              rfl
            refine one_ (i := 15) (N := some 80) (bm 18 65535) rfl rfl (by kernel_rfl) (by decide) (fun K hK => ?_)
            refine value_ (w1 := ?_) (v := ?_) (by rfl) rfl ?_ ?_
            rotate_left 2
            · go_simp
              constructor
              · rfl
              · rfl
            have hN := F_new kPat (w3.alloc (.cells #[.int .i64 4, .int .i64 5, .int .i64 6] 3)) (fun k => w1d.heap.size ≤ k) [p, q] _ 24 (Reps.c5 (kPat_mkF _ _ p hc1 hF1) (Reps.c5 (kPat_mkF _ _ q hc2 hF2) (Reps.none _ _))) (by simp) hsz
            simp only [World.size_alloc] at hN
            replace hbx := blk_below hbx ((Below.refl _ _).alloc (Nat.le_refl _) (.cells #[.int .i64 p.var, .int .i64 p.op, .int .i64 p.imm, .int .i64 p.immVar, .slice A1 p.kids.length c1, .int .i64 q.var, .int .i64 q.op, .int .i64 q.imm, .int .i64 q.immVar, .slice A2 q.kids.length c2] 24))
            replace hRd := hRd.below ((Below.refl _ _).alloc (Nat.le_refl _) (.cells #[.int .i64 p.var, .int .i64 p.op, .int .i64 p.imm, .int .i64 p.immVar, .slice A1 p.kids.length c1, .int .i64 q.var, .int .i64 q.op, .int .i64 q.imm, .int .i64 q.immVar, .slice A2 q.kids.length c2] 24))
            replace hKK := keep_alloc hKK (.cells #[.int .i64 p.var, .int .i64 p.op, .int .i64 p.imm, .int .i64 p.immVar, .slice A1 p.kids.length c1, .int .i64 q.var, .int .i64 q.op, .int .i64 q.imm, .int .i64 q.immVar, .slice A2 q.kids.length c2] 24)
            replace hsz := Nat.le_trans hsz ((Below.refl _ _).alloc (Nat.le_refl _) (.cells #[.int .i64 p.var, .int .i64 p.op, .int .i64 p.imm, .int .i64 p.immVar, .slice A1 p.kids.length c1, .int .i64 q.var, .int .i64 q.op, .int .i64 q.imm, .int .i64 q.immVar, .slice A2 q.kids.length c2] 24)).size
            replace hF1 := Kd.F_alloc hF1 (.cells #[.int .i64 p.var, .int .i64 p.op, .int .i64 p.imm, .int .i64 p.immVar, .slice A1 p.kids.length c1, .int .i64 q.var, .int .i64 q.op, .int .i64 q.imm, .int .i64 q.immVar, .slice A2 q.kids.length c2] 24)
            replace hF2 := Kd.F_alloc hF2 (.cells #[.int .i64 p.var, .int .i64 p.op, .int .i64 p.imm, .int .i64 p.immVar, .slice A1 p.kids.length c1, .int .i64 q.var, .int .i64 q.op, .int .i64 q.imm, .int .i64 q.immVar, .slice A2 q.kids.length c2] 24)
            refine hK.out _ _ trivial (fun hHeld => ?_)
            clear hK K
            refine norm_ (a' := ?_) ?_ ?_
            rotate_left
            · show Act.put _ (some 80) _ = _
              simp only [P4]
              rfl
            exact norm_ (by simp only [putAll, P4]) (hCont (w3.heap.size, w3.heap.size + 1, A1, c1, A2, c2) _ ⟨hbx, hN, hRd, hKK⟩)
          · skip
            refine value_ (w1 := ?_) (v := ?_) (by rfl) rfl ?_ ?_
            rotate_left 2
            · go_simp
              constructor
              · rfl
              · rfl
            have hN := F_new kPat (w3.alloc (.cells #[.int .i64 4, .int .i64 5, .int .i64 6] 3)) (fun k => w1d.heap.size ≤ k) [p, q] _ 24 (Reps.c5 (kPat_mkF _ _ p hc1 hF1) (Reps.c5 (kPat_mkF _ _ q hc2 hF2) (Reps.none _ _))) (by simp) hsz
            simp only [World.size_alloc] at hN
            replace hbx := blk_below hbx ((Below.refl _ _).alloc (Nat.le_refl _) (.cells #[.int .i64 p.var, .int .i64 p.op, .int .i64 p.imm, .int .i64 p.immVar, .slice A1 p.kids.length c1, .int .i64 q.var, .int .i64 q.op, .int .i64 q.imm, .int .i64 q.immVar, .slice A2 q.kids.length c2] 24))
            replace hRd := hRd.below ((Below.refl _ _).alloc (Nat.le_refl _) (.cells #[.int .i64 p.var, .int .i64 p.op, .int .i64 p.imm, .int .i64 p.immVar, .slice A1 p.kids.length c1, .int .i64 q.var, .int .i64 q.op, .int .i64 q.imm, .int .i64 q.immVar, .slice A2 q.kids.length c2] 24))
            replace hKK := keep_alloc hKK (.cells #[.int .i64 p.var, .int .i64 p.op, .int .i64 p.imm, .int .i64 p.immVar, .slice A1 p.kids.length c1, .int .i64 q.var, .int .i64 q.op, .int .i64 q.imm, .int .i64 q.immVar, .slice A2 q.kids.length c2] 24)
            replace hsz := Nat.le_trans hsz ((Below.refl _ _).alloc (Nat.le_refl _) (.cells #[.int .i64 p.var, .int .i64 p.op, .int .i64 p.imm, .int .i64 p.immVar, .slice A1 p.kids.length c1, .int .i64 q.var, .int .i64 q.op, .int .i64 q.imm, .int .i64 q.immVar, .slice A2 q.kids.length c2] 24)).size
            replace hF1 := Kd.F_alloc hF1 (.cells #[.int .i64 p.var, .int .i64 p.op, .int .i64 p.imm, .int .i64 p.immVar, .slice A1 p.kids.length c1, .int .i64 q.var, .int .i64 q.op, .int .i64 q.imm, .int .i64 q.immVar, .slice A2 q.kids.length c2] 24)
            replace hF2 := Kd.F_alloc hF2 (.cells #[.int .i64 p.var, .int .i64 p.op, .int .i64 p.imm, .int .i64 p.immVar, .slice A1 p.kids.length c1, .int .i64 q.var, .int .i64 q.op, .int .i64 q.imm, .int .i64 q.immVar, .slice A2 q.kids.length c2] 24)
            replace hlit := cell_alloc hlit (.cells #[.int .i64 p.var, .int .i64 p.op, .int .i64 p.imm, .int .i64 p.immVar, .slice A1 p.kids.length c1, .int .i64 q.var, .int .i64 q.op, .int .i64 q.imm, .int .i64 q.immVar, .slice A2 q.kids.length c2] 24)
            refine hK.out _ _ trivial (fun hHeld => ?_)
            clear hK K
            refine norm_ (a' := ?_) ?_ ?_
            rotate_left
            · show Act.put _ (some 80) _ = _
              simp only [P4]
              rfl
            refine one_ (i := 4) (N := some 69) (bm 18 65535) rfl rfl (by kernel_rfl) (by decide) (fun K hK => ?_)
            refine value_ (w1 := ?_) (v := ?_) (by rfl) rfl ?_ ?_
            rotate_left 2
            · go_simp
              constructor
              · rfl
              · rfl
            refine hK.out _ _ trivial (fun hHeld => ?_)
            clear hK K
            refine norm_ (a' := ?_) ?_ ?_
            rotate_left
            · show Act.put _ (some 69) _ = _
              simp only [P4]
              rfl
            exact norm_ (by simp only [putAll, P4]) (hCont (w3.heap.size, w3.heap.size + 1, A1, c1, A2, c2) _ ⟨hbx, hN, hRd, hKK⟩)
        · skip
          refine value_ (w1 := ?_) (v := ?_) (by rfl) rfl ?_ ?_
          rotate_left 2
          · go_simp
            constructor
            · rfl
            · rfl
          have hN := F_new kPat w3 (fun k => w1d.heap.size ≤ k) [p, q] _ 24 (Reps.c5 (kPat_mkF _ _ p hc1 hF1) (Reps.c5 (kPat_mkF _ _ q hc2 hF2) (Reps.none _ _))) (by simp) hsz
          replace hbx := blk_below hbx ((Below.refl _ _).alloc (Nat.le_refl _) (.cells #[.int .i64 p.var, .int .i64 p.op, .int .i64 p.imm, .int .i64 p.immVar, .slice A1 p.kids.length c1, .int .i64 q.var, .int .i64 q.op, .int .i64 q.imm, .int .i64 q.immVar, .slice A2 q.kids.length c2] 24))
          replace hRd := hRd.below ((Below.refl _ _).alloc (Nat.le_refl _) (.cells #[.int .i64 p.var, .int .i64 p.op, .int .i64 p.imm, .int .i64 p.immVar, .slice A1 p.kids.length c1, .int .i64 q.var, .int .i64 q.op, .int .i64 q.imm, .int .i64 q.immVar, .slice A2 q.kids.length c2] 24))
          replace hKK := keep_alloc hKK (.cells #[.int .i64 p.var, .int .i64 p.op, .int .i64 p.imm, .int .i64 p.immVar, .slice A1 p.kids.length c1, .int .i64 q.var, .int .i64 q.op, .int .i64 q.imm, .int .i64 q.immVar, .slice A2 q.kids.length c2] 24)
          replace hsz := Nat.le_trans hsz ((Below.refl _ _).alloc (Nat.le_refl _) (.cells #[.int .i64 p.var, .int .i64 p.op, .int .i64 p.imm, .int .i64 p.immVar, .slice A1 p.kids.length c1, .int .i64 q.var, .int .i64 q.op, .int .i64 q.imm, .int .i64 q.immVar, .slice A2 q.kids.length c2] 24)).size
          replace hF1 := Kd.F_alloc hF1 (.cells #[.int .i64 p.var, .int .i64 p.op, .int .i64 p.imm, .int .i64 p.immVar, .slice A1 p.kids.length c1, .int .i64 q.var, .int .i64 q.op, .int .i64 q.imm, .int .i64 q.immVar, .slice A2 q.kids.length c2] 24)
          replace hF2 := Kd.F_alloc hF2 (.cells #[.int .i64 p.var, .int .i64 p.op, .int .i64 p.imm, .int .i64 p.immVar, .slice A1 p.kids.length c1, .int .i64 q.var, .int .i64 q.op, .int .i64 q.imm, .int .i64 q.immVar, .slice A2 q.kids.length c2] 24)
          refine hK.out _ _ trivial (fun hHeld => ?_)
          clear hK K
          refine norm_ (a' := ?_) ?_ ?_
          rotate_left
          · show Act.put _ (some 80) _ = _
            simp only [P4]
            rfl
          refine one_ (i := 0) (N := some 65) (bm 18 65511) rfl rfl (by kernel_rfl) (by decide) (fun K hK => ?_)
          refine value_ (w1 := ?_) (v := ?_) (by rfl) rfl ?_ ?_
          rotate_left 2
          · go_simp
            constructor
            · rfl
            · rfl
          have hg : (w3.alloc (.cells #[.int .i64 p.var, .int .i64 p.op, .int .i64 p.imm, .int .i64 p.immVar, .slice A1 p.kids.length c1, .int .i64 q.var, .int .i64 q.op, .int .i64 q.imm, .int .i64 q.immVar, .slice A2 q.kids.length c2] 24)).heap.size ≠ b := by have := hRd.lt; omega
          have hlit := (blk_cell (blk_new (w3.alloc (.cells #[.int .i64 p.var, .int .i64 p.op, .int .i64 p.imm, .int .i64 p.immVar, .slice A1 p.kids.length c1, .int .i64 q.var, .int .i64 q.op, .int .i64 q.imm, .int .i64 q.immVar, .slice A2 q.kids.length c2] 24)) (.cells #[.int .i64 4, .int .i64 5, .int .i64 6] 3)) 1).trans rfl
          replace hbx := blk_below hbx ((Below.refl _ _).alloc (Nat.le_refl _) (.cells #[.int .i64 4, .int .i64 5, .int .i64 6] 3))
          replace hRd := hRd.below ((Below.refl _ _).alloc (Nat.le_refl _) (.cells #[.int .i64 4, .int .i64 5, .int .i64 6] 3))
          replace hKK := keep_alloc hKK (.cells #[.int .i64 4, .int .i64 5, .int .i64 6] 3)
          replace hsz := Nat.le_trans hsz ((Below.refl _ _).alloc (Nat.le_refl _) (.cells #[.int .i64 4, .int .i64 5, .int .i64 6] 3)).size
          replace hF1 := Kd.F_alloc hF1 (.cells #[.int .i64 4, .int .i64 5, .int .i64 6] 3)
          replace hF2 := Kd.F_alloc hF2 (.cells #[.int .i64 4, .int .i64 5, .int .i64 6] 3)
          replace hN := Kd.F_alloc hN (.cells #[.int .i64 4, .int .i64 5, .int .i64 6] 3)
          refine hK.out _ _ trivial (fun hHeld => ?_)
          clear hK K
          refine norm_ (a' := ?_) ?_ ?_
          rotate_left
          · show Act.put _ (some 65) _ = _
            simp only [P4]
            rfl
          refine pure_ (i := 3) (N := some 68) (v := ?_) (a' := ?_) (bm 18 65519) rfl rfl (by kernel_rfl) (fun _ _ _ h => h) (Or.inl ⟨by rfl, ?_⟩) ?_ ?_
          rotate_left
          · intro w'; go_simp; with_reducible rfl
          rotate_left
          · simp only [P4]; rfl
          refine one_ (i := 4) (N := some 69) (bm 18 65535) rfl rfl (by kernel_rfl) (by decide) (fun K hK => ?_)
          refine value_ (w1 := ?_) (v := ?_) (by rfl) rfl ?_ ?_
          rotate_left 2
          · go_simp
            constructor
            · rfl
            · rfl
          refine hK.out _ _ trivial (fun hHeld => ?_)
          clear hK K
          refine norm_ (a' := ?_) ?_ ?_
          rotate_left
          · show Act.put _ (some 69) _ = _
            simp only [P4]
            rfl
          exact norm_ (by simp only [putAll, P4]) (hCont (w3.heap.size + 1, w3.heap.size, A1, c1, A2, c2) _ ⟨hbx, hN, hRd, hKK⟩)
  rintro ⟨g, gk, A1, c1, A2, c2⟩ w4 ⟨hbx, hN, hRd, hKK⟩
  have hHeld : True := trivial
  refine norm_ (a' := ?_) ?_ ?_
  rotate_left
  · simp only [putAll, P4]
    rfl
  refine pure_ (i := 16) (N := some 81) (v := ?_) (a' := ?_) (bm 18 131071) rfl rfl (by kernel_rfl) (fun _ _ _ h => h) (Or.inl ⟨by rfl, ?_⟩) ?_ ?_
  rotate_left
  · intro w'; go_simp; with_reducible rfl
  rotate_left
  · simp only [P4]; rfl
  refine one_ (i := 17) (N := none) (bm 18 262143) rfl rfl (by kernel_rfl) (by decide) (fun K hK => ?_)
  have c0 := (blk_cell hbx 0).trans rfl
  have c1 := (blk_cell hbx 1).trans rfl
  have c2 := (blk_cell hbx 2).trans rfl
  have c3 := (blk_cell hbx 3).trans rfl
  have c4 := (blk_cell hbx 4).trans rfl
  have hfz := fun j => blk_frozen hbx j
  refine skip_ (w1 := ?_) (by rfl) rfl ?_ ?_
  rotate_left
  · go_simp
    rfl
  refine hK.out _ _ trivial (fun hHeld => ?_)
  clear hK K
  refine done_ (by kernel_rfl) ?_
  go_wp2
  refine bodyPost_ret (results_cell_row rfl _ _ w.heap.size 24 _ (0, 0) _ rfl (put5 hbx _ _ _ _ _) Try.underlying24 rfl (by kernel_rfl)) rfl ?_
  rw [E.out]
  exact ⟨_, 2, rfl, Nat.le_refl _, Kd.F_mono (F_far5 hN (fun k hk e => by omega) _ _ _ _ _) (fun k hk => by omega), hRd.far5 hgw hgb _ _ _ _ _, keep_far5 hKK (Nat.le_refl _) _ _ _ _ _⟩
set_option maxHeartbeats 1000000 in
set_option maxRecDepth 100000 in
theorem pat_bin2 (vars : Int) (hv : 1 ≤ vars) (hv2 : vars ≤ 6) (d : Nat) (hd4 : d < 4) (ih : PatC vars d) (w0 w : World) (b : Nat) (ls : List Int) (hRd : Rd w0 w b ls) (hls : ∀ n ∈ ls, I64 n) (hk1 : 6 ≤ ls.headD 0 % 11) (hk2 : (ls.headD 0).tdiv 11 % 1000 % 3 = 2) :
    Calls Try.prog 41 #[.pointer (some ⟨b, 0, none⟩), .int .i64 (4 - (d + 1 : Nat)), .int .i64 vars] w (PatRes w0 w b (genPat vars (d + 1) ls)) := by
  have hls1 := mem_tail_i64 hls
  have ih1 := fun W h => ih w0 W b ls.tail h hls1
  have ih2 := fun W h => ih w0 W b (genPat vars d ls.tail).2 h (genPat_i64 vars d _ hls1)
  obtain ⟨D, hD⟩ : ∃ D : Int, D = 4 - (d + 1 : Nat) := ⟨_, rfl⟩
  have hD1 : (4 - (d : Int)) = D + 1 := by omega
  have hD0 : 0 ≤ D ∧ D ≤ 3 := by omega
  have hwD : wrap64 (D + 1) = D + 1 := by rw [wrap64]; omega
  rw [hD1] at ih1 ih2
  rw [← hD]
  clear hD
  have hn := head_i64 hls
  have hd := tdiv_i64 hn (show (2 : Int) ≤ 11 by decide)
  have hnx := fun W h => Next_calls w0 W b ls h
  obtain ⟨n, hnn⟩ : ∃ n, n = ls.headD 0 := ⟨_, rfl⟩
  have E : Hid (genPat vars (d + 1) ls = (⟨0, 6, 0, 0, [(genPat vars d ls.tail).1, (genPat vars d (genPat vars d ls.tail).2).1]⟩, (genPat vars d (genPat vars d ls.tail).2).2)) := Lib.hid (by (try rw [hnn]); simp only [genPat]; rw [if_neg (by omega), if_neg (by omega), if_neg (by omega), if_neg (by omega), if_neg (by omega), if_neg (by omega)])
  rw [← hnn] at hnx hn hd
  have hw : wrap64 (n.tdiv 11) = n.tdiv 11 := by unfold I64 at hd; rw [wrap64]; omega
  have pc1 := fun W => Pick_calls n 11 W (by decide) (by decide)
  have pc2 := fun W => Pick_calls (n.tdiv 11) 1000 W (by decide) (by decide)
  obtain ⟨k, hk⟩ : ∃ k, k = n % 11 := ⟨_, rfl⟩
  rw [← hnn, ← hk] at hk1
  rw [← hnn] at hk2
  obtain ⟨m, hm⟩ : ∃ m, m = n.tdiv 11 % 1000 := ⟨_, rfl⟩
  have hm0 : 0 ≤ m ∧ m < 1000 := by omega
  rw [← hk] at pc1
  rw [← hm] at pc2 hk2
  rcases hg1 : genPat vars d ls.tail with ⟨p, r⟩
  rw [hg1] at ih1 ih2 E
  simp only at ih2 E
  rcases hg2 : genPat vars d r with ⟨q, r2⟩
  rw [hg2] at ih2 E
  simp only at E
  have hm2 : m.tmod 3 = m % 3 := Int.tmod_eq_emod_of_nonneg hm0.1
  have hmx : m % 3 = 2 := hk2
  rw [hmx] at hm2
  clear hk hm hnn hd hg1 ih hmx hk2 hg2
  have hW := fun ob => (Below.refl w.heap.size w).alloc (Nat.le_refl _) ob
  have hgb : w.heap.size ≠ b := by have := hRd.lt; omega
  have hbl : b < w.heap.size := hRd.lt
  have hgw : w0.heap.size ≤ w.heap.size := hRd.choose_spec.choose_spec.1.size
  go_enter Try.func41, Try.ntmps41
  go_wp2_with fail
  refine (hnx _ (hRd.below (hW _))).mono ?_
  rintro e w1 ⟨rfl, hRd1, hK1⟩
  have hbx : w1.heap[w.heap.size]? = some (.cells #[.int .i64 0, .int .i64 0, .int .i64 0, .int .i64 0, .slice none 0 0] 24 (0, 0)) := hK1.blk (blk_new w _) hgb (by simp)
  have hKK : KeepBut w w1 b none := (KeepBut.of_below (hW _) _ _).trans hK1 (.inl rfl)
  have hg1' : w.heap.size < w1.heap.size := blk_lt hbx
  go_wp2_with fail
  refine (pc1 _).mono ?_
  rintro e w' ⟨rfl, hw'⟩
  subst hw'
  go_wp2_with fail
  refine (pc2 _).mono ?_
  rintro e w' ⟨rfl, hw'⟩
  subst hw'
  obtain ⟨w1, rfl⟩ : ∃ w1 : World, w1 = w' := ⟨_, rfl⟩
  go_wp2
  rw [← hwD] at ih1 ih2
  refine start_ (n := 18) (S := fun w' => True) (ds := []) (bm 18 0) (by kernel_rfl) rfl rfl trivial (fun hHeld => ?_)
  replace hbx : w1.drew.heap[w.heap.size]? = _ := hbx
  replace hKK : KeepBut w w1.drew b none := hKK
  have hRd : Rd w0 w1.drew b ls.tail := hRd1.below (below_drew (Below.refl _ _))
  replace hg1' : w.heap.size < w1.drew.heap.size := hg1'
  clear hRd1 hK1
  generalize w1.drew = w1d at hbx hKK hRd hg1' ⊢
  have hsz : w1d.heap.size ≤ w1d.heap.size := Nat.le_refl _
  refine pure_ (i := 1) (N := some 66) (v := ?_) (a' := ?_) (bm 18 2) rfl rfl (by kernel_rfl) (fun _ _ _ h => h) (Or.inl ⟨by rfl, ?_⟩) ?_ ?_
  rotate_left
  · intro w'; go_simp; with_reducible rfl
  rotate_left
  · simp only [P4]; rfl
  refine pure_ (i := 2) (N := some 67) (v := ?_) (a' := ?_) (bm 18 6) rfl rfl (by kernel_rfl) (fun _ _ _ h => h) (Or.inl ⟨by rfl, ?_⟩) ?_ ?_
  rotate_left
  · intro w'; go_simp; with_reducible rfl
  rotate_left
  · simp only [P4]; rfl
  refine pure_ (i := 5) (N := some 70) (v := ?_) (a' := ?_) (bm 18 38) rfl rfl (by kernel_rfl) (fun _ _ _ h => h) (Or.inl ⟨by rfl, ?_⟩) ?_ ?_
  rotate_left
  · intro w'; go_simp; with_reducible rfl
  rotate_left
  · simp only [P4]; rfl
  refine pure_ (i := 6) (N := some 71) (v := ?_) (a' := ?_) (bm 18 102) rfl rfl (by kernel_rfl) (fun _ _ _ h => h) (Or.inl ⟨by rfl, ?_⟩) ?_ ?_
  rotate_left
  · intro w'; go_simp; with_reducible rfl
  rotate_left
  · simp only [P4]; rfl
  refine pure_ (i := 7) (N := some 72) (v := ?_) (a' := ?_) (bm 18 230) rfl rfl (by kernel_rfl) (fun _ _ _ h => h) (Or.inl ⟨by rfl, ?_⟩) ?_ ?_
  rotate_left
  · intro w'; go_simp; with_reducible rfl
  rotate_left
  · simp only [P4]; rfl
  refine pure_ (i := 8) (N := some 73) (v := ?_) (a' := ?_) (bm 18 486) rfl rfl (by kernel_rfl) (fun _ _ _ h => h) (Or.inl ⟨by rfl, ?_⟩) ?_ ?_
  rotate_left
  · intro w'; go_simp; with_reducible rfl
  rotate_left
  · simp only [P4]; rfl
  refine pure_ (i := 10) (N := some 75) (v := ?_) (a' := ?_) (bm 18 1510) rfl rfl (by kernel_rfl) (fun _ _ _ h => h) (Or.inl ⟨by rfl, ?_⟩) ?_ ?_
  rotate_left
  · intro w'; go_simp; with_reducible rfl
  rotate_left
  · simp only [P4]; rfl
  refine pure_ (i := 11) (N := some 76) (v := ?_) (a' := ?_) (bm 18 3558) rfl rfl (by kernel_rfl) (fun _ _ _ h => h) (Or.inl ⟨by rfl, ?_⟩) ?_ ?_
  rotate_left
  · intro w'; go_simp; with_reducible rfl
  rotate_left
  · simp only [P4]; rfl
  refine pure_ (i := 12) (N := some 77) (v := ?_) (a' := ?_) (bm 18 7654) rfl rfl (by kernel_rfl) (fun _ _ _ h => h) (Or.inl ⟨by rfl, ?_⟩) ?_ ?_
  rotate_left
  · intro w'; go_simp; with_reducible rfl
  rotate_left
  · simp only [P4]; rfl
  refine pure_ (i := 13) (N := some 78) (v := ?_) (a' := ?_) (bm 18 15846) rfl rfl (by kernel_rfl) (fun _ _ _ h => h) (Or.inl ⟨by rfl, ?_⟩) ?_ ?_
  rotate_left
  · intro w'; go_simp; with_reducible rfl
  rotate_left
  · simp only [P4]; rfl
  refine join_ (σ := Nat × Nat × Option Addr × Nat × Option Addr × Nat) 2 (bm 18 65535) (fun s => [(65, .slice (some ⟨s.1, 0, none⟩) 3 3), (68, .pointer (some ⟨s.1, 2, none⟩)), (69, .int .i64 6), (74, .agg #[.int .i64 p.var, .int .i64 p.op, .int .i64 p.imm, .int .i64 p.immVar, .slice s.2.2.1 p.kids.length s.2.2.2.1]), (79, .agg #[.int .i64 q.var, .int .i64 q.op, .int .i64 q.imm, .int .i64 q.immVar, .slice s.2.2.2.2.1 q.kids.length s.2.2.2.2.2]), (80, .slice (some ⟨s.2.1, 0, none⟩) 2 2)]) (fun s w' => w'.heap[w.heap.size]? = some (.cells #[.int .i64 0, .int .i64 0, .int .i64 0, .int .i64 0, .slice none 0 0] 24 (0, 0)) ∧ Kd.F kPat w' (fun k => w1d.heap.size ≤ k) (some ⟨s.2.1, 0, none⟩) 2 [p, q] ∧ Rd w0 w' b r2 ∧ KeepBut w w' b none) ?_ ?_
  rotate_left
  · intro hCont
    refine two_ (i := 0) (j := 9) (Ni := some 65) (Nj := some 74) (bm 18 15847) (bm 18 16358) rfl rfl rfl rfl (by kernel_rfl) (by decide) (by decide) (fun K hK => ?_) (fun K hK => ?_)
    · skip
      refine value_ (w1 := ?_) (v := ?_) (by rfl) rfl ?_ ?_
      rotate_left 2
      · go_simp
        constructor
        · rfl
        · rfl
      have hg : w1d.heap.size ≠ b := by have := hRd.lt; omega
      have hlit := (blk_cell (blk_new w1d (.cells #[.int .i64 4, .int .i64 5, .int .i64 6] 3)) 2).trans rfl
      replace hbx := blk_below hbx ((Below.refl _ _).alloc (Nat.le_refl _) (.cells #[.int .i64 4, .int .i64 5, .int .i64 6] 3))
      replace hRd := hRd.below ((Below.refl _ _).alloc (Nat.le_refl _) (.cells #[.int .i64 4, .int .i64 5, .int .i64 6] 3))
      replace hKK := keep_alloc hKK (.cells #[.int .i64 4, .int .i64 5, .int .i64 6] 3)
      replace hsz := Nat.le_trans hsz ((Below.refl _ _).alloc (Nat.le_refl _) (.cells #[.int .i64 4, .int .i64 5, .int .i64 6] 3)).size
      refine hK.out _ _ trivial (fun hHeld => ?_)
      clear hK K
      refine norm_ (a' := ?_) ?_ ?_
      rotate_left
      · show Act.put _ (some 65) _ = _
        simp only [P4]
        rfl
      refine pure_ (i := 3) (N := some 68) (v := ?_) (a' := ?_) (bm 18 15855) rfl rfl (by kernel_rfl) (fun _ _ _ h => h) (Or.inl ⟨by rfl, ?_⟩) ?_ ?_
      rotate_left
      · intro w'; go_simp; with_reducible rfl
      rotate_left
      · simp only [P4]; rfl
      refine two_ (i := 4) (j := 9) (Ni := some 69) (Nj := some 74) (bm 18 15871) (bm 18 16367) rfl rfl rfl rfl (by kernel_rfl) (by decide) (by decide) (fun K hK => ?_) (fun K hK => ?_)
      · skip
        refine value_ (w1 := ?_) (v := ?_) (by rfl) rfl ?_ ?_
        rotate_left 2
        · go_simp
          constructor
          · rfl
          · rfl
        refine hK.out _ _ trivial (fun hHeld => ?_)
        clear hK K
        refine norm_ (a' := ?_) ?_ ?_
        rotate_left
        · show Act.put _ (some 69) _ = _
          simp only [P4]
          rfl
        refine one_ (i := 9) (N := some 74) (bm 18 16383) rfl rfl (by kernel_rfl) (by decide) (fun K hK => ?_)
        refine goes_ Try.func41 (by kernel_rfl) rfl #[.pointer (some ⟨b, 0, none⟩), .int .i64 (wrap64 (D + 1)), .int .i64 vars] (by rfl) rfl rfl (by simp only [List.map_toArray, List.map_cons, List.map_nil]; rfl) ?_
        with_reducible refine (ih1 _ hRd).mono ?_
        rintro e w2 ⟨A1, c1, rfl, hc1, hF1, hRdn, hK⟩
        refine ⟨_, rfl, ?_⟩
        replace hbx := hK.blk hbx hgb (by simp)
        replace hKK := hKK.trans hK (.inl rfl)
        replace hF1 := Kd.F_mono hF1 (ok' := fun k => w1d.heap.size ≤ k) (fun k hk => Nat.le_trans hsz hk)
        replace hsz := Nat.le_trans hsz hK.1
        clear hK hRd
        have hRd := hRdn
        clear hRdn
        refine hK.out _ _ trivial (fun hHeld => ?_)
        clear hK K
        refine norm_ (a' := ?_) ?_ ?_
        rotate_left
        · show Act.put _ (some 74) _ = _
          simp only [P4]
          rfl
        refine one_ (i := 14) (N := some 79) (bm 18 32767) rfl rfl (by kernel_rfl) (by decide) (fun K hK => ?_)
        refine goes_ Try.func41 (by kernel_rfl) rfl #[.pointer (some ⟨b, 0, none⟩), .int .i64 (wrap64 (D + 1)), .int .i64 vars] (by rfl) rfl rfl (by simp only [List.map_toArray, List.map_cons, List.map_nil]; rfl) ?_
        with_reducible refine (ih2 _ hRd).mono ?_
        rintro e w3 ⟨A2, c2, rfl, hc2, hF2, hRdn, hK⟩
        refine ⟨_, rfl, ?_⟩
        replace hbx := hK.blk hbx hgb (by simp)
        replace hKK := hKK.trans hK (.inl rfl)
        replace hF2 := Kd.F_mono hF2 (ok' := fun k => w1d.heap.size ≤ k) (fun k hk => Nat.le_trans hsz hk)
        replace hF1 := Kd.F_keep hF1 hK (fun k hk e => by omega)
        replace hsz := Nat.le_trans hsz hK.1
        clear hK hRd
        have hRd := hRdn
        clear hRdn
        refine hK.out _ _ trivial (fun hHeld => ?_)
        clear hK K
        refine norm_ (a' := ?_) ?_ ?_
        rotate_left
        · show Act.put _ (some 79) _ = _
          simp only [P4]
          rfl
        refine one_ (i := 15) (N := some 80) (bm 18 65535) rfl rfl (by kernel_rfl) (by decide) (fun K hK => ?_)
        refine value_ (w1 := ?_) (v := ?_) (by rfl) rfl ?_ ?_
        rotate_left 2
        · go_simp
          constructor
          · rfl
          · rfl
        have hN := F_new kPat w3 (fun k => w1d.heap.size ≤ k) [p, q] _ 24 (Reps.c5 (kPat_mkF _ _ p hc1 hF1) (Reps.c5 (kPat_mkF _ _ q hc2 hF2) (Reps.none _ _))) (by simp) hsz
        replace hbx := blk_below hbx ((Below.refl _ _).alloc (Nat.le_refl _) (.cells #[.int .i64 p.var, .int .i64 p.op, .int .i64 p.imm, .int .i64 p.immVar, .slice A1 p.kids.length c1, .int .i64 q.var, .int .i64 q.op, .int .i64 q.imm, .int .i64 q.immVar, .slice A2 q.kids.length c2] 24))
        replace hRd := hRd.below ((Below.refl _ _).alloc (Nat.le_refl _) (.cells #[.int .i64 p.var, .int .i64 p.op, .int .i64 p.imm, .int .i64 p.immVar, .slice A1 p.kids.length c1, .int .i64 q.var, .int .i64 q.op, .int .i64 q.imm, .int .i64 q.immVar, .slice A2 q.kids.length c2] 24))
        replace hKK := keep_alloc hKK (.cells #[.int .i64 p.var, .int .i64 p.op, .int .i64 p.imm, .int .i64 p.immVar, .slice A1 p.kids.length c1, .int .i64 q.var, .int .i64 q.op, .int .i64 q.imm, .int .i64 q.immVar, .slice A2 q.kids.length c2] 24)
        replace hsz := Nat.le_trans hsz ((Below.refl _ _).alloc (Nat.le_refl _) (.cells #[.int .i64 p.var, .int .i64 p.op, .int .i64 p.imm, .int .i64 p.immVar, .slice A1 p.kids.length c1, .int .i64 q.var, .int .i64 q.op, .int .i64 q.imm, .int .i64 q.immVar, .slice A2 q.kids.length c2] 24)).size
        replace hF1 := Kd.F_alloc hF1 (.cells #[.int .i64 p.var, .int .i64 p.op, .int .i64 p.imm, .int .i64 p.immVar, .slice A1 p.kids.length c1, .int .i64 q.var, .int .i64 q.op, .int .i64 q.imm, .int .i64 q.immVar, .slice A2 q.kids.length c2] 24)
        replace hF2 := Kd.F_alloc hF2 (.cells #[.int .i64 p.var, .int .i64 p.op, .int .i64 p.imm, .int .i64 p.immVar, .slice A1 p.kids.length c1, .int .i64 q.var, .int .i64 q.op, .int .i64 q.imm, .int .i64 q.immVar, .slice A2 q.kids.length c2] 24)
        refine hK.out _ _ trivial (fun hHeld => ?_)
        clear hK K
        refine norm_ (a' := ?_) ?_ ?_
        rotate_left
        · show Act.put _ (some 80) _ = _
          simp only [P4]
          rfl
        exact norm_ (by simp only [putAll, P4]) (hCont (w1d.heap.size, w3.heap.size, A1, c1, A2, c2) _ ⟨hbx, hN, hRd, hKK⟩)
      · skip
        refine goes_ Try.func41 (by kernel_rfl) rfl #[.pointer (some ⟨b, 0, none⟩), .int .i64 (wrap64 (D + 1)), .int .i64 vars] (by rfl) rfl rfl (by simp only [List.map_toArray, List.map_cons, List.map_nil]; rfl) ?_
        with_reducible refine (ih1 _ hRd).mono ?_
        rintro e w2 ⟨A1, c1, rfl, hc1, hF1, hRdn, hK⟩
        refine ⟨_, rfl, ?_⟩
        replace hbx := hK.blk hbx hgb (by simp)
        replace hKK := hKK.trans hK (.inl rfl)
        replace hF1 := Kd.F_mono hF1 (ok' := fun k => w1d.heap.size ≤ k) (fun k hk => Nat.le_trans hsz hk)
        replace hlit := keep_cell hK hlit hg
        replace hsz := Nat.le_trans hsz hK.1
        clear hK hRd
        have hRd := hRdn
        clear hRdn
        refine hK.out _ _ trivial (fun hHeld => ?_)
        clear hK K
        refine norm_ (a' := ?_) ?_ ?_
        rotate_left
        · show Act.put _ (some 74) _ = _
          simp only [P4]
          rfl
        refine two_ (i := 4) (j := 14) (Ni := some 69) (Nj := some 79) (bm 18 16383) (bm 18 32751) rfl rfl rfl rfl (by kernel_rfl) (by decide) (by decide) (fun K hK => ?_) (fun K hK => ?_)
        · skip
          refine value_ (w1 := ?_) (v := ?_) (by rfl) rfl ?_ ?_
          rotate_left 2
          · go_simp
            constructor
            · rfl
            · rfl
          refine hK.out _ _ trivial (fun hHeld => ?_)
          clear hK K
          refine norm_ (a' := ?_) ?_ ?_
          rotate_left
          · show Act.put _ (some 69) _ = _
            simp only [P4]
            rfl
          refine one_ (i := 14) (N := some 79) (bm 18 32767) rfl rfl (by kernel_rfl) (by decide) (fun K hK => ?_)
          refine goes_ Try.func41 (by kernel_rfl) rfl #[.pointer (some ⟨b, 0, none⟩), .int .i64 (wrap64 (D + 1)), .int .i64 vars] (by rfl) rfl rfl (by simp only [List.map_toArray, List.map_cons, List.map_nil]; rfl) ?_
          with_reducible refine (ih2 _ hRd).mono ?_
          rintro e w3 ⟨A2, c2, rfl, hc2, hF2, hRdn, hK⟩
          refine ⟨_, rfl, ?_⟩
          replace hbx := hK.blk hbx hgb (by simp)
          replace hKK := hKK.trans hK (.inl rfl)
          replace hF2 := Kd.F_mono hF2 (ok' := fun k => w1d.heap.size ≤ k) (fun k hk => Nat.le_trans hsz hk)
          replace hF1 := Kd.F_keep hF1 hK (fun k hk e => by omega)
          replace hsz := Nat.le_trans hsz hK.1
          clear hK hRd
          have hRd := hRdn
          clear hRdn
          refine hK.out _ _ trivial (fun hHeld => ?_)
          clear hK K
          refine norm_ (a' := ?_) ?_ ?_
          rotate_left
          · show Act.put _ (some 79) _ = _
            simp only [P4]
            rfl
          refine one_ (i := 15) (N := some 80) (bm 18 65535) rfl rfl (by kernel_rfl) (by decide) (fun K hK => ?_)
          refine value_ (w1 := ?_) (v := ?_) (by rfl) rfl ?_ ?_
          rotate_left 2
          · go_simp
            constructor
            · rfl
            · rfl
          have hN := F_new kPat w3 (fun k => w1d.heap.size ≤ k) [p, q] _ 24 (Reps.c5 (kPat_mkF _ _ p hc1 hF1) (Reps.c5 (kPat_mkF _ _ q hc2 hF2) (Reps.none _ _))) (by simp) hsz
          replace hbx := blk_below hbx ((Below.refl _ _).alloc (Nat.le_refl _) (.cells #[.int .i64 p.var, .int .i64 p.op, .int .i64 p.imm, .int .i64 p.immVar, .slice A1 p.kids.length c1, .int .i64 q.var, .int .i64 q.op, .int .i64 q.imm, .int .i64 q.immVar, .slice A2 q.kids.length c2] 24))
          replace hRd := hRd.below ((Below.refl _ _).alloc (Nat.le_refl _) (.cells #[.int .i64 p.var, .int .i64 p.op, .int .i64 p.imm, .int .i64 p.immVar, .slice A1 p.kids.length c1, .int .i64 q.var, .int .i64 q.op, .int .i64 q.imm, .int .i64 q.immVar, .slice A2 q.kids.length c2] 24))
          replace hKK := keep_alloc hKK (.cells #[.int .i64 p.var, .int .i64 p.op, .int .i64 p.imm, .int .i64 p.immVar, .slice A1 p.kids.length c1, .int .i64 q.var, .int .i64 q.op, .int .i64 q.imm, .int .i64 q.immVar, .slice A2 q.kids.length c2] 24)
          replace hsz := Nat.le_trans hsz ((Below.refl _ _).alloc (Nat.le_refl _) (.cells #[.int .i64 p.var, .int .i64 p.op, .int .i64 p.imm, .int .i64 p.immVar, .slice A1 p.kids.length c1, .int .i64 q.var, .int .i64 q.op, .int .i64 q.imm, .int .i64 q.immVar, .slice A2 q.kids.length c2] 24)).size
          replace hF1 := Kd.F_alloc hF1 (.cells #[.int .i64 p.var, .int .i64 p.op, .int .i64 p.imm, .int .i64 p.immVar, .slice A1 p.kids.length c1, .int .i64 q.var, .int .i64 q.op, .int .i64 q.imm, .int .i64 q.immVar, .slice A2 q.kids.length c2] 24)
          replace hF2 := Kd.F_alloc hF2 (.cells #[.int .i64 p.var, .int .i64 p.op, .int .i64 p.imm, .int .i64 p.immVar, .slice A1 p.kids.length c1, .int .i64 q.var, .int .i64 q.op, .int .i64 q.imm, .int .i64 q.immVar, .slice A2 q.kids.length c2] 24)
          refine hK.out _ _ trivial (fun hHeld => ?_)
          clear hK K
          refine norm_ (a' := ?_) ?_ ?_
          rotate_left
          · show Act.put _ (some 80) _ = _
            simp only [P4]
            rfl
          exact norm_ (by simp only [putAll, P4]) (hCont (w1d.heap.size, w3.heap.size, A1, c1, A2, c2) _ ⟨hbx, hN, hRd, hKK⟩)
        · skip
          refine goes_ Try.func41 (by kernel_rfl) rfl #[.pointer (some ⟨b, 0, none⟩), .int .i64 (wrap64 (D + 1)), .int .i64 vars] (by rfl) rfl rfl (by simp only [List.map_toArray, List.map_cons, List.map_nil]; rfl) ?_
          with_reducible refine (ih2 _ hRd).mono ?_
          rintro e w3 ⟨A2, c2, rfl, hc2, hF2, hRdn, hK⟩
          refine ⟨_, rfl, ?_⟩
          replace hbx := hK.blk hbx hgb (by simp)
          replace hKK := hKK.trans hK (.inl rfl)
          replace hF2 := Kd.F_mono hF2 (ok' := fun k => w1d.heap.size ≤ k) (fun k hk => Nat.le_trans hsz hk)
          replace hF1 := Kd.F_keep hF1 hK (fun k hk e => by omega)
          replace hlit := keep_cell hK hlit hg
          replace hsz := Nat.le_trans hsz hK.1
          clear hK hRd
          have hRd := hRdn
          clear hRdn
          refine hK.out _ _ trivial (fun hHeld => ?_)
          clear hK K
          refine norm_ (a' := ?_) ?_ ?_
          rotate_left
          · show Act.put _ (some 79) _ = _
            simp only [P4]
            rfl
          refine two_ (i := 4) (j := 15) (Ni := some 69) (Nj := some 80) (bm 18 32767) (bm 18 65519) rfl rfl rfl rfl (by kernel_rfl) (by decide) (by decide) (fun K hK => ?_) (fun K hK => ?_)
          · skip
            refine value_ (w1 := ?_) (v := ?_) (by rfl) rfl ?_ ?_
            rotate_left 2
            · go_simp
              constructor
              · rfl
              · rfl
            refine hK.out _ _ trivial (fun hHeld => ?_)
            clear hK K
            refine norm_ (a' := ?_) ?_ ?_
            rotate_left
            · show Act.put _ (some 69) _ = _
              simp only [P4]
              rfl
            refine one_ (i := 15) (N := some 80) (bm 18 65535) rfl rfl (by kernel_rfl) (by decide) (fun K hK => ?_)
            refine value_ (w1 := ?_) (v := ?_) (by rfl) rfl ?_ ?_
            rotate_left 2
            · go_simp
              constructor
              · rfl
              · rfl
            have hN := F_new kPat w3 (fun k => w1d.heap.size ≤ k) [p, q] _ 24 (Reps.c5 (kPat_mkF _ _ p hc1 hF1) (Reps.c5 (kPat_mkF _ _ q hc2 hF2) (Reps.none _ _))) (by simp) hsz
            replace hbx := blk_below hbx ((Below.refl _ _).alloc (Nat.le_refl _) (.cells #[.int .i64 p.var, .int .i64 p.op, .int .i64 p.imm, .int .i64 p.immVar, .slice A1 p.kids.length c1, .int .i64 q.var, .int .i64 q.op, .int .i64 q.imm, .int .i64 q.immVar, .slice A2 q.kids.length c2] 24))
            replace hRd := hRd.below ((Below.refl _ _).alloc (Nat.le_refl _) (.cells #[.int .i64 p.var, .int .i64 p.op, .int .i64 p.imm, .int .i64 p.immVar, .slice A1 p.kids.length c1, .int .i64 q.var, .int .i64 q.op, .int .i64 q.imm, .int .i64 q.immVar, .slice A2 q.kids.length c2] 24))
            replace hKK := keep_alloc hKK (.cells #[.int .i64 p.var, .int .i64 p.op, .int .i64 p.imm, .int .i64 p.immVar, .slice A1 p.kids.length c1, .int .i64 q.var, .int .i64 q.op, .int .i64 q.imm, .int .i64 q.immVar, .slice A2 q.kids.length c2] 24)
            replace hsz := Nat.le_trans hsz ((Below.refl _ _).alloc (Nat.le_refl _) (.cells #[.int .i64 p.var, .int .i64 p.op, .int .i64 p.imm, .int .i64 p.immVar, .slice A1 p.kids.length c1, .int .i64 q.var, .int .i64 q.op, .int .i64 q.imm, .int .i64 q.immVar, .slice A2 q.kids.length c2] 24)).size
            replace hF1 := Kd.F_alloc hF1 (.cells #[.int .i64 p.var, .int .i64 p.op, .int .i64 p.imm, .int .i64 p.immVar, .slice A1 p.kids.length c1, .int .i64 q.var, .int .i64 q.op, .int .i64 q.imm, .int .i64 q.immVar, .slice A2 q.kids.length c2] 24)
            replace hF2 := Kd.F_alloc hF2 (.cells #[.int .i64 p.var, .int .i64 p.op, .int .i64 p.imm, .int .i64 p.immVar, .slice A1 p.kids.length c1, .int .i64 q.var, .int .i64 q.op, .int .i64 q.imm, .int .i64 q.immVar, .slice A2 q.kids.length c2] 24)
            refine hK.out _ _ trivial (fun hHeld => ?_)
            clear hK K
            refine norm_ (a' := ?_) ?_ ?_
            rotate_left
            · show Act.put _ (some 80) _ = _
              simp only [P4]
              rfl
            exact norm_ (by simp only [putAll, P4]) (hCont (w1d.heap.size, w3.heap.size, A1, c1, A2, c2) _ ⟨hbx, hN, hRd, hKK⟩)
          · skip
            refine value_ (w1 := ?_) (v := ?_) (by rfl) rfl ?_ ?_
            rotate_left 2
            · go_simp
              constructor
              · rfl
              · rfl
            have hN := F_new kPat w3 (fun k => w1d.heap.size ≤ k) [p, q] _ 24 (Reps.c5 (kPat_mkF _ _ p hc1 hF1) (Reps.c5 (kPat_mkF _ _ q hc2 hF2) (Reps.none _ _))) (by simp) hsz
            replace hbx := blk_below hbx ((Below.refl _ _).alloc (Nat.le_refl _) (.cells #[.int .i64 p.var, .int .i64 p.op, .int .i64 p.imm, .int .i64 p.immVar, .slice A1 p.kids.length c1, .int .i64 q.var, .int .i64 q.op, .int .i64 q.imm, .int .i64 q.immVar, .slice A2 q.kids.length c2] 24))
            replace hRd := hRd.below ((Below.refl _ _).alloc (Nat.le_refl _) (.cells #[.int .i64 p.var, .int .i64 p.op, .int .i64 p.imm, .int .i64 p.immVar, .slice A1 p.kids.length c1, .int .i64 q.var, .int .i64 q.op, .int .i64 q.imm, .int .i64 q.immVar, .slice A2 q.kids.length c2] 24))
            replace hKK := keep_alloc hKK (.cells #[.int .i64 p.var, .int .i64 p.op, .int .i64 p.imm, .int .i64 p.immVar, .slice A1 p.kids.length c1, .int .i64 q.var, .int .i64 q.op, .int .i64 q.imm, .int .i64 q.immVar, .slice A2 q.kids.length c2] 24)
            replace hsz := Nat.le_trans hsz ((Below.refl _ _).alloc (Nat.le_refl _) (.cells #[.int .i64 p.var, .int .i64 p.op, .int .i64 p.imm, .int .i64 p.immVar, .slice A1 p.kids.length c1, .int .i64 q.var, .int .i64 q.op, .int .i64 q.imm, .int .i64 q.immVar, .slice A2 q.kids.length c2] 24)).size
            replace hF1 := Kd.F_alloc hF1 (.cells #[.int .i64 p.var, .int .i64 p.op, .int .i64 p.imm, .int .i64 p.immVar, .slice A1 p.kids.length c1, .int .i64 q.var, .int .i64 q.op, .int .i64 q.imm, .int .i64 q.immVar, .slice A2 q.kids.length c2] 24)
            replace hF2 := Kd.F_alloc hF2 (.cells #[.int .i64 p.var, .int .i64 p.op, .int .i64 p.imm, .int .i64 p.immVar, .slice A1 p.kids.length c1, .int .i64 q.var, .int .i64 q.op, .int .i64 q.imm, .int .i64 q.immVar, .slice A2 q.kids.length c2] 24)
            replace hlit := cell_alloc hlit (.cells #[.int .i64 p.var, .int .i64 p.op, .int .i64 p.imm, .int .i64 p.immVar, .slice A1 p.kids.length c1, .int .i64 q.var, .int .i64 q.op, .int .i64 q.imm, .int .i64 q.immVar, .slice A2 q.kids.length c2] 24)
            refine hK.out _ _ trivial (fun hHeld => ?_)
            clear hK K
            refine norm_ (a' := ?_) ?_ ?_
            rotate_left
            · show Act.put _ (some 80) _ = _
              simp only [P4]
              rfl
            refine one_ (i := 4) (N := some 69) (bm 18 65535) rfl rfl (by kernel_rfl) (by decide) (fun K hK => ?_)
            refine value_ (w1 := ?_) (v := ?_) (by rfl) rfl ?_ ?_
            rotate_left 2
            · go_simp
              constructor
              · rfl
              · rfl
            refine hK.out _ _ trivial (fun hHeld => ?_)
            clear hK K
            refine norm_ (a' := ?_) ?_ ?_
            rotate_left
            · show Act.put _ (some 69) _ = _
              simp only [P4]
              rfl
            exact norm_ (by simp only [putAll, P4]) (hCont (w1d.heap.size, w3.heap.size, A1, c1, A2, c2) _ ⟨hbx, hN, hRd, hKK⟩)
    · skip
      refine goes_ Try.func41 (by kernel_rfl) rfl #[.pointer (some ⟨b, 0, none⟩), .int .i64 (wrap64 (D + 1)), .int .i64 vars] (by rfl) rfl rfl (by simp only [List.map_toArray, List.map_cons, List.map_nil]; rfl) ?_
      with_reducible refine (ih1 _ hRd).mono ?_
      rintro e w2 ⟨A1, c1, rfl, hc1, hF1, hRdn, hK⟩
      refine ⟨_, rfl, ?_⟩
      replace hbx := hK.blk hbx hgb (by simp)
      replace hKK := hKK.trans hK (.inl rfl)
      replace hF1 := Kd.F_mono hF1 (ok' := fun k => w1d.heap.size ≤ k) (fun k hk => Nat.le_trans hsz hk)
      replace hsz := Nat.le_trans hsz hK.1
      clear hK hRd
      have hRd := hRdn
      clear hRdn
      refine hK.out _ _ trivial (fun hHeld => ?_)
      clear hK K
      refine norm_ (a' := ?_) ?_ ?_
      rotate_left
      · show Act.put _ (some 74) _ = _
        simp only [P4]
        rfl
      refine two_ (i := 0) (j := 14) (Ni := some 65) (Nj := some 79) (bm 18 16359) (bm 18 32742) rfl rfl rfl rfl (by kernel_rfl) (by decide) (by decide) (fun K hK => ?_) (fun K hK => ?_)
      · skip
        refine value_ (w1 := ?_) (v := ?_) (by rfl) rfl ?_ ?_
        rotate_left 2
        · go_simp
          constructor
          · rfl
          · rfl
        have hg : w2.heap.size ≠ b := by have := hRd.lt; omega
        have hlit := (blk_cell (blk_new w2 (.cells #[.int .i64 4, .int .i64 5, .int .i64 6] 3)) 2).trans rfl
        replace hbx := blk_below hbx ((Below.refl _ _).alloc (Nat.le_refl _) (.cells #[.int .i64 4, .int .i64 5, .int .i64 6] 3))
        replace hRd := hRd.below ((Below.refl _ _).alloc (Nat.le_refl _) (.cells #[.int .i64 4, .int .i64 5, .int .i64 6] 3))
        replace hKK := keep_alloc hKK (.cells #[.int .i64 4, .int .i64 5, .int .i64 6] 3)
        replace hsz := Nat.le_trans hsz ((Below.refl _ _).alloc (Nat.le_refl _) (.cells #[.int .i64 4, .int .i64 5, .int .i64 6] 3)).size
        replace hF1 := Kd.F_alloc hF1 (.cells #[.int .i64 4, .int .i64 5, .int .i64 6] 3)
        refine hK.out _ _ trivial (fun hHeld => ?_)
        clear hK K
        refine norm_ (a' := ?_) ?_ ?_
        rotate_left
        · show Act.put _ (some 65) _ = _
          simp only [P4]
          rfl
        refine pure_ (i := 3) (N := some 68) (v := ?_) (a' := ?_) (bm 18 16367) rfl rfl (by kernel_rfl) (fun _ _ _ h => h) (Or.inl ⟨by rfl, ?_⟩) ?_ ?_
        rotate_left
        · intro w'; go_simp; with_reducible rfl
        rotate_left
        · simp only [P4]; rfl
        refine two_ (i := 4) (j := 14) (Ni := some 69) (Nj := some 79) (bm 18 16383) (bm 18 32751) rfl rfl rfl rfl (by kernel_rfl) (by decide) (by decide) (fun K hK => ?_) (fun K hK => ?_)
        · skip
          refine value_ (w1 := ?_) (v := ?_) (by rfl) rfl ?_ ?_
          rotate_left 2
          · go_simp
            constructor
            · rfl
            · rfl
          refine hK.out _ _ trivial (fun hHeld => ?_)
          clear hK K
          refine norm_ (a' := ?_) ?_ ?_
          rotate_left
          · show Act.put _ (some 69) _ = _
            simp only [P4]
            rfl
          refine one_ (i := 14) (N := some 79) (bm 18 32767) rfl rfl (by kernel_rfl) (by decide) (fun K hK => ?_)
          refine goes_ Try.func41 (by kernel_rfl) rfl #[.pointer (some ⟨b, 0, none⟩), .int .i64 (wrap64 (D + 1)), .int .i64 vars] (by rfl) rfl rfl (by simp only [List.map_toArray, List.map_cons, List.map_nil]; rfl) ?_
          with_reducible refine (ih2 _ hRd).mono ?_
          rintro e w3 ⟨A2, c2, rfl, hc2, hF2, hRdn, hK⟩
          refine ⟨_, rfl, ?_⟩
          replace hbx := hK.blk hbx hgb (by simp)
          replace hKK := hKK.trans hK (.inl rfl)
          replace hF2 := Kd.F_mono hF2 (ok' := fun k => w1d.heap.size ≤ k) (fun k hk => Nat.le_trans hsz hk)
          replace hF1 := Kd.F_keep hF1 hK (fun k hk e => by omega)
          replace hsz := Nat.le_trans hsz hK.1
          clear hK hRd
          have hRd := hRdn
          clear hRdn
          refine hK.out _ _ trivial (fun hHeld => ?_)
          clear hK K
          refine norm_ (a' := ?_) ?_ ?_
          rotate_left
          · show Act.put _ (some 79) _ = _
            simp only [P4]
            rfl
          refine one_ (i := 15) (N := some 80) (bm 18 65535) rfl rfl (by kernel_rfl) (by decide) (fun K hK => ?_)
          refine value_ (w1 := ?_) (v := ?_) (by rfl) rfl ?_ ?_
          rotate_left 2
          · go_simp
            constructor
            · rfl
            · rfl
          have hN := F_new kPat w3 (fun k => w1d.heap.size ≤ k) [p, q] _ 24 (Reps.c5 (kPat_mkF _ _ p hc1 hF1) (Reps.c5 (kPat_mkF _ _ q hc2 hF2) (Reps.none _ _))) (by simp) hsz
          replace hbx := blk_below hbx ((Below.refl _ _).alloc (Nat.le_refl _) (.cells #[.int .i64 p.var, .int .i64 p.op, .int .i64 p.imm, .int .i64 p.immVar, .slice A1 p.kids.length c1, .int .i64 q.var, .int .i64 q.op, .int .i64 q.imm, .int .i64 q.immVar, .slice A2 q.kids.length c2] 24))
          replace hRd := hRd.below ((Below.refl _ _).alloc (Nat.le_refl _) (.cells #[.int .i64 p.var, .int .i64 p.op, .int .i64 p.imm, .int .i64 p.immVar, .slice A1 p.kids.length c1, .int .i64 q.var, .int .i64 q.op, .int .i64 q.imm, .int .i64 q.immVar, .slice A2 q.kids.length c2] 24))
          replace hKK := keep_alloc hKK (.cells #[.int .i64 p.var, .int .i64 p.op, .int .i64 p.imm, .int .i64 p.immVar, .slice A1 p.kids.length c1, .int .i64 q.var, .int .i64 q.op, .int .i64 q.imm, .int .i64 q.immVar, .slice A2 q.kids.length c2] 24)
          replace hsz := Nat.le_trans hsz ((Below.refl _ _).alloc (Nat.le_refl _) (.cells #[.int .i64 p.var, .int .i64 p.op, .int .i64 p.imm, .int .i64 p.immVar, .slice A1 p.kids.length c1, .int .i64 q.var, .int .i64 q.op, .int .i64 q.imm, .int .i64 q.immVar, .slice A2 q.kids.length c2] 24)).size
          replace hF1 := Kd.F_alloc hF1 (.cells #[.int .i64 p.var, .int .i64 p.op, .int .i64 p.imm, .int .i64 p.immVar, .slice A1 p.kids.length c1, .int .i64 q.var, .int .i64 q.op, .int .i64 q.imm, .int .i64 q.immVar, .slice A2 q.kids.length c2] 24)
          replace hF2 := Kd.F_alloc hF2 (.cells #[.int .i64 p.var, .int .i64 p.op, .int .i64 p.imm, .int .i64 p.immVar, .slice A1 p.kids.length c1, .int .i64 q.var, .int .i64 q.op, .int .i64 q.imm, .int .i64 q.immVar, .slice A2 q.kids.length c2] 24)
          refine hK.out _ _ trivial (fun hHeld => ?_)
          clear hK K
          refine norm_ (a' := ?_) ?_ ?_
          rotate_left
          · show Act.put _ (some 80) _ = _
            simp only [P4]
            rfl
          exact norm_ (by simp only [putAll, P4]) (hCont (w2.heap.size, w3.heap.size, A1, c1, A2, c2) _ ⟨hbx, hN, hRd, hKK⟩)
        · skip
          refine goes_ Try.func41 (by kernel_rfl) rfl #[.pointer (some ⟨b, 0, none⟩), .int .i64 (wrap64 (D + 1)), .int .i64 vars] (by rfl) rfl rfl (by simp only [List.map_toArray, List.map_cons, List.map_nil]; rfl) ?_
          with_reducible refine (ih2 _ hRd).mono ?_
          rintro e w3 ⟨A2, c2, rfl, hc2, hF2, hRdn, hK⟩
          refine ⟨_, rfl, ?_⟩
          replace hbx := hK.blk hbx hgb (by simp)
          replace hKK := hKK.trans hK (.inl rfl)
          replace hF2 := Kd.F_mono hF2 (ok' := fun k => w1d.heap.size ≤ k) (fun k hk => Nat.le_trans hsz hk)
          replace hF1 := Kd.F_keep hF1 hK (fun k hk e => by omega)
          replace hlit := keep_cell hK hlit hg
          replace hsz := Nat.le_trans hsz hK.1
          clear hK hRd
          have hRd := hRdn
          clear hRdn
          refine hK.out _ _ trivial (fun hHeld => ?_)
          clear hK K
          refine norm_ (a' := ?_) ?_ ?_
          rotate_left
          · show Act.put _ (some 79) _ = _
            simp only [P4]
            rfl
          refine two_ (i := 4) (j := 15) (Ni := some 69) (Nj := some 80) (bm 18 32767) (bm 18 65519) rfl rfl rfl rfl (by kernel_rfl) (by decide) (by decide) (fun K hK => ?_) (fun K hK => ?_)
          · skip
            refine value_ (w1 := ?_) (v := ?_) (by rfl) rfl ?_ ?_
            rotate_left 2
            · go_simp
              constructor
              · rfl
              · rfl
            refine hK.out _ _ trivial (fun hHeld => ?_)
            clear hK K
            refine norm_ (a' := ?_) ?_ ?_
            rotate_left
            · show Act.put _ (some 69) _ = _
              simp only [P4]
              rfl
            refine one_ (i := 15) (N := some 80) (bm 18 65535) rfl rfl (by kernel_rfl) (by decide) (fun K hK => ?_)
            refine value_ (w1 := ?_) (v := ?_) (by rfl) rfl ?_ ?_
            rotate_left 2
            · go_simp
              constructor
              · rfl
              · rfl
            have hN := F_new kPat w3 (fun k => w1d.heap.size ≤ k) [p, q] _ 24 (Reps.c5 (kPat_mkF _ _ p hc1 hF1) (Reps.c5 (kPat_mkF _ _ q hc2 hF2) (Reps.none _ _))) (by simp) hsz
            replace hbx := blk_below hbx ((Below.refl _ _).alloc (Nat.le_refl _) (.cells #[.int .i64 p.var, .int .i64 p.op, .int .i64 p.imm, .int .i64 p.immVar, .slice A1 p.kids.length c1, .int .i64 q.var, .int .i64 q.op, .int .i64 q.imm, .int .i64 q.immVar, .slice A2 q.kids.length c2] 24))
            replace hRd := hRd.below ((Below.refl _ _).alloc (Nat.le_refl _) (.cells #[.int .i64 p.var, .int .i64 p.op, .int .i64 p.imm, .int .i64 p.immVar, .slice A1 p.kids.length c1, .int .i64 q.var, .int .i64 q.op, .int .i64 q.imm, .int .i64 q.immVar, .slice A2 q.kids.length c2] 24))
            replace hKK := keep_alloc hKK (.cells #[.int .i64 p.var, .int .i64 p.op, .int .i64 p.imm, .int .i64 p.immVar, .slice A1 p.kids.length c1, .int .i64 q.var, .int .i64 q.op, .int .i64 q.imm, .int .i64 q.immVar, .slice A2 q.kids.length c2] 24)
            replace hsz := Nat.le_trans hsz ((Below.refl _ _).alloc (Nat.le_refl _) (.cells #[.int .i64 p.var, .int .i64 p.op, .int .i64 p.imm, .int .i64 p.immVar, .slice A1 p.kids.length c1, .int .i64 q.var, .int .i64 q.op, .int .i64 q.imm, .int .i64 q.immVar, .slice A2 q.kids.length c2] 24)).size
            replace hF1 := Kd.F_alloc hF1 (.cells #[.int .i64 p.var, .int .i64 p.op, .int .i64 p.imm, .int .i64 p.immVar, .slice A1 p.kids.length c1, .int .i64 q.var, .int .i64 q.op, .int .i64 q.imm, .int .i64 q.immVar, .slice A2 q.kids.length c2] 24)
            replace hF2 := Kd.F_alloc hF2 (.cells #[.int .i64 p.var, .int .i64 p.op, .int .i64 p.imm, .int .i64 p.immVar, .slice A1 p.kids.length c1, .int .i64 q.var, .int .i64 q.op, .int .i64 q.imm, .int .i64 q.immVar, .slice A2 q.kids.length c2] 24)
            refine hK.out _ _ trivial (fun hHeld => ?_)
            clear hK K
            refine norm_ (a' := ?_) ?_ ?_
            rotate_left
            · show Act.put _ (some 80) _ = _
              simp only [P4]
              rfl
            exact norm_ (by simp only [putAll, P4]) (hCont (w2.heap.size, w3.heap.size, A1, c1, A2, c2) _ ⟨hbx, hN, hRd, hKK⟩)
          · skip
            refine value_ (w1 := ?_) (v := ?_) (by rfl) rfl ?_ ?_
            rotate_left 2
            · go_simp
              constructor
              · rfl
              · rfl
            have hN := F_new kPat w3 (fun k => w1d.heap.size ≤ k) [p, q] _ 24 (Reps.c5 (kPat_mkF _ _ p hc1 hF1) (Reps.c5 (kPat_mkF _ _ q hc2 hF2) (Reps.none _ _))) (by simp) hsz
            replace hbx := blk_below hbx ((Below.refl _ _).alloc (Nat.le_refl _) (.cells #[.int .i64 p.var, .int .i64 p.op, .int .i64 p.imm, .int .i64 p.immVar, .slice A1 p.kids.length c1, .int .i64 q.var, .int .i64 q.op, .int .i64 q.imm, .int .i64 q.immVar, .slice A2 q.kids.length c2] 24))
            replace hRd := hRd.below ((Below.refl _ _).alloc (Nat.le_refl _) (.cells #[.int .i64 p.var, .int .i64 p.op, .int .i64 p.imm, .int .i64 p.immVar, .slice A1 p.kids.length c1, .int .i64 q.var, .int .i64 q.op, .int .i64 q.imm, .int .i64 q.immVar, .slice A2 q.kids.length c2] 24))
            replace hKK := keep_alloc hKK (.cells #[.int .i64 p.var, .int .i64 p.op, .int .i64 p.imm, .int .i64 p.immVar, .slice A1 p.kids.length c1, .int .i64 q.var, .int .i64 q.op, .int .i64 q.imm, .int .i64 q.immVar, .slice A2 q.kids.length c2] 24)
            replace hsz := Nat.le_trans hsz ((Below.refl _ _).alloc (Nat.le_refl _) (.cells #[.int .i64 p.var, .int .i64 p.op, .int .i64 p.imm, .int .i64 p.immVar, .slice A1 p.kids.length c1, .int .i64 q.var, .int .i64 q.op, .int .i64 q.imm, .int .i64 q.immVar, .slice A2 q.kids.length c2] 24)).size
            replace hF1 := Kd.F_alloc hF1 (.cells #[.int .i64 p.var, .int .i64 p.op, .int .i64 p.imm, .int .i64 p.immVar, .slice A1 p.kids.length c1, .int .i64 q.var, .int .i64 q.op, .int .i64 q.imm, .int .i64 q.immVar, .slice A2 q.kids.length c2] 24)
            replace hF2 := Kd.F_alloc hF2 (.cells #[.int .i64 p.var, .int .i64 p.op, .int .i64 p.imm, .int .i64 p.immVar, .slice A1 p.kids.length c1, .int .i64 q.var, .int .i64 q.op, .int .i64 q.imm, .int .i64 q.immVar, .slice A2 q.kids.length c2] 24)
            replace hlit := cell_alloc hlit (.cells #[.int .i64 p.var, .int .i64 p.op, .int .i64 p.imm, .int .i64 p.immVar, .slice A1 p.kids.length c1, .int .i64 q.var, .int .i64 q.op, .int .i64 q.imm, .int .i64 q.immVar, .slice A2 q.kids.length c2] 24)
            refine hK.out _ _ trivial (fun hHeld => ?_)
            clear hK K
            refine norm_ (a' := ?_) ?_ ?_
            rotate_left
            · show Act.put _ (some 80) _ = _
              simp only [P4]
              rfl
            refine one_ (i := 4) (N := some 69) (bm 18 65535) rfl rfl (by kernel_rfl) (by decide) (fun K hK => ?_)
            refine value_ (w1 := ?_) (v := ?_) (by rfl) rfl ?_ ?_
            rotate_left 2
            · go_simp
              constructor
              · rfl
              · rfl
            refine hK.out _ _ trivial (fun hHeld => ?_)
            clear hK K
            refine norm_ (a' := ?_) ?_ ?_
            rotate_left
            · show Act.put _ (some 69) _ = _
              simp only [P4]
              rfl
            exact norm_ (by simp only [putAll, P4]) (hCont (w2.heap.size, w3.heap.size, A1, c1, A2, c2) _ ⟨hbx, hN, hRd, hKK⟩)
      · skip
        refine goes_ Try.func41 (by kernel_rfl) rfl #[.pointer (some ⟨b, 0, none⟩), .int .i64 (wrap64 (D + 1)), .int .i64 vars] (by rfl) rfl rfl (by simp only [List.map_toArray, List.map_cons, List.map_nil]; rfl) ?_
        with_reducible refine (ih2 _ hRd).mono ?_
        rintro e w3 ⟨A2, c2, rfl, hc2, hF2, hRdn, hK⟩
        refine ⟨_, rfl, ?_⟩
        replace hbx := hK.blk hbx hgb (by simp)
        replace hKK := hKK.trans hK (.inl rfl)
        replace hF2 := Kd.F_mono hF2 (ok' := fun k => w1d.heap.size ≤ k) (fun k hk => Nat.le_trans hsz hk)
        replace hF1 := Kd.F_keep hF1 hK (fun k hk e => by omega)
        replace hsz := Nat.le_trans hsz hK.1
        clear hK hRd
        have hRd := hRdn
        clear hRdn
        refine hK.out _ _ trivial (fun hHeld => ?_)
        clear hK K
        refine norm_ (a' := ?_) ?_ ?_
        rotate_left
        · show Act.put _ (some 79) _ = _
          simp only [P4]
          rfl
        refine two_ (i := 0) (j := 15) (Ni := some 65) (Nj := some 80) (bm 18 32743) (bm 18 65510) rfl rfl rfl rfl (by kernel_rfl) (by decide) (by decide) (fun K hK => ?_) (fun K hK => ?_)
        · skip
          refine value_ (w1 := ?_) (v := ?_) (by rfl) rfl ?_ ?_
          rotate_left 2
          · go_simp
            constructor
            · rfl
            · rfl
          have hg : w3.heap.size ≠ b := by have := hRd.lt; omega
          have hlit := (blk_cell (blk_new w3 (.cells #[.int .i64 4, .int .i64 5, .int .i64 6] 3)) 2).trans rfl
          replace hbx := blk_below hbx ((Below.refl _ _).alloc (Nat.le_refl _) (.cells #[.int .i64 4, .int .i64 5, .int .i64 6] 3))
          replace hRd := hRd.below ((Below.refl _ _).alloc (Nat.le_refl _) (.cells #[.int .i64 4, .int .i64 5, .int .i64 6] 3))
          replace hKK := keep_alloc hKK (.cells #[.int .i64 4, .int .i64 5, .int .i64 6] 3)
          replace hsz := Nat.le_trans hsz ((Below.refl _ _).alloc (Nat.le_refl _) (.cells #[.int .i64 4, .int .i64 5, .int .i64 6] 3)).size
          replace hF1 := Kd.F_alloc hF1 (.cells #[.int .i64 4, .int .i64 5, .int .i64 6] 3)
          replace hF2 := Kd.F_alloc hF2 (.cells #[.int .i64 4, .int .i64 5, .int .i64 6] 3)
          refine hK.out _ _ trivial (fun hHeld => ?_)
          clear hK K
          refine norm_ (a' := ?_) ?_ ?_
          rotate_left
          · show Act.put _ (some 65) _ = _
            simp only [P4]
            rfl
          refine pure_ (i := 3) (N := some 68) (v := ?_) (a' := ?_) (bm 18 32751) rfl rfl (by kernel_rfl) (fun _ _ _ h => h) (Or.inl ⟨by rfl, ?_⟩) ?_ ?_
          rotate_left
          · intro w'; go_simp; with_reducible rfl
          rotate_left
          · simp only [P4]; rfl
          refine two_ (i := 4) (j := 15) (Ni := some 69) (Nj := some 80) (bm 18 32767) (bm 18 65519) rfl rfl rfl rfl (by kernel_rfl) (by decide) (by decide) (fun K hK => ?_) (fun K hK => ?_)
          · skip
            refine value_ (w1 := ?_) (v := ?_) (by rfl) rfl ?_ ?_
            rotate_left 2
            · go_simp
              constructor
              · rfl
              · rfl
            refine hK.out _ _ trivial (fun hHeld => ?_)
            clear hK K
            refine norm_ (a' := ?_) ?_ ?_
            rotate_left
            · show Act.put _ (some 69) _ = _
              simp only [P4]
              rfl
            refine one_ (i := 15) (N := some 80) (bm 18 65535) rfl rfl (by kernel_rfl) (by decide) (fun K hK => ?_)
            refine value_ (w1 := ?_) (v := ?_) (by rfl) rfl ?_ ?_
            rotate_left 2
            · go_simp
              constructor
              · rfl
              · rfl
            have hN := F_new kPat (w3.alloc (.cells #[.int .i64 4, .int .i64 5, .int .i64 6] 3)) (fun k => w1d.heap.size ≤ k) [p, q] _ 24 (Reps.c5 (kPat_mkF _ _ p hc1 hF1) (Reps.c5 (kPat_mkF _ _ q hc2 hF2) (Reps.none _ _))) (by simp) hsz
            simp only [World.size_alloc] at hN
            replace hbx := blk_below hbx ((Below.refl _ _).alloc (Nat.le_refl _) (.cells #[.int .i64 p.var, .int .i64 p.op, .int .i64 p.imm, .int .i64 p.immVar, .slice A1 p.kids.length c1, .int .i64 q.var, .int .i64 q.op, .int .i64 q.imm, .int .i64 q.immVar, .slice A2 q.kids.length c2] 24))
            replace hRd := hRd.below ((Below.refl _ _).alloc (Nat.le_refl _) (.cells #[.int .i64 p.var, .int .i64 p.op, .int .i64 p.imm, .int .i64 p.immVar, .slice A1 p.kids.length c1, .int .i64 q.var, .int .i64 q.op, .int .i64 q.imm, .int .i64 q.immVar, .slice A2 q.kids.length c2] 24))
            replace hKK := keep_alloc hKK (.cells #[.int .i64 p.var, .int .i64 p.op, .int .i64 p.imm, .int .i64 p.immVar, .slice A1 p.kids.length c1, .int .i64 q.var, .int .i64 q.op, .int .i64 q.imm, .int .i64 q.immVar, .slice A2 q.kids.length c2] 24)
            replace hsz := Nat.le_trans hsz ((Below.refl _ _).alloc (Nat.le_refl _) (.cells #[.int .i64 p.var, .int .i64 p.op, .int .i64 p.imm, .int .i64 p.immVar, .slice A1 p.kids.length c1, .int .i64 q.var, .int .i64 q.op, .int .i64 q.imm, .int .i64 q.immVar, .slice A2 q.kids.length c2] 24)).size
            replace hF1 := Kd.F_alloc hF1 (.cells #[.int .i64 p.var, .int .i64 p.op, .int .i64 p.imm, .int .i64 p.immVar, .slice A1 p.kids.length c1, .int .i64 q.var, .int .i64 q.op, .int .i64 q.imm, .int .i64 q.immVar, .slice A2 q.kids.length c2] 24)
            replace hF2 := Kd.F_alloc hF2 (.cells #[.int .i64 p.var, .int .i64 p.op, .int .i64 p.imm, .int .i64 p.immVar, .slice A1 p.kids.length c1, .int .i64 q.var, .int .i64 q.op, .int .i64 q.imm, .int .i64 q.immVar, .slice A2 q.kids.length c2] 24)
            refine hK.out _ _ trivial (fun hHeld => ?_)
            clear hK K
            refine norm_ (a' := ?_) ?_ ?_
            rotate_left
            · show Act.put _ (some 80) _ = _
              simp only [P4]
              rfl
            exact norm_ (by simp only [putAll, P4]) (hCont (w3.heap.size, w3.heap.size + 1, A1, c1, A2, c2) _ ⟨hbx, hN, hRd, hKK⟩)
          · skip
            refine value_ (w1 := ?_) (v := ?_) (by rfl) rfl ?_ ?_
            rotate_left 2
            · go_simp
              constructor
              · rfl
              · rfl
            have hN := F_new kPat (w3.alloc (.cells #[.int .i64 4, .int .i64 5, .int .i64 6] 3)) (fun k => w1d.heap.size ≤ k) [p, q] _ 24 (Reps.c5 (kPat_mkF _ _ p hc1 hF1) (Reps.c5 (kPat_mkF _ _ q hc2 hF2) (Reps.none _ _))) (by simp) hsz
            simp only [World.size_alloc] at hN
            replace hbx := blk_below hbx ((Below.refl _ _).alloc (Nat.le_refl _) (.cells #[.int .i64 p.var, .int .i64 p.op, .int .i64 p.imm, .int .i64 p.immVar, .slice A1 p.kids.length c1, .int .i64 q.var, .int .i64 q.op, .int .i64 q.imm, .int .i64 q.immVar, .slice A2 q.kids.length c2] 24))
            replace hRd := hRd.below ((Below.refl _ _).alloc (Nat.le_refl _) (.cells #[.int .i64 p.var, .int .i64 p.op, .int .i64 p.imm, .int .i64 p.immVar, .slice A1 p.kids.length c1, .int .i64 q.var, .int .i64 q.op, .int .i64 q.imm, .int .i64 q.immVar, .slice A2 q.kids.length c2] 24))
            replace hKK := keep_alloc hKK (.cells #[.int .i64 p.var, .int .i64 p.op, .int .i64 p.imm, .int .i64 p.immVar, .slice A1 p.kids.length c1, .int .i64 q.var, .int .i64 q.op, .int .i64 q.imm, .int .i64 q.immVar, .slice A2 q.kids.length c2] 24)
            replace hsz := Nat.le_trans hsz ((Below.refl _ _).alloc (Nat.le_refl _) (.cells #[.int .i64 p.var, .int .i64 p.op, .int .i64 p.imm, .int .i64 p.immVar, .slice A1 p.kids.length c1, .int .i64 q.var, .int .i64 q.op, .int .i64 q.imm, .int .i64 q.immVar, .slice A2 q.kids.length c2] 24)).size
            replace hF1 := Kd.F_alloc hF1 (.cells #[.int .i64 p.var, .int .i64 p.op, .int .i64 p.imm, .int .i64 p.immVar, .slice A1 p.kids.length c1, .int .i64 q.var, .int .i64 q.op, .int .i64 q.imm, .int .i64 q.immVar, .slice A2 q.kids.length c2] 24)
            replace hF2 := Kd.F_alloc hF2 (.cells #[.int .i64 p.var, .int .i64 p.op, .int .i64 p.imm, .int .i64 p.immVar, .slice A1 p.kids.length c1, .int .i64 q.var, .int .i64 q.op, .int .i64 q.imm, .int .i64 q.immVar, .slice A2 q.kids.length c2] 24)
            replace hlit := cell_alloc hlit (.cells #[.int .i64 p.var, .int .i64 p.op, .int .i64 p.imm, .int .i64 p.immVar, .slice A1 p.kids.length c1, .int .i64 q.var, .int .i64 q.op, .int .i64 q.imm, .int .i64 q.immVar, .slice A2 q.kids.length c2] 24)
            refine hK.out _ _ trivial (fun hHeld => ?_)
            clear hK K
            refine norm_ (a' := ?_) ?_ ?_
            rotate_left
            · show Act.put _ (some 80) _ = _
              simp only [P4]
              rfl
            refine one_ (i := 4) (N := some 69) (bm 18 65535) rfl rfl (by kernel_rfl) (by decide) (fun K hK => ?_)
            refine value_ (w1 := ?_) (v := ?_) (by rfl) rfl ?_ ?_
            rotate_left 2
            · go_simp
              constructor
              · rfl
              · rfl
            refine hK.out _ _ trivial (fun hHeld => ?_)
            clear hK K
            refine norm_ (a' := ?_) ?_ ?_
            rotate_left
            · show Act.put _ (some 69) _ = _
              simp only [P4]
              rfl
            exact norm_ (by simp only [putAll, P4]) (hCont (w3.heap.size, w3.heap.size + 1, A1, c1, A2, c2) _ ⟨hbx, hN, hRd, hKK⟩)
        · skip
          refine value_ (w1 := ?_) (v := ?_) (by rfl) rfl ?_ ?_
          rotate_left 2
          · go_simp
            constructor
            · rfl
            · rfl
          have hN := F_new kPat w3 (fun k => w1d.heap.size ≤ k) [p, q] _ 24 (Reps.c5 (kPat_mkF _ _ p hc1 hF1) (Reps.c5 (kPat_mkF _ _ q hc2 hF2) (Reps.none _ _))) (by simp) hsz
          replace hbx := blk_below hbx ((Below.refl _ _).alloc (Nat.le_refl _) (.cells #[.int .i64 p.var, .int .i64 p.op, .int .i64 p.imm, .int .i64 p.immVar, .slice A1 p.kids.length c1, .int .i64 q.var, .int .i64 q.op, .int .i64 q.imm, .int .i64 q.immVar, .slice A2 q.kids.length c2] 24))
          replace hRd := hRd.below ((Below.refl _ _).alloc (Nat.le_refl _) (.cells #[.int .i64 p.var, .int .i64 p.op, .int .i64 p.imm, .int .i64 p.immVar, .slice A1 p.kids.length c1, .int .i64 q.var, .int .i64 q.op, .int .i64 q.imm, .int .i64 q.immVar, .slice A2 q.kids.length c2] 24))
          replace hKK := keep_alloc hKK (.cells #[.int .i64 p.var, .int .i64 p.op, .int .i64 p.imm, .int .i64 p.immVar, .slice A1 p.kids.length c1, .int .i64 q.var, .int .i64 q.op, .int .i64 q.imm, .int .i64 q.immVar, .slice A2 q.kids.length c2] 24)
          replace hsz := Nat.le_trans hsz ((Below.refl _ _).alloc (Nat.le_refl _) (.cells #[.int .i64 p.var, .int .i64 p.op, .int .i64 p.imm, .int .i64 p.immVar, .slice A1 p.kids.length c1, .int .i64 q.var, .int .i64 q.op, .int .i64 q.imm, .int .i64 q.immVar, .slice A2 q.kids.length c2] 24)).size
          replace hF1 := Kd.F_alloc hF1 (.cells #[.int .i64 p.var, .int .i64 p.op, .int .i64 p.imm, .int .i64 p.immVar, .slice A1 p.kids.length c1, .int .i64 q.var, .int .i64 q.op, .int .i64 q.imm, .int .i64 q.immVar, .slice A2 q.kids.length c2] 24)
          replace hF2 := Kd.F_alloc hF2 (.cells #[.int .i64 p.var, .int .i64 p.op, .int .i64 p.imm, .int .i64 p.immVar, .slice A1 p.kids.length c1, .int .i64 q.var, .int .i64 q.op, .int .i64 q.imm, .int .i64 q.immVar, .slice A2 q.kids.length c2] 24)
          refine hK.out _ _ trivial (fun hHeld => ?_)
          clear hK K
          refine norm_ (a' := ?_) ?_ ?_
          rotate_left
          · show Act.put _ (some 80) _ = _
            simp only [P4]
            rfl
          refine one_ (i := 0) (N := some 65) (bm 18 65511) rfl rfl (by kernel_rfl) (by decide) (fun K hK => ?_)
          refine value_ (w1 := ?_) (v := ?_) (by rfl) rfl ?_ ?_
          rotate_left 2
          · go_simp
            constructor
            · rfl
            · rfl
          have hg : (w3.alloc (.cells #[.int .i64 p.var, .int .i64 p.op, .int .i64 p.imm, .int .i64 p.immVar, .slice A1 p.kids.length c1, .int .i64 q.var, .int .i64 q.op, .int .i64 q.imm, .int .i64 q.immVar, .slice A2 q.kids.length c2] 24)).heap.size ≠ b := by have := hRd.lt; omega
          have hlit := (blk_cell (blk_new (w3.alloc (.cells #[.int .i64 p.var, .int .i64 p.op, .int .i64 p.imm, .int .i64 p.immVar, .slice A1 p.kids.length c1, .int .i64 q.var, .int .i64 q.op, .int .i64 q.imm, .int .i64 q.immVar, .slice A2 q.kids.length c2] 24)) (.cells #[.int .i64 4, .int .i64 5, .int .i64 6] 3)) 2).trans rfl
          replace hbx := blk_below hbx ((Below.refl _ _).alloc (Nat.le_refl _) (.cells #[.int .i64 4, .int .i64 5, .int .i64 6] 3))
          replace hRd := hRd.below ((Below.refl _ _).alloc (Nat.le_refl _) (.cells #[.int .i64 4, .int .i64 5, .int .i64 6] 3))
          replace hKK := keep_alloc hKK (.cells #[.int .i64 4, .int .i64 5, .int .i64 6] 3)
          replace hsz := Nat.le_trans hsz ((Below.refl _ _).alloc (Nat.le_refl _) (.cells #[.int .i64 4, .int .i64 5, .int .i64 6] 3)).size
          replace hF1 := Kd.F_alloc hF1 (.cells #[.int .i64 4, .int .i64 5, .int .i64 6] 3)
          replace hF2 := Kd.F_alloc hF2 (.cells #[.int .i64 4, .int .i64 5, .int .i64 6] 3)
          replace hN := Kd.F_alloc hN (.cells #[.int .i64 4, .int .i64 5, .int .i64 6] 3)
          refine hK.out _ _ trivial (fun hHeld => ?_)
          clear hK K
          refine norm_ (a' := ?_) ?_ ?_
          rotate_left
          · show Act.put _ (some 65) _ = _
            simp only [P4]
            rfl
          refine pure_ (i := 3) (N := some 68) (v := ?_) (a' := ?_) (bm 18 65519) rfl rfl (by kernel_rfl) (fun _ _ _ h => h) (Or.inl ⟨by rfl, ?_⟩) ?_ ?_
          rotate_left
          · intro w'; go_simp; with_reducible rfl
          rotate_left
          · simp only [P4]; rfl
          refine one_ (i := 4) (N := some 69) (bm 18 65535) rfl rfl (by kernel_rfl) (by decide) (fun K hK => ?_)
          refine value_ (w1 := ?_) (v := ?_) (by rfl) rfl ?_ ?_
          rotate_left 2
          · go_simp
            constructor
            · rfl
            · rfl
          refine hK.out _ _ trivial (fun hHeld => ?_)
          clear hK K
          refine norm_ (a' := ?_) ?_ ?_
          rotate_left
          · show Act.put _ (some 69) _ = _
            simp only [P4]
            rfl
          exact norm_ (by simp only [putAll, P4]) (hCont (w3.heap.size + 1, w3.heap.size, A1, c1, A2, c2) _ ⟨hbx, hN, hRd, hKK⟩)
  rintro ⟨g, gk, A1, c1, A2, c2⟩ w4 ⟨hbx, hN, hRd, hKK⟩
  have hHeld : True := trivial
  refine norm_ (a' := ?_) ?_ ?_
  rotate_left
  · simp only [putAll, P4]
    rfl
  refine pure_ (i := 16) (N := some 81) (v := ?_) (a' := ?_) (bm 18 131071) rfl rfl (by kernel_rfl) (fun _ _ _ h => h) (Or.inl ⟨by rfl, ?_⟩) ?_ ?_
  rotate_left
  · intro w'; go_simp; with_reducible rfl
  rotate_left
  · simp only [P4]; rfl
  refine one_ (i := 17) (N := none) (bm 18 262143) rfl rfl (by kernel_rfl) (by decide) (fun K hK => ?_)
  have c0 := (blk_cell hbx 0).trans rfl
  have c1 := (blk_cell hbx 1).trans rfl
  have c2 := (blk_cell hbx 2).trans rfl
  have c3 := (blk_cell hbx 3).trans rfl
  have c4 := (blk_cell hbx 4).trans rfl
  have hfz := fun j => blk_frozen hbx j
  refine skip_ (w1 := ?_) (by rfl) rfl ?_ ?_
  rotate_left
  · go_simp
    rfl
  refine hK.out _ _ trivial (fun hHeld => ?_)
  clear hK K
  refine done_ (by kernel_rfl) ?_
  go_wp2
  refine bodyPost_ret (results_cell_row rfl _ _ w.heap.size 24 _ (0, 0) _ rfl (put5 hbx _ _ _ _ _) Try.underlying24 rfl (by kernel_rfl)) rfl ?_
  rw [E.out]
  exact ⟨_, 2, rfl, Nat.le_refl _, Kd.F_mono (F_far5 hN (fun k hk e => by omega) _ _ _ _ _) (fun k hk => by omega), hRd.far5 hgw hgb _ _ _ _ _, keep_far5 hKK (Nat.le_refl _) _ _ _ _ _⟩
theorem pat_calls (vars : Int) (hv : 1 ≤ vars) (hv2 : vars ≤ 6) : ∀ d : Nat, d ≤ 4 → PatC vars d
  | 0, _ => pat_leaf vars hv hv2
  | d + 1, hd => by
    have ih := pat_calls vars hv hv2 d (by omega)
    intro w0 w b ls hRd hls
    have h11 : 0 ≤ ls.headD 0 % 11 ∧ ls.headD 0 % 11 < 11 := by omega
    by_cases h1 : ls.headD 0 % 11 < 2
    · exact pat_var vars hv hv2 d (by omega) ih w0 w b ls hRd hls h1
    by_cases h2 : ls.headD 0 % 11 < 4
    · exact pat_const vars hv hv2 d (by omega) ih w0 w b ls hRd hls ⟨by omega, h2⟩
    by_cases h3 : ls.headD 0 % 11 < 5
    · exact pat_shl vars hv hv2 d (by omega) ih w0 w b ls hRd hls ⟨by omega, h3⟩
    by_cases h4 : ls.headD 0 % 11 < 6
    · rcases (show (ls.headD 0).tdiv 11 % 1000 % 2 = 0 ∨ (ls.headD 0).tdiv 11 % 1000 % 2 = 1 by omega) with h | h
      · exact pat_un0 vars hv hv2 d (by omega) ih w0 w b ls hRd hls ⟨by omega, h4⟩ h
      · exact pat_un1 vars hv hv2 d (by omega) ih w0 w b ls hRd hls ⟨by omega, h4⟩ h
    · rcases (show (ls.headD 0).tdiv 11 % 1000 % 3 = 0 ∨ (ls.headD 0).tdiv 11 % 1000 % 3 = 1 ∨ (ls.headD 0).tdiv 11 % 1000 % 3 = 2 by omega) with h | h | h
      · exact pat_bin0 vars hv hv2 d (by omega) ih w0 w b ls hRd hls (by omega) h
      · exact pat_bin1 vars hv hv2 d (by omega) ih w0 w b ls hRd hls (by omega) h
      · exact pat_bin2 vars hv hv2 d (by omega) ih w0 w b ls hRd hls (by omega) h
end Go.Proofs.Ytmdahjmkfipdfaa
