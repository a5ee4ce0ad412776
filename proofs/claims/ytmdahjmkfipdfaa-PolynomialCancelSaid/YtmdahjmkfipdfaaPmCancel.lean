/- walk: fullinglaw18.PolynomialCancel. Printed by gencancel.py. -/
import Derived.Test.YtmdahjmkfipdfaaPmShift
import Derived.Test.YtmdahjmkfipdfaaPoly6
import Derived.Test.YtmdahjmkfipdfaaRef7
namespace Go.Proofs.Ytmdahjmkfipdfaa
set_option linter.unusedVariables false
set_option linter.unusedSimpArgs false
open Go.RowKit Go.Proofs.YtmdahjmkfipdfaaW.PrintWords Go.Proofs.YtmdahjmkfipdfaaW.PrintLast Go.Proofs.YtmdahjmkfipdfaaW.PrintMore
attribute [local go_sem] max2_int min2_int max_two min_two
theorem NormL.reads' {w : World} {o : Option (List Mono)} {e : Ending} {w' : World} {x : List Mono} {ok : Bool} (h : NormL w o e w') (hx : Hid (x = o.getD [])) (hok : Hid (ok = o.isSome)) :
    Below w.heap.size w w' ∧ ∃ A c, x.length ≤ c ∧ e = .returned (.tuple #[.slice A x.length c, .bool ok]) ∧ kMono.C w' A x.length x := by
  rw [hx.out, hok.out]
  obtain ⟨hb, h⟩ := h
  refine ⟨hb, ?_⟩
  cases o with
  | none => exact ⟨none, 0, Nat.le_refl _, h, Kd.C_nil _ _⟩
  | some ms =>
    obtain ⟨A, c, hc, he, hF⟩ := h
    exact ⟨A, c, hc, he, Kd.F_now hF⟩
set_option maxHeartbeats 4000000 in
set_option maxRecDepth 100000 in
theorem cancel_walk (A : Option Addr) (l : List Int) (c : Nat) (w : World) (hC : (Kd.int .i64).C w A l.length l) (hcl : l.length ≤ c) (_hy : l.length * 8 ≤ 140737488351232) (hwf : ∀ n ∈ l, (Lit.int .i64 n).wf = true) :
    Calls Try.prog 7 #[.slice A l.length c] w fun e w' => e = .returned (.bool true) ∧ Below w.heap.size w w' := by
  have hmax := Kd.C_max hC
  obtain ⟨m, hm⟩ : ∃ m, m = min l.length 4 := ⟨_, rfl⟩
  obtain ⟨ls, hls⟩ : ∃ ls, ls = l.take m := ⟨_, rfl⟩
  have hnl : ls.length = m := by rw [hls, List.length_take]; omega
  have hT := Kd.C_take (m := m) hC (by omega)
  rw [← hls, hnl] at hT
  have hlwf : ∀ x ∈ ls, I64 x := fun x hx =>
    wf_i64 (hwf x (by rw [hls] at hx; exact List.mem_of_mem_take hx))
  have hpc : ∀ (A' : Option Addr) (c' : Nat) (W : World), (Kd.int .i64).C W A' m ls → m ≤ c' → Calls Try.prog 17 #[.slice A' m c', .int .i64 2] W (NewPat W (genP 2 ls)) := fun A' c' W h1 h2 => by
    rw [← hnl] at h1 h2 ⊢
    exact Pattern_calls 2 (by decide) (by decide) ls A' c' W h1 h2 hlwf _ rfl
  have hsz := genP_size 2 ls
  obtain ⟨TA, hTA⟩ : ∃ T, pterms 2 (genP 2 ls) = some T := genPat_terms 2 (by decide) 2 4 _
  obtain ⟨p, hp⟩ : ∃ p, p = genP 2 ls := ⟨_, rfl⟩
  rw [← hp] at hpc hsz hTA
  have hnA := cancelA_norm hTA
  have hnB := cancelB_norm hTA
  have hvA := cancel_valid (p := p) (by omega)
  obtain ⟨q, hq⟩ : ∃ q, q = opP 4 [p, unP 21 p] := ⟨_, rfl⟩
  have hN1 := fun (A' : Option Addr) (c' : Nat) W h1 h2 => Normalize_calls (opP 5 [p, p]) 2 A' c' W h1 h2 (size_of_small (by simp [opP, Pat.size, Pat.sizes]; omega) (by simp [opP, Pat.size, Pat.sizes]; omega))
  obtain ⟨r, hr⟩ : ∃ r, r = opP 4 [q, constP 1] := ⟨_, rfl⟩
  have hrs : wrap64 r.size = r.size := size_of_small (by rw [hr, hq]; simp [opP, unP, constP, Pat.size, Pat.sizes]; omega) (by rw [hr, hq]; simp [opP, unP, constP, Pat.size, Pat.sizes]; omega)
  have hN2 : ∀ (A' : Option Addr) (c' : Nat) W, kPat.C W A' r.kids.length r.kids → r.kids.length ≤ c' → Calls Try.prog 15 #[.agg #[.int .i64 r.var, .int .i64 r.op, .int .i64 r.imm, .int .i64 r.immVar, .slice A' r.kids.length c'], .int .i64 2] W (MonosRes W (polyNorm r 2)) := fun A' c' W h1 h2 => Normalize_calls r 2 A' c' W h1 h2 hrs
  have hN3 : ∀ (A' : Option Addr) (c' : Nat) W, kPat.C W A' r.kids.length r.kids → r.kids.length ≤ c' → Calls Try.prog 23 #[.agg #[.int .i64 r.var, .int .i64 r.op, .int .i64 r.imm, .int .i64 r.immVar, .slice A' r.kids.length c'], .int .i64 2] W (NormL W (polyNorm r 2)) := fun A' c' W h1 h2 => refNormalize_calls r 2 A' c' W h1 h2 hrs
  have hop1 : ∀ W A' c' g, kPat.C W A' p.kids.length p.kids → p.kids.length ≤ c' → kPat.C W (some ⟨g, 0, none⟩) 1 [p] → Calls Try.prog 21 #[.int .i64 4, .agg #[.int .i64 p.var, .int .i64 p.op, .int .i64 p.imm, .int .i64 p.immVar, .slice A' p.kids.length c'], .agg #[.int .i64 0, .int .i64 21, .int .i64 0, .int .i64 0, .slice (some ⟨g, 0, none⟩) 1 1]] W (NewPat W q) := fun W A' c' g h1 h2 h3 => by
    rw [hq]; exact op_calls 4 p (unP 21 p) A' _ c' 1 W h1 h2 h3 (Nat.le_refl _)
  have hop2 : ∀ W A' c', kPat.C W A' q.kids.length q.kids → q.kids.length ≤ c' → Calls Try.prog 21 #[.int .i64 4, .agg #[.int .i64 q.var, .int .i64 q.op, .int .i64 q.imm, .int .i64 q.immVar, .slice A' q.kids.length c'], .agg #[.int .i64 0, .int .i64 1, .int .i64 1, .int .i64 0, .slice none 0 0]] W (NewPat W r) := fun W A' c' h1 h2 => by
    rw [hr]; exact op_calls 4 q (constP 1) A' none c' 0 W h1 h2 (Kd.C_nil _ _) (Nat.le_refl _)
  have hrB : r = cancelB p := by rw [hr, hq]; rfl
  obtain ⟨oA, hoA⟩ : ∃ o, o = polyNorm (opP 5 [p, p]) 2 := ⟨_, rfl⟩
  rw [← hoA] at hN1
  obtain ⟨oB, hoB⟩ : ∃ o, o = polyNorm r 2 := ⟨_, rfl⟩
  rw [← hoB] at hN2 hN3
  have hkey : (oA = some [] ∧ oB = some []) ∨ oB = none := by
    cases hv : patValid (cancelB p) 2 0 with
    | true => exact Or.inl ⟨by rw [hoA]; exact hnA (hvA hv), by rw [hoB, hrB]; exact hnB hv⟩
    | false => refine Or.inr ?_; rw [hoB, hrB, polyNorm, hv]; rfl
  have hKp : ∀ W A' c', kPat.C W A' p.kids.length p.kids → p.kids.length ≤ c' → kPat.C (W.alloc (.cells #[.int .i64 p.var, .int .i64 p.op, .int .i64 p.imm, .int .i64 p.immVar, .slice A' p.kids.length c'] 24)) (some ⟨W.heap.size, 0, none⟩) 1 [p] := fun W A' c' h1 h2 => C_new kPat W [p] _ 24 (Reps.c5 (kPat_mk W p h2 h1) (Reps.none _ _)) (by simp)
  clear hls hp hnA hnB hvA hTA hoA hoB hrB hq hr hrs
  replace hnl := Lib.hid hnl
  obtain ⟨x, hx⟩ : ∃ x, x = oA.getD [] := ⟨_, rfl⟩
  obtain ⟨ok, hok⟩ : ∃ ok, ok = oA.isSome := ⟨_, rfl⟩
  replace hx := Lib.hid hx
  replace hok := Lib.hid hok
  obtain ⟨y, hy⟩ : ∃ y, y = oB.getD [] := ⟨_, rfl⟩
  obtain ⟨ok2, hok2⟩ : ∃ ok, ok = oB.isSome := ⟨_, rfl⟩
  replace hy := Lib.hid hy
  replace hok2 := Lib.hid hok2
  have hM2 : ∀ (A' : Option Addr) (c' : Nat) W, kPat.C W A' r.kids.length r.kids → r.kids.length ≤ c' → Calls Try.prog 15 #[.agg #[.int .i64 r.var, .int .i64 r.op, .int .i64 r.imm, .int .i64 r.immVar, .slice A' r.kids.length c'], .int .i64 2] W (fun e w' => Below W.heap.size W w' ∧ ∃ A c, y.length ≤ c ∧ e = .returned (.tuple #[.slice A y.length c, .bool ok2]) ∧ kMono.C w' A y.length y) :=
    fun A' c' W h1 h2 => (hN2 A' c' W h1 h2).mono fun e w' h => MonosRes.reads' h hy hok2
  have hM3 : ∀ (A' : Option Addr) (c' : Nat) W, kPat.C W A' r.kids.length r.kids → r.kids.length ≤ c' → Calls Try.prog 23 #[.agg #[.int .i64 r.var, .int .i64 r.op, .int .i64 r.imm, .int .i64 r.immVar, .slice A' r.kids.length c'], .int .i64 2] W (fun e w' => Below W.heap.size W w' ∧ ∃ A c, y.length ≤ c ∧ e = .returned (.tuple #[.slice A y.length c, .bool ok2]) ∧ kMono.C w' A y.length y) :=
    fun A' c' W h1 h2 => (hN3 A' c' W h1 h2).mono fun e w' h => NormL.reads' h hy hok2
  clear hN2 hN3
  have hWA : ∀ (W : World) ob, Below W.heap.size W (W.alloc ob) := fun W ob => (Below.refl _ _).alloc (Nat.le_refl _) ob
  rcases (show (m = l.length ∧ l.length ≤ 4) ∨ (m = 4 ∧ ¬ l.length ≤ 4) by omega) with ⟨hml, h4⟩ | ⟨hml, h4⟩
  all_goals
    clear hm
    subst hml
    go_enter Try.func7, Try.ntmps7
    go_wp2_with fail
    refine (hpc A c _ hT (by omega)).mono ?_
    rintro e w1 ⟨A1, c1, rfl, hk1, hC1, hb1⟩
    have hbp1 := blk_below (blk_new w1 _) (hWA (w1.alloc (.cells #[.int .i64 p.var, .int .i64 p.op, .int .i64 p.imm, .int .i64 p.immVar, .slice A1 p.kids.length c1] 24)) (.cells #[.int .i64 0, .int .i64 1, .int .i64 1, .int .i64 0, .slice none 0 0] 24))
    have hbo1 := blk_new (w1.alloc (.cells #[.int .i64 p.var, .int .i64 p.op, .int .i64 p.imm, .int .i64 p.immVar, .slice A1 p.kids.length c1] 24)) (.cells #[.int .i64 0, .int .i64 1, .int .i64 1, .int .i64 0, .slice none 0 0] 24)
    have hB1 := (hb1.alloc hb1.size (.cells #[.int .i64 p.var, .int .i64 p.op, .int .i64 p.imm, .int .i64 p.immVar, .slice A1 p.kids.length c1] 24)).alloc (by simp; have := hb1.size; omega) (.cells #[.int .i64 0, .int .i64 1, .int .i64 1, .int .i64 0, .slice none 0 0] 24)
    have hC1' := Kd.C_alloc (Kd.C_alloc hC1 (.cells #[.int .i64 p.var, .int .i64 p.op, .int .i64 p.imm, .int .i64 p.immVar, .slice A1 p.kids.length c1] 24)) (.cells #[.int .i64 0, .int .i64 1, .int .i64 1, .int .i64 0, .slice none 0 0] 24)
    simp only [World.size_alloc] at hbo1
    go_wp2_with fail
    refine (op_calls 5 p p A1 A1 c1 c1 _ hC1' hk1 hC1' hk1).mono ?_
    rintro e w2 ⟨A2, c2, rfl, hk2, hC2, hb2⟩
    have hB2 := below_then hB1 (by simp; have := hb1.size; omega) hb2
    replace hbp1 := blk_below hbp1 hb2
    replace hbo1 := blk_below hbo1 hb2
    replace hC1' := Kd.C_below hC1' hb2
    go_wp2_with fail
    refine (hN1 A2 c2 _ hC2 hk2).mono ?_
    intro e w3 h
    obtain ⟨hb3, A3, c3, hc3, rfl, hC3⟩ := MonosRes.reads' h hx hok
    clear h
    have hB3 := below_then hB2 hB2.size hb3
    replace hbp1 := blk_below hbp1 hb3
    replace hbo1 := blk_below hbo1 hb3
    replace hC1' := Kd.C_below hC1' hb3
    have p0 := (blk_cell hbp1 0).trans rfl
    have p1 := (blk_cell hbp1 1).trans rfl
    have p2 := (blk_cell hbp1 2).trans rfl
    have p3 := (blk_cell hbp1 3).trans rfl
    have p4 := (blk_cell hbp1 4).trans rfl
    have o0 := (blk_cell hbo1 0).trans rfl
    have o1 := (blk_cell hbo1 1).trans rfl
    have o2 := (blk_cell hbo1 2).trans rfl
    have o3 := (blk_cell hbo1 3).trans rfl
    have o4 := (blk_cell hbo1 4).trans rfl
    have hK3 : kPat.C (w3.alloc (.cells #[.int .i64 p.var, .int .i64 p.op, .int .i64 p.imm, .int .i64 p.immVar, .slice A1 p.kids.length c1] 24)).drew (some ⟨w3.heap.size, 0, none⟩) 1 [p] := Kd.C_drew (hKp w3 A1 c1 hC1' hk1)
    have hC3' := Kd.C_drew (Kd.C_alloc hC1' (.cells #[.int .i64 p.var, .int .i64 p.op, .int .i64 p.imm, .int .i64 p.immVar, .slice A1 p.kids.length c1] 24))
    clear hN1 hb1 hB1 hB2 hbp1 hbo1
    go_wp2
    refine start_ (n := 13) (S := fun w' => w'.cell? ⟨w1.heap.size, 0, none⟩ = some (.int .i64 p.var) ∧ w'.cell? ⟨w1.heap.size, 1, none⟩ = some (.int .i64 p.op) ∧ w'.cell? ⟨w1.heap.size, 2, none⟩ = some (.int .i64 p.imm) ∧ w'.cell? ⟨w1.heap.size, 3, none⟩ = some (.int .i64 p.immVar) ∧ w'.cell? ⟨w1.heap.size, 4, none⟩ = some (.slice A1 p.kids.length c1) ∧ w'.cell? ⟨w1.heap.size + 1, 0, none⟩ = some (.int .i64 0) ∧ w'.cell? ⟨w1.heap.size + 1, 1, none⟩ = some (.int .i64 1) ∧ w'.cell? ⟨w1.heap.size + 1, 2, none⟩ = some (.int .i64 1) ∧ w'.cell? ⟨w1.heap.size + 1, 3, none⟩ = some (.int .i64 0) ∧ w'.cell? ⟨w1.heap.size + 1, 4, none⟩ = some (.slice none 0 0)) (ds := [7]) (bm 13 0) (by kernel_rfl) rfl rfl ⟨p0, p1, p2, p3, p4, o0, o1, o2, o3, o4⟩ (fun hHeld => ?_)
    refine take_ (i := 0) (N := some 26) (v := ?_) (a' := ?_) (bm 13 1) rfl rfl (by kernel_rfl) (fun _ _ _ h => h) (Or.inl ⟨by rfl, ?_⟩) hHeld ?_ ?_
    rotate_left
    · rintro w' ⟨s0, s1, s2, s3, s4, s5, s6, s7, s8, s9⟩
      go_simp
      with_reducible rfl
    rotate_left
    · simp only [P4]; rfl
    refine take_ (i := 1) (N := some 27) (v := ?_) (a' := ?_) (bm 13 3) rfl rfl (by kernel_rfl) (fun _ _ _ h => h) (Or.inl ⟨by rfl, ?_⟩) hHeld ?_ ?_
    rotate_left
    · rintro w' ⟨s0, s1, s2, s3, s4, s5, s6, s7, s8, s9⟩
      go_simp
      with_reducible rfl
    rotate_left
    · simp only [P4]; rfl
    refine take_ (i := 5) (N := some 31) (v := ?_) (a' := ?_) (bm 13 35) rfl rfl (by kernel_rfl) (fun _ _ _ h => h) (Or.inl ⟨by rfl, ?_⟩) hHeld ?_ ?_
    rotate_left
    · rintro w' ⟨s0, s1, s2, s3, s4, s5, s6, s7, s8, s9⟩
      go_simp
      with_reducible rfl
    rotate_left
    · simp only [P4]; rfl
    refine one_ (i := 2) (N := some 28) (bm 13 39) rfl rfl (by kernel_rfl) (by decide) (fun K hK => ?_)
    refine value_ (w1 := ?_) (v := ?_) (by rfl) rfl ?_ ?_
    rotate_left 2
    · go_simp
      constructor
      · rfl
      · rfl
    refine hK.out _ _ ⟨cell_alloc (w := w3) p0 _, cell_alloc (w := w3) p1 _, cell_alloc (w := w3) p2 _, cell_alloc (w := w3) p3 _, cell_alloc (w := w3) p4 _, cell_alloc (w := w3) o0 _, cell_alloc (w := w3) o1 _, cell_alloc (w := w3) o2 _, cell_alloc (w := w3) o3 _, cell_alloc (w := w3) o4 _⟩ (fun hHeld => ?_)
    clear hK K
    refine norm_ (a' := ?_) ?_ ?_
    rotate_left
    · show Act.put _ (some 28) _ = _
      simp only [P4]
      rfl
    refine pure_ (i := 3) (N := some 29) (v := ?_) (a' := ?_) (bm 13 47) rfl rfl (by kernel_rfl) (fun _ _ _ h => h) (Or.inl ⟨by rfl, ?_⟩) ?_ ?_
    rotate_left
    · intro w'; go_simp; with_reducible rfl
    rotate_left
    · simp only [P4]; rfl
    refine one_ (i := 4) (N := some 30) (bm 13 63) rfl rfl (by kernel_rfl) (by decide) (fun K hK => ?_)
    refine goes_ Try.func21 (by kernel_rfl) rfl #[.int .i64 4, .agg #[.int .i64 p.var, .int .i64 p.op, .int .i64 p.imm, .int .i64 p.immVar, .slice A1 p.kids.length c1], .agg #[.int .i64 0, .int .i64 21, .int .i64 0, .int .i64 0, .slice (some ⟨w3.heap.size, 0, none⟩) 1 1]] (by rfl) rfl rfl (by simp only [List.map_toArray, List.map_cons, List.map_nil]; rfl) ?_
    with_reducible refine (hop1 _ A1 c1 w3.heap.size hC3' hk1 hK3).mono ?_
    rintro e w4 ⟨Aw4, cw4, rfl, hkw4, hCw4, hbw4⟩
    refine ⟨_, rfl, ?_⟩
    refine hK.out _ _ ⟨pw_cell_below hbw4 (cell_alloc (w := w3) p0 _), pw_cell_below hbw4 (cell_alloc (w := w3) p1 _), pw_cell_below hbw4 (cell_alloc (w := w3) p2 _), pw_cell_below hbw4 (cell_alloc (w := w3) p3 _), pw_cell_below hbw4 (cell_alloc (w := w3) p4 _), pw_cell_below hbw4 (cell_alloc (w := w3) o0 _), pw_cell_below hbw4 (cell_alloc (w := w3) o1 _), pw_cell_below hbw4 (cell_alloc (w := w3) o2 _), pw_cell_below hbw4 (cell_alloc (w := w3) o3 _), pw_cell_below hbw4 (cell_alloc (w := w3) o4 _)⟩ (fun hHeld => ?_)
    clear hK K
    refine norm_ (a' := ?_) ?_ ?_
    rotate_left
    · show Act.put _ (some 30) _ = _
      simp only [P4]
      rfl
    refine one_ (i := 6) (N := some 32) (bm 13 127) rfl rfl (by kernel_rfl) (by decide) (fun K hK => ?_)
    refine goes_ Try.func21 (by kernel_rfl) rfl #[.int .i64 4, .agg #[.int .i64 q.var, .int .i64 q.op, .int .i64 q.imm, .int .i64 q.immVar, .slice Aw4 q.kids.length cw4], .agg #[.int .i64 0, .int .i64 1, .int .i64 1, .int .i64 0, .slice none 0 0]] (by rfl) rfl rfl (by simp only [List.map_toArray, List.map_cons, List.map_nil]; rfl) ?_
    with_reducible refine (hop2 _ Aw4 cw4 hCw4 hkw4).mono ?_
    rintro e w5 ⟨Aw5, cw5, rfl, hkw5, hCw5, hbw5⟩
    refine ⟨_, rfl, ?_⟩
    refine hK.out _ _ ⟨pw_cell_below hbw5 (pw_cell_below hbw4 (cell_alloc (w := w3) p0 _)), pw_cell_below hbw5 (pw_cell_below hbw4 (cell_alloc (w := w3) p1 _)), pw_cell_below hbw5 (pw_cell_below hbw4 (cell_alloc (w := w3) p2 _)), pw_cell_below hbw5 (pw_cell_below hbw4 (cell_alloc (w := w3) p3 _)), pw_cell_below hbw5 (pw_cell_below hbw4 (cell_alloc (w := w3) p4 _)), pw_cell_below hbw5 (pw_cell_below hbw4 (cell_alloc (w := w3) o0 _)), pw_cell_below hbw5 (pw_cell_below hbw4 (cell_alloc (w := w3) o1 _)), pw_cell_below hbw5 (pw_cell_below hbw4 (cell_alloc (w := w3) o2 _)), pw_cell_below hbw5 (pw_cell_below hbw4 (cell_alloc (w := w3) o3 _)), pw_cell_below hbw5 (pw_cell_below hbw4 (cell_alloc (w := w3) o4 _))⟩ (fun hHeld => ?_)
    clear hK K
    refine norm_ (a' := ?_) ?_ ?_
    rotate_left
    · show Act.put _ (some 32) _ = _
      simp only [P4]
      rfl
    refine last_ (i := 7) (N := some 33) (bm 13 255) rfl rfl (by kernel_rfl) (by decide) (fun K hK => ?_)
    refine goes_ Try.func15 (by kernel_rfl) rfl #[.agg #[.int .i64 r.var, .int .i64 r.op, .int .i64 r.imm, .int .i64 r.immVar, .slice Aw5 r.kids.length cw5], .int .i64 2] (by rfl) rfl rfl (by simp only [List.map_toArray, List.map_cons, List.map_nil]; rfl) ?_
    with_reducible refine (hM2 Aw5 cw5 _ hCw5 hkw5).mono ?_
    rintro e w6 ⟨hbw6, Aw6, cw6, hcw6, rfl, hCw6⟩
    refine ⟨_, rfl, ?_⟩
    refine hK.out _ _ ?_
    clear hK K
    refine norm_ (a' := ?_) ?_ ?_
    rotate_left
    · show Act.put _ (some 33) _ = _
      simp only [P4]
      rfl
    refine pure_ (i := 8) (N := some 25) (v := ?_) (a' := ?_) (bm 13 511) rfl rfl (by kernel_rfl) (fun _ _ _ h => h) (Or.inl ⟨by rfl, ?_⟩) ?_ ?_
    rotate_left
    · intro w'; go_simp; with_reducible rfl
    rotate_left
    · simp only [P4]; rfl
    refine pure_ (i := 9) (N := some 34) (v := ?_) (a' := ?_) (bm 13 1023) rfl rfl (by kernel_rfl) (fun _ _ _ h => h) (Or.inl ⟨by rfl, ?_⟩) ?_ ?_
    rotate_left
    · intro w'; go_simp; with_reducible rfl
    rotate_left
    · simp only [P4]; rfl
    refine pure_ (i := 10) (N := some 35) (v := ?_) (a' := ?_) (bm 13 2047) rfl rfl (by kernel_rfl) (fun _ _ _ h => h) (Or.inl ⟨by rfl, ?_⟩) ?_ ?_
    rotate_left
    · intro w'; go_simp; with_reducible rfl
    rotate_left
    · simp only [P4]; rfl
    refine pure_ (i := 11) (N := some 7) (v := ?_) (a' := ?_) (bm 13 4095) rfl rfl (by kernel_rfl) (fun _ _ _ h => h) (Or.inl ⟨by rfl, ?_⟩) ?_ ?_
    rotate_left
    · intro w'; go_simp; with_reducible rfl
    rotate_left
    · simp only [P4]; rfl
    refine pure_ (i := 12) (N := some 8) (v := ?_) (a' := ?_) (bm 13 8191) rfl rfl (by kernel_rfl) (fun _ _ _ h => h) (Or.inl ⟨by rfl, ?_⟩) ?_ ?_
    rotate_left
    · intro w'; go_simp; with_reducible rfl
    rotate_left
    · simp only [P4]; rfl
    refine done_ (by kernel_rfl) ?_
    have hB4 := below_then (below_drew (hB3.alloc hB3.size (.cells #[.int .i64 p.var, .int .i64 p.op, .int .i64 p.imm, .int .i64 p.immVar, .slice A1 p.kids.length c1] 24))) (by simp; have := hB3.size; omega) hbw4
    have hB5 := below_then hB4 hB4.size hbw5
    have hB6 := below_then hB5 hB5.size hbw6
    replace hC3' := Kd.C_below (Kd.C_below (Kd.C_below hC3' hbw4) hbw5) hbw6
    replace p0 := pw_cell_below hbw6 (pw_cell_below hbw5 (pw_cell_below hbw4 (cell_alloc (w := w3) p0 (.cells #[.int .i64 p.var, .int .i64 p.op, .int .i64 p.imm, .int .i64 p.immVar, .slice A1 p.kids.length c1] 24))))
    replace p1 := pw_cell_below hbw6 (pw_cell_below hbw5 (pw_cell_below hbw4 (cell_alloc (w := w3) p1 (.cells #[.int .i64 p.var, .int .i64 p.op, .int .i64 p.imm, .int .i64 p.immVar, .slice A1 p.kids.length c1] 24))))
    replace p2 := pw_cell_below hbw6 (pw_cell_below hbw5 (pw_cell_below hbw4 (cell_alloc (w := w3) p2 (.cells #[.int .i64 p.var, .int .i64 p.op, .int .i64 p.imm, .int .i64 p.immVar, .slice A1 p.kids.length c1] 24))))
    replace p3 := pw_cell_below hbw6 (pw_cell_below hbw5 (pw_cell_below hbw4 (cell_alloc (w := w3) p3 (.cells #[.int .i64 p.var, .int .i64 p.op, .int .i64 p.imm, .int .i64 p.immVar, .slice A1 p.kids.length c1] 24))))
    replace p4 := pw_cell_below hbw6 (pw_cell_below hbw5 (pw_cell_below hbw4 (cell_alloc (w := w3) p4 (.cells #[.int .i64 p.var, .int .i64 p.op, .int .i64 p.imm, .int .i64 p.immVar, .slice A1 p.kids.length c1] 24))))
    replace o0 := pw_cell_below hbw6 (pw_cell_below hbw5 (pw_cell_below hbw4 (cell_alloc (w := w3) o0 (.cells #[.int .i64 p.var, .int .i64 p.op, .int .i64 p.imm, .int .i64 p.immVar, .slice A1 p.kids.length c1] 24))))
    replace o1 := pw_cell_below hbw6 (pw_cell_below hbw5 (pw_cell_below hbw4 (cell_alloc (w := w3) o1 (.cells #[.int .i64 p.var, .int .i64 p.op, .int .i64 p.imm, .int .i64 p.immVar, .slice A1 p.kids.length c1] 24))))
    replace o2 := pw_cell_below hbw6 (pw_cell_below hbw5 (pw_cell_below hbw4 (cell_alloc (w := w3) o2 (.cells #[.int .i64 p.var, .int .i64 p.op, .int .i64 p.imm, .int .i64 p.immVar, .slice A1 p.kids.length c1] 24))))
    replace o3 := pw_cell_below hbw6 (pw_cell_below hbw5 (pw_cell_below hbw4 (cell_alloc (w := w3) o3 (.cells #[.int .i64 p.var, .int .i64 p.op, .int .i64 p.imm, .int .i64 p.immVar, .slice A1 p.kids.length c1] 24))))
    replace o4 := pw_cell_below hbw6 (pw_cell_below hbw5 (pw_cell_below hbw4 (cell_alloc (w := w3) o4 (.cells #[.int .i64 p.var, .int .i64 p.op, .int .i64 p.imm, .int .i64 p.immVar, .slice A1 p.kids.length c1] 24))))
    have hK6 : kPat.C (w6.alloc (.cells #[.int .i64 p.var, .int .i64 p.op, .int .i64 p.imm, .int .i64 p.immVar, .slice A1 p.kids.length c1] 24)).drew (some ⟨w6.heap.size, 0, none⟩) 1 [p] := Kd.C_drew (hKp w6 A1 c1 hC3' hk1)
    have hC6' := Kd.C_drew (Kd.C_alloc hC3' (.cells #[.int .i64 p.var, .int .i64 p.op, .int .i64 p.imm, .int .i64 p.immVar, .slice A1 p.kids.length c1] 24))
    clear hK3 hB4 hB5 hbw4 hbw5 hb3 hb2
    go_wp2
    refine start_ (n := 13) (S := fun w' => w'.cell? ⟨w1.heap.size, 0, none⟩ = some (.int .i64 p.var) ∧ w'.cell? ⟨w1.heap.size, 1, none⟩ = some (.int .i64 p.op) ∧ w'.cell? ⟨w1.heap.size, 2, none⟩ = some (.int .i64 p.imm) ∧ w'.cell? ⟨w1.heap.size, 3, none⟩ = some (.int .i64 p.immVar) ∧ w'.cell? ⟨w1.heap.size, 4, none⟩ = some (.slice A1 p.kids.length c1) ∧ w'.cell? ⟨w1.heap.size + 1, 0, none⟩ = some (.int .i64 0) ∧ w'.cell? ⟨w1.heap.size + 1, 1, none⟩ = some (.int .i64 1) ∧ w'.cell? ⟨w1.heap.size + 1, 2, none⟩ = some (.int .i64 1) ∧ w'.cell? ⟨w1.heap.size + 1, 3, none⟩ = some (.int .i64 0) ∧ w'.cell? ⟨w1.heap.size + 1, 4, none⟩ = some (.slice none 0 0)) (ds := [7]) (bm 13 0) (by kernel_rfl) rfl rfl ⟨p0, p1, p2, p3, p4, o0, o1, o2, o3, o4⟩ (fun hHeld => ?_)
    refine take_ (i := 0) (N := some 37) (v := ?_) (a' := ?_) (bm 13 1) rfl rfl (by kernel_rfl) (fun _ _ _ h => h) (Or.inl ⟨by rfl, ?_⟩) hHeld ?_ ?_
    rotate_left
    · rintro w' ⟨s0, s1, s2, s3, s4, s5, s6, s7, s8, s9⟩
      go_simp
      with_reducible rfl
    rotate_left
    · simp only [P4]; rfl
    refine take_ (i := 1) (N := some 38) (v := ?_) (a' := ?_) (bm 13 3) rfl rfl (by kernel_rfl) (fun _ _ _ h => h) (Or.inl ⟨by rfl, ?_⟩) hHeld ?_ ?_
    rotate_left
    · rintro w' ⟨s0, s1, s2, s3, s4, s5, s6, s7, s8, s9⟩
      go_simp
      with_reducible rfl
    rotate_left
    · simp only [P4]; rfl
    refine take_ (i := 5) (N := some 42) (v := ?_) (a' := ?_) (bm 13 35) rfl rfl (by kernel_rfl) (fun _ _ _ h => h) (Or.inl ⟨by rfl, ?_⟩) hHeld ?_ ?_
    rotate_left
    · rintro w' ⟨s0, s1, s2, s3, s4, s5, s6, s7, s8, s9⟩
      go_simp
      with_reducible rfl
    rotate_left
    · simp only [P4]; rfl
    refine one_ (i := 2) (N := some 39) (bm 13 39) rfl rfl (by kernel_rfl) (by decide) (fun K hK => ?_)
    refine value_ (w1 := ?_) (v := ?_) (by rfl) rfl ?_ ?_
    rotate_left 2
    · go_simp
      constructor
      · rfl
      · rfl
    refine hK.out _ _ ⟨cell_alloc (w := w6) p0 _, cell_alloc (w := w6) p1 _, cell_alloc (w := w6) p2 _, cell_alloc (w := w6) p3 _, cell_alloc (w := w6) p4 _, cell_alloc (w := w6) o0 _, cell_alloc (w := w6) o1 _, cell_alloc (w := w6) o2 _, cell_alloc (w := w6) o3 _, cell_alloc (w := w6) o4 _⟩ (fun hHeld => ?_)
    clear hK K
    refine norm_ (a' := ?_) ?_ ?_
    rotate_left
    · show Act.put _ (some 39) _ = _
      simp only [P4]
      rfl
    refine pure_ (i := 3) (N := some 40) (v := ?_) (a' := ?_) (bm 13 47) rfl rfl (by kernel_rfl) (fun _ _ _ h => h) (Or.inl ⟨by rfl, ?_⟩) ?_ ?_
    rotate_left
    · intro w'; go_simp; with_reducible rfl
    rotate_left
    · simp only [P4]; rfl
    refine one_ (i := 4) (N := some 41) (bm 13 63) rfl rfl (by kernel_rfl) (by decide) (fun K hK => ?_)
    refine goes_ Try.func21 (by kernel_rfl) rfl #[.int .i64 4, .agg #[.int .i64 p.var, .int .i64 p.op, .int .i64 p.imm, .int .i64 p.immVar, .slice A1 p.kids.length c1], .agg #[.int .i64 0, .int .i64 21, .int .i64 0, .int .i64 0, .slice (some ⟨w6.heap.size, 0, none⟩) 1 1]] (by rfl) rfl rfl (by simp only [List.map_toArray, List.map_cons, List.map_nil]; rfl) ?_
    with_reducible refine (hop1 _ A1 c1 w6.heap.size hC6' hk1 hK6).mono ?_
    rintro e w7 ⟨Aw7, cw7, rfl, hkw7, hCw7, hbw7⟩
    refine ⟨_, rfl, ?_⟩
    refine hK.out _ _ ⟨pw_cell_below hbw7 (cell_alloc (w := w6) p0 _), pw_cell_below hbw7 (cell_alloc (w := w6) p1 _), pw_cell_below hbw7 (cell_alloc (w := w6) p2 _), pw_cell_below hbw7 (cell_alloc (w := w6) p3 _), pw_cell_below hbw7 (cell_alloc (w := w6) p4 _), pw_cell_below hbw7 (cell_alloc (w := w6) o0 _), pw_cell_below hbw7 (cell_alloc (w := w6) o1 _), pw_cell_below hbw7 (cell_alloc (w := w6) o2 _), pw_cell_below hbw7 (cell_alloc (w := w6) o3 _), pw_cell_below hbw7 (cell_alloc (w := w6) o4 _)⟩ (fun hHeld => ?_)
    clear hK K
    refine norm_ (a' := ?_) ?_ ?_
    rotate_left
    · show Act.put _ (some 41) _ = _
      simp only [P4]
      rfl
    refine one_ (i := 6) (N := some 43) (bm 13 127) rfl rfl (by kernel_rfl) (by decide) (fun K hK => ?_)
    refine goes_ Try.func21 (by kernel_rfl) rfl #[.int .i64 4, .agg #[.int .i64 q.var, .int .i64 q.op, .int .i64 q.imm, .int .i64 q.immVar, .slice Aw7 q.kids.length cw7], .agg #[.int .i64 0, .int .i64 1, .int .i64 1, .int .i64 0, .slice none 0 0]] (by rfl) rfl rfl (by simp only [List.map_toArray, List.map_cons, List.map_nil]; rfl) ?_
    with_reducible refine (hop2 _ Aw7 cw7 hCw7 hkw7).mono ?_
    rintro e w8 ⟨Aw8, cw8, rfl, hkw8, hCw8, hbw8⟩
    refine ⟨_, rfl, ?_⟩
    refine hK.out _ _ ⟨pw_cell_below hbw8 (pw_cell_below hbw7 (cell_alloc (w := w6) p0 _)), pw_cell_below hbw8 (pw_cell_below hbw7 (cell_alloc (w := w6) p1 _)), pw_cell_below hbw8 (pw_cell_below hbw7 (cell_alloc (w := w6) p2 _)), pw_cell_below hbw8 (pw_cell_below hbw7 (cell_alloc (w := w6) p3 _)), pw_cell_below hbw8 (pw_cell_below hbw7 (cell_alloc (w := w6) p4 _)), pw_cell_below hbw8 (pw_cell_below hbw7 (cell_alloc (w := w6) o0 _)), pw_cell_below hbw8 (pw_cell_below hbw7 (cell_alloc (w := w6) o1 _)), pw_cell_below hbw8 (pw_cell_below hbw7 (cell_alloc (w := w6) o2 _)), pw_cell_below hbw8 (pw_cell_below hbw7 (cell_alloc (w := w6) o3 _)), pw_cell_below hbw8 (pw_cell_below hbw7 (cell_alloc (w := w6) o4 _))⟩ (fun hHeld => ?_)
    clear hK K
    refine norm_ (a' := ?_) ?_ ?_
    rotate_left
    · show Act.put _ (some 43) _ = _
      simp only [P4]
      rfl
    refine last_ (i := 7) (N := some 44) (bm 13 255) rfl rfl (by kernel_rfl) (by decide) (fun K hK => ?_)
    refine goes_ Try.func23 (by kernel_rfl) rfl #[.agg #[.int .i64 r.var, .int .i64 r.op, .int .i64 r.imm, .int .i64 r.immVar, .slice Aw8 r.kids.length cw8], .int .i64 2] (by rfl) rfl rfl (by simp only [List.map_toArray, List.map_cons, List.map_nil]; rfl) ?_
    with_reducible refine (hM3 Aw8 cw8 _ hCw8 hkw8).mono ?_
    rintro e w9 ⟨hbw9, Aw9, cw9, hcw9, rfl, hCw9⟩
    refine ⟨_, rfl, ?_⟩
    refine hK.out _ _ ?_
    clear hK K
    refine norm_ (a' := ?_) ?_ ?_
    rotate_left
    · show Act.put _ (some 44) _ = _
      simp only [P4]
      rfl
    refine pure_ (i := 8) (N := some 36) (v := ?_) (a' := ?_) (bm 13 511) rfl rfl (by kernel_rfl) (fun _ _ _ h => h) (Or.inl ⟨by rfl, ?_⟩) ?_ ?_
    rotate_left
    · intro w'; go_simp; with_reducible rfl
    rotate_left
    · simp only [P4]; rfl
    refine pure_ (i := 9) (N := some 45) (v := ?_) (a' := ?_) (bm 13 1023) rfl rfl (by kernel_rfl) (fun _ _ _ h => h) (Or.inl ⟨by rfl, ?_⟩) ?_ ?_
    rotate_left
    · intro w'; go_simp; with_reducible rfl
    rotate_left
    · simp only [P4]; rfl
    refine pure_ (i := 10) (N := some 46) (v := ?_) (a' := ?_) (bm 13 2047) rfl rfl (by kernel_rfl) (fun _ _ _ h => h) (Or.inl ⟨by rfl, ?_⟩) ?_ ?_
    rotate_left
    · intro w'; go_simp; with_reducible rfl
    rotate_left
    · simp only [P4]; rfl
    refine pure_ (i := 11) (N := some 9) (v := ?_) (a' := ?_) (bm 13 4095) rfl rfl (by kernel_rfl) (fun _ _ _ h => h) (Or.inl ⟨by rfl, ?_⟩) ?_ ?_
    rotate_left
    · intro w'; go_simp; with_reducible rfl
    rotate_left
    · simp only [P4]; rfl
    refine pure_ (i := 12) (N := some 10) (v := ?_) (a' := ?_) (bm 13 8191) rfl rfl (by kernel_rfl) (fun _ _ _ h => h) (Or.inl ⟨by rfl, ?_⟩) ?_ ?_
    rotate_left
    · intro w'; go_simp; with_reducible rfl
    rotate_left
    · simp only [P4]; rfl
    refine done_ (by kernel_rfl) ?_
    have hB7 := below_then (below_drew (hB6.alloc hB6.size (.cells #[.int .i64 p.var, .int .i64 p.op, .int .i64 p.imm, .int .i64 p.immVar, .slice A1 p.kids.length c1] 24))) (by simp; have := hB6.size; omega) hbw7
    have hB8 := below_then hB7 hB7.size hbw8
    have hB9 := below_then hB8 hB8.size hbw9
    clear hM2 hM3 hop1 hop2 hKp
    rcases hkey with ⟨kA, kB⟩ | kB
    · have h1 : x = [] := by rw [hx.out, kA]; rfl
      have h2 : ok = true := by rw [hok.out, kA]; rfl
      have h3 : y = [] := by rw [hy.out, kB]; rfl
      have h4' : ok2 = true := by rw [hok2.out, kB]; rfl
      subst h1 h2 h3 h4'
      clear kA kB
      go_wp2_with fail
      refine (examples18_calls _).mono ?_
      rintro e w10 ⟨rfl, hb10⟩
      go_wp2
      go_ret
      exact ⟨rfl, below_then hB9 hB9.size hb10⟩
    · have h4' : ok2 = false := by rw [hok2.out, kB]; rfl
      subst h4'
      clear kB
      go_wp2_with fail
      refine (examples18_calls _).mono ?_
      rintro e w10 ⟨rfl, hb10⟩
      go_wp2
      go_ret
      exact ⟨rfl, below_then hB9 hB9.size hb10⟩
end Go.Proofs.Ytmdahjmkfipdfaa
