/- walk: fullinglaw18.PolynomialLaws. Printed by genlaws.py. -/
import Derived.Test.YtmdahjmkfipdfaaPmShift
import Derived.Test.YtmdahjmkfipdfaaPoly6
import Derived.Test.YtmdahjmkfipdfaaRf4
import Derived.Test.YtmdahjmkfipdfaaFree2
namespace Go.Proofs.Ytmdahjmkfipdfaa
set_option linter.unusedVariables false
set_option linter.unusedSimpArgs false
open Go.RowKit Go.Proofs.YtmdahjmkfipdfaaW.PrintWords Go.Proofs.YtmdahjmkfipdfaaW.PrintLast Go.Proofs.YtmdahjmkfipdfaaW.PrintMore
attribute [local go_sem] max2_int min2_int max_two min_two
/-- Operation i's value is a pair of patterns. -/
def PairC (i : Nat) (z : Pat × Pat) (vs : Nat → Value) (w : World) : Prop := ∃ A c B d, vs i = .agg #[.int .i64 z.1.var, .int .i64 z.1.op, .int .i64 z.1.imm, .int .i64 z.1.immVar, .slice A z.1.kids.length c, .int .i64 z.2.var, .int .i64 z.2.op, .int .i64 z.2.imm, .int .i64 z.2.immVar, .slice B z.2.kids.length d] ∧ z.1.kids.length ≤ c ∧ z.2.kids.length ≤ d ∧ kPat.C w A z.1.kids.length z.1.kids ∧ kPat.C w B z.2.kids.length z.2.kids
def PairCells (w : World) (g o : Nat) (z : Pat × Pat) : Prop := ∃ A c B d, w.cell? ⟨g, o, none⟩ = some (.int .i64 z.1.var) ∧ w.cell? ⟨g, o + 1, none⟩ = some (.int .i64 z.1.op) ∧ w.cell? ⟨g, o + 2, none⟩ = some (.int .i64 z.1.imm) ∧ w.cell? ⟨g, o + 3, none⟩ = some (.int .i64 z.1.immVar) ∧ w.cell? ⟨g, o + 4, none⟩ = some (.slice A z.1.kids.length c) ∧
  w.cell? ⟨g, o + 5, none⟩ = some (.int .i64 z.2.var) ∧ w.cell? ⟨g, o + 6, none⟩ = some (.int .i64 z.2.op) ∧ w.cell? ⟨g, o + 7, none⟩ = some (.int .i64 z.2.imm) ∧ w.cell? ⟨g, o + 8, none⟩ = some (.int .i64 z.2.immVar) ∧ w.cell? ⟨g, o + 9, none⟩ = some (.slice B z.2.kids.length d) ∧
  z.1.kids.length ≤ c ∧ z.2.kids.length ≤ d ∧ kPat.C w A z.1.kids.length z.1.kids ∧ kPat.C w B z.2.kids.length z.2.kids
theorem PairCells.below {w w' : World} {g o : Nat} {z : Pat × Pat} (hb : Below w.heap.size w w') (h : PairCells w g o z) : PairCells w' g o z := by
  obtain ⟨A, c, B, d, h0, h1, h2, h3, h4, h5, h6, h7, h8, h9, k1, k2, k3, k4⟩ := h
  exact ⟨A, c, B, d, pw_cell_below hb h0, pw_cell_below hb h1, pw_cell_below hb h2, pw_cell_below hb h3, pw_cell_below hb h4, pw_cell_below hb h5, pw_cell_below hb h6, pw_cell_below hb h7, pw_cell_below hb h8, pw_cell_below hb h9, k1, k2, Kd.C_below k3 hb, Kd.C_below k4 hb⟩
def Pairs (i : Nat) (l : List (Pat × Pat)) (vs : Nat → Value) (w : World) : Prop := ∃ g, vs i = .slice (some ⟨g, 0, none⟩) 6 6 ∧ ∀ (k : Nat) (z : Pat × Pat), l[k]? = some z → PairCells w g (10 * k) z
section
variable {G : List ((Nat → Value) → World → Prop)} {vs : Nat → Value} {w : World} {i : Nat}
theorem Known.pairC {z : Pat × Pat} (h : Known (RV []) G vs w i) (hg : G.getD i (fun _ _ => True) = PairC i z) : PairC i z vs w := by
  obtain ⟨v1, w1, h1, h2, h3⟩ := h
  rw [hg] at h3
  obtain ⟨A, c, B, d, e, k1, k2, k3, k4⟩ := h3
  exact ⟨A, c, B, d, h2.trans e, k1, k2, Kd.C_below k3 h1.below0, Kd.C_below k4 h1.below0⟩
theorem Known.pairs {l : List (Pat × Pat)} (h : Known (RV []) G vs w i) (hg : G.getD i (fun _ _ => True) = Pairs i l) : Pairs i l vs w := by
  obtain ⟨v1, w1, h1, h2, h3⟩ := h
  rw [hg] at h3
  obtain ⟨g, e, hz⟩ := h3
  exact ⟨g, h2.trans e, fun k z hk => (hz k z hk).below h1.below0⟩
end
set_option maxHeartbeats 4000000 in
set_option maxRecDepth 100000 in
theorem laws_walk (A1 : Option Addr) (l : List Int) (c1 : Nat) (A2 : Option Addr) (m : List Int) (c2 : Nat) (A3 : Option Addr) (o : List Int) (c3 : Nat) (k : Int) (w : World) (hC1 : (Kd.int .i64).C w A1 l.length l) (hc1 : l.length ≤ c1) (_y1 : l.length * 8 ≤ 140737488351232) (hw1 : ∀ n ∈ l, (Lit.int .i64 n).wf = true)
    (hC2 : (Kd.int .i64).C w A2 m.length m) (hc2 : m.length ≤ c2) (_y2 : m.length * 8 ≤ 140737488351232) (hw2 : ∀ n ∈ m, (Lit.int .i64 n).wf = true) (hC3 : (Kd.int .i64).C w A3 o.length o) (hc3 : o.length ≤ c3) (_y3 : o.length * 8 ≤ 140737488351232) (hw3 : ∀ n ∈ o, (Lit.int .i64 n).wf = true) (_hk : (Lit.int .i64 k).wf = true) :
    Calls Try.prog 5 #[.slice A1 l.length c1, .slice A2 m.length c2, .slice A3 o.length c3, .int .i64 k] w fun e w' => e = .returned (.bool true) ∧ Below w.heap.size w w' := by
  obtain ⟨n1, hn1⟩ : ∃ n, n = min l.length 3 := ⟨_, rfl⟩
  have hmax1 := Kd.C_max hC1
  obtain ⟨ls1, hls1⟩ : ∃ ls, ls = l.take n1 := ⟨_, rfl⟩
  have hnl1 : ls1.length = n1 := by rw [hls1, List.length_take]; omega
  have hT1 := Kd.C_take (m := n1) hC1 (by omega)
  rw [← hls1, hnl1] at hT1
  have hpc1 : ∀ (A' : Option Addr) (c' : Nat) (W : World), (Kd.int .i64).C W A' n1 ls1 → n1 ≤ c' → Calls Try.prog 17 #[.slice A' n1 c', .int .i64 3] W (NewPatF W (genP 3 ls1)) := fun A' c' W h1 h2 => by
    rw [← hnl1] at h1 h2 ⊢
    exact PatternF_calls 3 (by decide) (by decide) ls1 A' c' W h1 h2 (fun x hx => wf_i64 (hw1 x (by rw [hls1] at hx; exact List.mem_of_mem_take hx))) _ rfl
  have hsz1 := genP_size 3 ls1
  obtain ⟨T1, hT1'⟩ : ∃ T, pterms 3 (genP 3 ls1) = some T := genPat_terms 3 (by decide) 3 4 _
  obtain ⟨p, hp1⟩ : ∃ p, p = genP 3 ls1 := ⟨_, rfl⟩
  rw [← hp1] at hpc1 hsz1 hT1'
  obtain ⟨n2, hn2⟩ : ∃ n, n = min m.length 3 := ⟨_, rfl⟩
  have hmax2 := Kd.C_max hC2
  obtain ⟨ls2, hls2⟩ : ∃ ls, ls = m.take n2 := ⟨_, rfl⟩
  have hnl2 : ls2.length = n2 := by rw [hls2, List.length_take]; omega
  have hT2 := Kd.C_take (m := n2) hC2 (by omega)
  rw [← hls2, hnl2] at hT2
  have hpc2 : ∀ (A' : Option Addr) (c' : Nat) (W : World), (Kd.int .i64).C W A' n2 ls2 → n2 ≤ c' → Calls Try.prog 17 #[.slice A' n2 c', .int .i64 3] W (NewPatF W (genP 3 ls2)) := fun A' c' W h1 h2 => by
    rw [← hnl2] at h1 h2 ⊢
    exact PatternF_calls 3 (by decide) (by decide) ls2 A' c' W h1 h2 (fun x hx => wf_i64 (hw2 x (by rw [hls2] at hx; exact List.mem_of_mem_take hx))) _ rfl
  have hsz2 := genP_size 3 ls2
  obtain ⟨T2, hT2'⟩ : ∃ T, pterms 3 (genP 3 ls2) = some T := genPat_terms 3 (by decide) 3 4 _
  obtain ⟨q, hp2⟩ : ∃ p, p = genP 3 ls2 := ⟨_, rfl⟩
  rw [← hp2] at hpc2 hsz2 hT2'
  obtain ⟨n3, hn3⟩ : ∃ n, n = min o.length 3 := ⟨_, rfl⟩
  have hmax3 := Kd.C_max hC3
  obtain ⟨ls3, hls3⟩ : ∃ ls, ls = o.take n3 := ⟨_, rfl⟩
  have hnl3 : ls3.length = n3 := by rw [hls3, List.length_take]; omega
  have hT3 := Kd.C_take (m := n3) hC3 (by omega)
  rw [← hls3, hnl3] at hT3
  have hpc3 : ∀ (A' : Option Addr) (c' : Nat) (W : World), (Kd.int .i64).C W A' n3 ls3 → n3 ≤ c' → Calls Try.prog 17 #[.slice A' n3 c', .int .i64 3] W (NewPatF W (genP 3 ls3)) := fun A' c' W h1 h2 => by
    rw [← hnl3] at h1 h2 ⊢
    exact PatternF_calls 3 (by decide) (by decide) ls3 A' c' W h1 h2 (fun x hx => wf_i64 (hw3 x (by rw [hls3] at hx; exact List.mem_of_mem_take hx))) _ rfl
  have hsz3 := genP_size 3 ls3
  obtain ⟨T3, hT3'⟩ : ∃ T, pterms 3 (genP 3 ls3) = some T := genPat_terms 3 (by decide) 3 4 _
  obtain ⟨r, hp3⟩ : ∃ p, p = genP 3 ls3 := ⟨_, rfl⟩
  rw [← hp3] at hpc3 hsz3 hT3'
  have hsame := laws_same hT1' hT2' hT3'
  have hsize : ∀ z ∈ lawPairs p q r, (0 ≤ z.1.size ∧ z.1.size ≤ 1000) ∧ 0 ≤ z.2.size ∧ z.2.size ≤ 1000 := by
    intro z hz
    simp only [lawPairs, List.mem_cons, List.not_mem_nil, or_false] at hz
    rcases hz with rfl | rfl | rfl | rfl | rfl | rfl
    all_goals
      simp only [binP, unP, cP, Pat.size, Pat.sizes]
      omega
  clear hls1 hls2 hls3 hp1 hp2 hp3 hT1' hT2' hT3' hsz1 hsz2 hsz3 hnl1 hnl2 hnl3
  replace hn1 := Lib.hid hn1
  replace hn2 := Lib.hid hn2
  replace hn3 := Lib.hid hn3
  go_enter Try.func5, Try.ntmps5
  go_wp2
  refine freeV_ [(18, 21), (19, 22), (20, 23)] [Is 0 (.slice A1 l.length c1), Is 1 (.slice A1 l.length c1), Is 2 (.int .i64 l.length), Is 3 (.int .i64 n1), Is 4 (.slice A1 n1 c1), PatAt [(18, 21), (19, 22), (20, 23)] 5 p, Is 6 (.slice A2 m.length c2), Is 7 (.slice A2 m.length c2), Is 8 (.int .i64 m.length), Is 9 (.int .i64 n2), Is 10 (.slice A2 n2 c2), PatAt [(18, 21), (19, 22), (20, 23)] 11 q, Is 12 (.slice A3 o.length c3), Is 13 (.slice A3 o.length c3), Is 14 (.int .i64 o.length), Is 15 (.int .i64 n3), Is 16 (.slice A3 n3 c3), PatAt [(18, 21), (19, 22), (20, 23)] 17 r, Made [(18, 21), (19, 22), (20, 23)] 18 21 (.cells #[.int .i64 0, .int .i64 0, .int .i64 0, .int .i64 0, .slice none 0 0] 24 (0, 0)), Made [(18, 21), (19, 22), (20, 23)] 19 22 (.cells #[.int .i64 0, .int .i64 0, .int .i64 0, .int .i64 0, .slice none 0 0] 24 (0, 0)), Made [(18, 21), (19, 22), (20, 23)] 20 23 (.cells #[.int .i64 0, .int .i64 0, .int .i64 0, .int .i64 0, .slice none 0 0] 24 (0, 0)), VarAt [(18, 21), (19, 22), (20, 23)] 18 21 p, VarAt [(18, 21), (19, 22), (20, 23)] 19 22 q, VarAt [(18, 21), (19, 22), (20, 23)] 20 23 r] (n := 24) (fr := ?fr1) (sl := [(18, 0), (19, 1), (20, 2), (21, 3), (22, 4), (23, 5), (24, 6), (25, 7), (26, 8), (27, 9), (28, 10), (29, 11), (30, 12), (31, 13), (32, 14), (33, 15), (34, 16), (35, 17), (9, 18), (10, 19), (11, 20)]) (by kernel_rfl) rfl (by kernel_rfl) ?hfr1 (by kernel_rfl) (by kernel_rfl) (ns := [0, 1, 2, 3, 4, 5, 6, 7, 8, 9, 10, 11, 12, 13, 14, 15, 16, 17, 18, 19, 20, 21, 22, 23]) (by kernel_rfl) ?hstep1 ?hend1
  case hfr1 => intro vs; simp only [putVs, Act.put, List.setIfInBounds_toArray, List.set_cons_zero, List.set_cons_succ]; rfl
  case hstep1 =>
    refine FreeStepsV.cons (i := 0) (N := some 18) (bs := []) rfl rfl (by kernel_rfl) rfl rfl ?_ ?_
    · rintro vs W hB hlt h0 - K hK
      refine value_ (w1 := W) (v := .slice A1 l.length c1) (by rfl) rfl ?_ (hK _ W (RV.other _ (by decide) (Below.refl _ _)) (if_pos rfl))
      rfl
    refine FreeStepsV.cons (i := 1) (N := some 19) (bs := []) rfl rfl (by kernel_rfl) rfl rfl ?_ ?_
    · rintro vs W hB hlt h0 - K hK
      refine value_ (w1 := W) (v := .slice A1 l.length c1) (by rfl) rfl ?_ (hK _ W (RV.other _ (by decide) (Below.refl _ _)) (if_pos rfl))
      rfl
    refine FreeStepsV.cons (i := 2) (N := some 20) (bs := [1]) rfl rfl (by kernel_rfl) rfl rfl ?_ ?_
    · rintro vs W hB hlt h0 ⟨k1, _⟩ K hK
      have e1 := Known.is k1 rfl
      refine value_ (w1 := W) (v := .int .i64 l.length) (by rfl) rfl ?_ (hK _ W (RV.other _ (by decide) (Below.refl _ _)) (if_pos rfl))
      simp only [e1]
      go_simp
    refine FreeStepsV.cons (i := 3) (N := some 21) (bs := [2]) rfl rfl (by kernel_rfl) rfl rfl ?_ ?_
    · rintro vs W hB hlt h0 ⟨k1, _⟩ K hK
      have e1 := Known.is k1 rfl
      refine value_ (w1 := W) (v := .int .i64 n1) (by rfl) rfl ?_ (hK _ W (RV.other _ (by decide) (Below.refl _ _)) (if_pos rfl))
      simp only [e1]
      go_simp
      have := hn1.out
      split <;> omega
    refine FreeStepsV.cons (i := 4) (N := some 22) (bs := [0, 3]) rfl rfl (by kernel_rfl) rfl rfl ?_ ?_
    · rintro vs W hB hlt h0 ⟨k1, k2, _⟩ K hK
      have e1 := Known.is k1 rfl
      have e2 := Known.is k2 rfl
      refine value_ (w1 := W) (v := .slice A1 n1 c1) (by rfl) rfl ?_ (hK _ W (RV.other _ (by decide) (Below.refl _ _)) (if_pos rfl))
      simp only [e1, e2]
      go_simp
      intro h
      have := hn1.out
      exact absurd h (by omega)
    refine FreeStepsV.cons (i := 5) (N := some 23) (bs := [4]) rfl rfl (by kernel_rfl) rfl rfl ?_ ?_
    · rintro vs W hB hlt h0 ⟨k1, _⟩ K hK
      have e1 := Known.is k1 rfl
      refine goes_ Try.func17 (by kernel_rfl) rfl #[.slice A1 n1 c1, .int .i64 3] (by rfl) rfl rfl (by rw [← e1]; simp only [List.map_toArray, List.map_cons, List.map_nil]; rfl) ?_
      with_reducible refine (hpc1 A1 c1 W (Kd.C_below (Kd.C_drew hT1) hB) (by have := hn1.out; omega)).mono ?_
      rintro e W' ⟨A', c', rfl, hk, hF, hb⟩
      exact ⟨_, rfl, hK _ W' (RV.other _ (by decide) hb) (PatAt.new hlt (by decide) hk hF)⟩
    refine FreeStepsV.cons (i := 6) (N := some 24) (bs := []) rfl rfl (by kernel_rfl) rfl rfl ?_ ?_
    · rintro vs W hB hlt h0 - K hK
      refine value_ (w1 := W) (v := .slice A2 m.length c2) (by rfl) rfl ?_ (hK _ W (RV.other _ (by decide) (Below.refl _ _)) (if_pos rfl))
      rfl
    refine FreeStepsV.cons (i := 7) (N := some 25) (bs := []) rfl rfl (by kernel_rfl) rfl rfl ?_ ?_
    · rintro vs W hB hlt h0 - K hK
      refine value_ (w1 := W) (v := .slice A2 m.length c2) (by rfl) rfl ?_ (hK _ W (RV.other _ (by decide) (Below.refl _ _)) (if_pos rfl))
      rfl
    refine FreeStepsV.cons (i := 8) (N := some 26) (bs := [7]) rfl rfl (by kernel_rfl) rfl rfl ?_ ?_
    · rintro vs W hB hlt h0 ⟨k1, _⟩ K hK
      have e1 := Known.is k1 rfl
      refine value_ (w1 := W) (v := .int .i64 m.length) (by rfl) rfl ?_ (hK _ W (RV.other _ (by decide) (Below.refl _ _)) (if_pos rfl))
      simp only [e1]
      go_simp
    refine FreeStepsV.cons (i := 9) (N := some 27) (bs := [8]) rfl rfl (by kernel_rfl) rfl rfl ?_ ?_
    · rintro vs W hB hlt h0 ⟨k1, _⟩ K hK
      have e1 := Known.is k1 rfl
      refine value_ (w1 := W) (v := .int .i64 n2) (by rfl) rfl ?_ (hK _ W (RV.other _ (by decide) (Below.refl _ _)) (if_pos rfl))
      simp only [e1]
      go_simp
      have := hn2.out
      split <;> omega
    refine FreeStepsV.cons (i := 10) (N := some 28) (bs := [6, 9]) rfl rfl (by kernel_rfl) rfl rfl ?_ ?_
    · rintro vs W hB hlt h0 ⟨k1, k2, _⟩ K hK
      have e1 := Known.is k1 rfl
      have e2 := Known.is k2 rfl
      refine value_ (w1 := W) (v := .slice A2 n2 c2) (by rfl) rfl ?_ (hK _ W (RV.other _ (by decide) (Below.refl _ _)) (if_pos rfl))
      simp only [e1, e2]
      go_simp
      intro h
      have := hn2.out
      exact absurd h (by omega)
    refine FreeStepsV.cons (i := 11) (N := some 29) (bs := [10]) rfl rfl (by kernel_rfl) rfl rfl ?_ ?_
    · rintro vs W hB hlt h0 ⟨k1, _⟩ K hK
      have e1 := Known.is k1 rfl
      refine goes_ Try.func17 (by kernel_rfl) rfl #[.slice A2 n2 c2, .int .i64 3] (by rfl) rfl rfl (by rw [← e1]; simp only [List.map_toArray, List.map_cons, List.map_nil]; rfl) ?_
      with_reducible refine (hpc2 A2 c2 W (Kd.C_below (Kd.C_drew hT2) hB) (by have := hn2.out; omega)).mono ?_
      rintro e W' ⟨A', c', rfl, hk, hF, hb⟩
      exact ⟨_, rfl, hK _ W' (RV.other _ (by decide) hb) (PatAt.new hlt (by decide) hk hF)⟩
    refine FreeStepsV.cons (i := 12) (N := some 30) (bs := []) rfl rfl (by kernel_rfl) rfl rfl ?_ ?_
    · rintro vs W hB hlt h0 - K hK
      refine value_ (w1 := W) (v := .slice A3 o.length c3) (by rfl) rfl ?_ (hK _ W (RV.other _ (by decide) (Below.refl _ _)) (if_pos rfl))
      rfl
    refine FreeStepsV.cons (i := 13) (N := some 31) (bs := []) rfl rfl (by kernel_rfl) rfl rfl ?_ ?_
    · rintro vs W hB hlt h0 - K hK
      refine value_ (w1 := W) (v := .slice A3 o.length c3) (by rfl) rfl ?_ (hK _ W (RV.other _ (by decide) (Below.refl _ _)) (if_pos rfl))
      rfl
    refine FreeStepsV.cons (i := 14) (N := some 32) (bs := [13]) rfl rfl (by kernel_rfl) rfl rfl ?_ ?_
    · rintro vs W hB hlt h0 ⟨k1, _⟩ K hK
      have e1 := Known.is k1 rfl
      refine value_ (w1 := W) (v := .int .i64 o.length) (by rfl) rfl ?_ (hK _ W (RV.other _ (by decide) (Below.refl _ _)) (if_pos rfl))
      simp only [e1]
      go_simp
    refine FreeStepsV.cons (i := 15) (N := some 33) (bs := [14]) rfl rfl (by kernel_rfl) rfl rfl ?_ ?_
    · rintro vs W hB hlt h0 ⟨k1, _⟩ K hK
      have e1 := Known.is k1 rfl
      refine value_ (w1 := W) (v := .int .i64 n3) (by rfl) rfl ?_ (hK _ W (RV.other _ (by decide) (Below.refl _ _)) (if_pos rfl))
      simp only [e1]
      go_simp
      have := hn3.out
      split <;> omega
    refine FreeStepsV.cons (i := 16) (N := some 34) (bs := [12, 15]) rfl rfl (by kernel_rfl) rfl rfl ?_ ?_
    · rintro vs W hB hlt h0 ⟨k1, k2, _⟩ K hK
      have e1 := Known.is k1 rfl
      have e2 := Known.is k2 rfl
      refine value_ (w1 := W) (v := .slice A3 n3 c3) (by rfl) rfl ?_ (hK _ W (RV.other _ (by decide) (Below.refl _ _)) (if_pos rfl))
      simp only [e1, e2]
      go_simp
      intro h
      have := hn3.out
      exact absurd h (by omega)
    refine FreeStepsV.cons (i := 17) (N := some 35) (bs := [16]) rfl rfl (by kernel_rfl) rfl rfl ?_ ?_
    · rintro vs W hB hlt h0 ⟨k1, _⟩ K hK
      have e1 := Known.is k1 rfl
      refine goes_ Try.func17 (by kernel_rfl) rfl #[.slice A3 n3 c3, .int .i64 3] (by rfl) rfl rfl (by rw [← e1]; simp only [List.map_toArray, List.map_cons, List.map_nil]; rfl) ?_
      with_reducible refine (hpc3 A3 c3 W (Kd.C_below (Kd.C_drew hT3) hB) (by have := hn3.out; omega)).mono ?_
      rintro e W' ⟨A', c', rfl, hk, hF, hb⟩
      exact ⟨_, rfl, hK _ W' (RV.other _ (by decide) hb) (PatAt.new hlt (by decide) hk hF)⟩
    refine FreeStepsV.cons (i := 18) (N := some 9) (bs := []) (v0 := undef) rfl rfl (by kernel_rfl) rfl rfl ?_ ?_
    · rintro vs W hB hlt h0 - K hK
      refine value_ (w1 := W.alloc (.cells #[.int .i64 0, .int .i64 0, .int .i64 0, .int .i64 0, .slice none 0 0] 24)) (v := ptr W.heap.size) (by rfl) rfl ?_ (hK _ _ (RV.alloc _ (by decide) (fun g e => by rw [h0] at e; cases e)) (Made.new hlt (by decide) _))
      go_simp
      rfl
    refine FreeStepsV.cons (i := 19) (N := some 10) (bs := []) (v0 := undef) rfl rfl (by kernel_rfl) rfl rfl ?_ ?_
    · rintro vs W hB hlt h0 - K hK
      refine value_ (w1 := W.alloc (.cells #[.int .i64 0, .int .i64 0, .int .i64 0, .int .i64 0, .slice none 0 0] 24)) (v := ptr W.heap.size) (by rfl) rfl ?_ (hK _ _ (RV.alloc _ (by decide) (fun g e => by rw [h0] at e; cases e)) (Made.new hlt (by decide) _))
      go_simp
      rfl
    refine FreeStepsV.cons (i := 20) (N := some 11) (bs := []) (v0 := undef) rfl rfl (by kernel_rfl) rfl rfl ?_ ?_
    · rintro vs W hB hlt h0 - K hK
      refine value_ (w1 := W.alloc (.cells #[.int .i64 0, .int .i64 0, .int .i64 0, .int .i64 0, .slice none 0 0] 24)) (v := ptr W.heap.size) (by rfl) rfl ?_ (hK _ _ (RV.alloc _ (by decide) (fun g e => by rw [h0] at e; cases e)) (Made.new hlt (by decide) _))
      go_simp
      rfl
    refine FreeStepsV.cons (i := 21) (N := none) (bs := [18, 5]) (v0 := undef) rfl rfl (by kernel_rfl) rfl rfl ?_ ?_
    · rintro vs W hB hlt h0 ⟨k1, k2, _⟩ K hK
      obtain ⟨g, e1, hu, hbk⟩ := Known.made (i := 21) k1 rfl (by decide) (fun e => by rw [h0] at e; cases e)
      obtain ⟨A', c', e2, hk, hF⟩ := Known.patAt k2 rfl
      have c0 := (blk_cell hbk 0).trans rfl
      have c1 := (blk_cell hbk 1).trans rfl
      have c2 := (blk_cell hbk 2).trans rfl
      have c3 := (blk_cell hbk 3).trans rfl
      have c4 := (blk_cell hbk 4).trans rfl
      have hfz := fun j => blk_frozen hbk j
      refine skip_ (w1 := ?_) (by rfl) rfl ?_ ?_
      rotate_left
      · simp only [e1, e2, ptr]
        go_simp
        rfl
      exact hK flag _ (RV.fill (by decide) (by decide) e1 (fun e => by rw [h0] at e; cases e)) (VarAt.new (by decide) (by decide) e1 hu hbk hk hF)
    refine FreeStepsV.cons (i := 22) (N := none) (bs := [19, 11]) (v0 := undef) rfl rfl (by kernel_rfl) rfl rfl ?_ ?_
    · rintro vs W hB hlt h0 ⟨k1, k2, _⟩ K hK
      obtain ⟨g, e1, hu, hbk⟩ := Known.made (i := 22) k1 rfl (by decide) (fun e => by rw [h0] at e; cases e)
      obtain ⟨A', c', e2, hk, hF⟩ := Known.patAt k2 rfl
      have c0 := (blk_cell hbk 0).trans rfl
      have c1 := (blk_cell hbk 1).trans rfl
      have c2 := (blk_cell hbk 2).trans rfl
      have c3 := (blk_cell hbk 3).trans rfl
      have c4 := (blk_cell hbk 4).trans rfl
      have hfz := fun j => blk_frozen hbk j
      refine skip_ (w1 := ?_) (by rfl) rfl ?_ ?_
      rotate_left
      · simp only [e1, e2, ptr]
        go_simp
        rfl
      exact hK flag _ (RV.fill (by decide) (by decide) e1 (fun e => by rw [h0] at e; cases e)) (VarAt.new (by decide) (by decide) e1 hu hbk hk hF)
    refine FreeStepsV.cons (i := 23) (N := none) (bs := [20, 17]) (v0 := undef) rfl rfl (by kernel_rfl) rfl rfl ?_ ?_
    · rintro vs W hB hlt h0 ⟨k1, k2, _⟩ K hK
      obtain ⟨g, e1, hu, hbk⟩ := Known.made (i := 23) k1 rfl (by decide) (fun e => by rw [h0] at e; cases e)
      obtain ⟨A', c', e2, hk, hF⟩ := Known.patAt k2 rfl
      have c0 := (blk_cell hbk 0).trans rfl
      have c1 := (blk_cell hbk 1).trans rfl
      have c2 := (blk_cell hbk 2).trans rfl
      have c3 := (blk_cell hbk 3).trans rfl
      have c4 := (blk_cell hbk 4).trans rfl
      have hfz := fun j => blk_frozen hbk j
      refine skip_ (w1 := ?_) (by rfl) rfl ?_ ?_
      rotate_left
      · simp only [e1, e2, ptr]
        go_simp
        rfl
      exact hK flag _ (RV.fill (by decide) (by decide) e1 (fun e => by rw [h0] at e; cases e)) (VarAt.new (by decide) (by decide) e1 hu hbk hk hF)
    exact FreeStepsV.nil
  case hend1 =>
    intro vs w1 hB1 hk
    obtain ⟨_, _, _, _, _, _, _, _, _, _, _, _, _, _, _, _, _, _, _, _, _, k21, k22, k23, _⟩ := hk
    obtain ⟨P1, d1, ⟨g1, e1, _, hb1⟩, _, hd1, hF1⟩ := Known.varAt (j := 18) k21 rfl (by decide)
    have hP1 := Kd.F_now hF1
    have x0 := (blk_cell hb1 0).trans rfl
    have x1 := (blk_cell hb1 1).trans rfl
    have x2 := (blk_cell hb1 2).trans rfl
    have x3 := (blk_cell hb1 3).trans rfl
    have x4 := (blk_cell hb1 4).trans rfl
    obtain ⟨P2, d2, ⟨g2, e2, _, hb2⟩, _, hd2, hF2⟩ := Known.varAt (j := 19) k22 rfl (by decide)
    have hP2 := Kd.F_now hF2
    have y0 := (blk_cell hb2 0).trans rfl
    have y1 := (blk_cell hb2 1).trans rfl
    have y2 := (blk_cell hb2 2).trans rfl
    have y3 := (blk_cell hb2 3).trans rfl
    have y4 := (blk_cell hb2 4).trans rfl
    obtain ⟨P3, d3, ⟨g3, e3, _, hb3⟩, _, hd3, hF3⟩ := Known.varAt (j := 20) k23 rfl (by decide)
    have hP3 := Kd.F_now hF3
    have z0 := (blk_cell hb3 0).trans rfl
    have z1 := (blk_cell hb3 1).trans rfl
    have z2 := (blk_cell hb3 2).trans rfl
    have z3 := (blk_cell hb3 3).trans rfl
    have z4 := (blk_cell hb3 4).trans rfl
    simp only [e1, e2, e3, ptr]
    clear k21 k22 k23 hF1 hF2 hF3 e1 e2 e3
    generalize vs 0 = v0, vs 1 = v1, vs 2 = v2, vs 3 = v3, vs 4 = v4, vs 5 = v5, vs 6 = v6, vs 7 = v7, vs 8 = v8, vs 9 = v9, vs 10 = v10, vs 11 = v11, vs 12 = v12, vs 13 = v13, vs 14 = v14, vs 15 = v15, vs 16 = v16, vs 17 = v17
    go_wp2
    refine freeV_ [] [Is 0 (.agg #[.int .i64 p.var, .int .i64 p.op, .int .i64 p.imm, .int .i64 p.immVar, .slice P1 p.kids.length d1]), Is 1 (.agg #[.int .i64 q.var, .int .i64 q.op, .int .i64 q.imm, .int .i64 q.immVar, .slice P2 q.kids.length d2]), PatN 2 (opP 4 [p, q]), Is 3 (.agg #[.int .i64 q.var, .int .i64 q.op, .int .i64 q.imm, .int .i64 q.immVar, .slice P2 q.kids.length d2]), Is 4 (.agg #[.int .i64 p.var, .int .i64 p.op, .int .i64 p.imm, .int .i64 p.immVar, .slice P1 p.kids.length d1]), PatN 5 (opP 4 [q, p]), PairC 6 ((opP 4 [p, q]), (opP 4 [q, p])), Is 7 (.agg #[.int .i64 p.var, .int .i64 p.op, .int .i64 p.imm, .int .i64 p.immVar, .slice P1 p.kids.length d1]), Is 8 (.agg #[.int .i64 q.var, .int .i64 q.op, .int .i64 q.imm, .int .i64 q.immVar, .slice P2 q.kids.length d2]), PatN 9 (opP 6 [p, q]), Is 10 (.agg #[.int .i64 q.var, .int .i64 q.op, .int .i64 q.imm, .int .i64 q.immVar, .slice P2 q.kids.length d2]), Is 11 (.agg #[.int .i64 p.var, .int .i64 p.op, .int .i64 p.imm, .int .i64 p.immVar, .slice P1 p.kids.length d1]), PatN 12 (opP 6 [q, p]), PairC 13 ((opP 6 [p, q]), (opP 6 [q, p])), Is 14 (.agg #[.int .i64 p.var, .int .i64 p.op, .int .i64 p.imm, .int .i64 p.immVar, .slice P1 p.kids.length d1]), Is 15 (.agg #[.int .i64 q.var, .int .i64 q.op, .int .i64 q.imm, .int .i64 q.immVar, .slice P2 q.kids.length d2]), Is 16 (.agg #[.int .i64 r.var, .int .i64 r.op, .int .i64 r.imm, .int .i64 r.immVar, .slice P3 r.kids.length d3]), PatN 17 (opP 4 [q, r]), PatN 18 (opP 6 [p, (opP 4 [q, r])]), Is 19 (.agg #[.int .i64 p.var, .int .i64 p.op, .int .i64 p.imm, .int .i64 p.immVar, .slice P1 p.kids.length d1]), Is 20 (.agg #[.int .i64 q.var, .int .i64 q.op, .int .i64 q.imm, .int .i64 q.immVar, .slice P2 q.kids.length d2]), PatN 21 (opP 6 [p, q]), Is 22 (.agg #[.int .i64 p.var, .int .i64 p.op, .int .i64 p.imm, .int .i64 p.immVar, .slice P1 p.kids.length d1]), Is 23 (.agg #[.int .i64 r.var, .int .i64 r.op, .int .i64 r.imm, .int .i64 r.immVar, .slice P3 r.kids.length d3]), PatN 24 (opP 6 [p, r]), PatN 25 (opP 4 [(opP 6 [p, q]), (opP 6 [p, r])]), PairC 26 ((opP 6 [p, (opP 4 [q, r])]), (opP 4 [(opP 6 [p, q]), (opP 6 [p, r])])), Is 27 (.agg #[.int .i64 p.var, .int .i64 p.op, .int .i64 p.imm, .int .i64 p.immVar, .slice P1 p.kids.length d1]), Is 28 (.agg #[.int .i64 q.var, .int .i64 q.op, .int .i64 q.imm, .int .i64 q.immVar, .slice P2 q.kids.length d2]), PatN 29 (opP 5 [p, q]), Is 30 (.agg #[.int .i64 p.var, .int .i64 p.op, .int .i64 p.imm, .int .i64 p.immVar, .slice P1 p.kids.length d1]), Is 31 (.agg #[.int .i64 q.var, .int .i64 q.op, .int .i64 q.imm, .int .i64 q.immVar, .slice P2 q.kids.length d2]), LitC 32 q, PatN 33 (unP 20 q), PatN 34 (opP 4 [p, (unP 20 q)]), PairC 35 ((opP 5 [p, q]), (opP 4 [p, (unP 20 q)])), Is 36 (.agg #[.int .i64 p.var, .int .i64 p.op, .int .i64 p.imm, .int .i64 p.immVar, .slice P1 p.kids.length d1]), Is 37 (.agg #[.int .i64 q.var, .int .i64 q.op, .int .i64 q.imm, .int .i64 q.immVar, .slice P2 q.kids.length d2]), PatN 38 (opP 6 [p, q]), Is 39 (.agg #[.int .i64 r.var, .int .i64 r.op, .int .i64 r.imm, .int .i64 r.immVar, .slice P3 r.kids.length d3]), PatN 40 (opP 6 [(opP 6 [p, q]), r]), Is 41 (.agg #[.int .i64 p.var, .int .i64 p.op, .int .i64 p.imm, .int .i64 p.immVar, .slice P1 p.kids.length d1]), Is 42 (.agg #[.int .i64 q.var, .int .i64 q.op, .int .i64 q.imm, .int .i64 q.immVar, .slice P2 q.kids.length d2]), Is 43 (.agg #[.int .i64 r.var, .int .i64 r.op, .int .i64 r.imm, .int .i64 r.immVar, .slice P3 r.kids.length d3]), PatN 44 (opP 6 [q, r]), PatN 45 (opP 6 [p, (opP 6 [q, r])]), PairC 46 ((opP 6 [(opP 6 [p, q]), r]), (opP 6 [p, (opP 6 [q, r])])), Is 47 (.agg #[.int .i64 p.var, .int .i64 p.op, .int .i64 p.imm, .int .i64 p.immVar, .slice P1 p.kids.length d1]), Is 48 (.agg #[.int .i64 q.var, .int .i64 q.op, .int .i64 q.imm, .int .i64 q.immVar, .slice P2 q.kids.length d2]), PatN 49 (opP 5 [p, q]), LitC 50 (opP 5 [p, q]), PatN 51 (unP 21 (opP 5 [p, q])), Is 52 (.agg #[.int .i64 q.var, .int .i64 q.op, .int .i64 q.imm, .int .i64 q.immVar, .slice P2 q.kids.length d2]), Is 53 (.agg #[.int .i64 p.var, .int .i64 p.op, .int .i64 p.imm, .int .i64 p.immVar, .slice P1 p.kids.length d1]), PatN 54 (constP 1), PatN 55 (opP 4 [p, (constP 1)]), PatN 56 (opP 5 [q, (opP 4 [p, (constP 1)])]), PairC 57 ((unP 21 (opP 5 [p, q])), (opP 5 [q, (opP 4 [p, (constP 1)])])), Pairs 58 (lawPairs p q r), Pairs 59 (lawPairs p q r)] (n := 60) (fr := ?fr2) (sl := [(36, 0), (37, 1), (38, 2), (39, 3), (40, 4), (41, 5), (42, 6), (43, 7), (44, 8), (45, 9), (46, 10), (47, 11), (48, 12), (49, 13), (50, 14), (51, 15), (52, 16), (53, 17), (54, 18), (55, 19), (56, 20), (57, 21), (58, 22), (59, 23), (60, 24), (61, 25), (62, 26), (63, 27), (64, 28), (65, 29), (66, 30), (67, 31), (68, 32), (69, 33), (70, 34), (71, 35), (72, 36), (73, 37), (74, 38), (75, 39), (76, 40), (77, 41), (78, 42), (79, 43), (80, 44), (81, 45), (82, 46), (83, 47), (84, 48), (85, 49), (86, 50), (87, 51), (88, 52), (89, 53), (90, 54), (91, 55), (92, 56), (93, 57), (94, 58), (12, 59)]) (by kernel_rfl) rfl (by kernel_rfl) ?hfr2 (by kernel_rfl) (by kernel_rfl) (ns := [0, 1, 2, 3, 4, 5, 6, 7, 8, 9, 10, 11, 12, 13, 14, 15, 16, 17, 18, 19, 20, 21, 22, 23, 24, 25, 26, 27, 28, 29, 30, 31, 32, 33, 34, 35, 36, 37, 38, 39, 40, 41, 42, 43, 44, 45, 46, 47, 48, 49, 50, 51, 52, 53, 54, 55, 56, 57, 58, 59]) (by kernel_rfl) ?hstep2 ?hend2
    case hfr2 => intro vs; simp only [putVs, Act.put, List.setIfInBounds_toArray, List.set_cons_zero, List.set_cons_succ]; rfl
    case hstep2 =>
      refine FreeStepsV.cons (i := 0) (N := some 36) (bs := []) rfl rfl (by kernel_rfl) rfl rfl ?_ ?_
      · rintro vs W hB hlt h0 - K hK
        have x0' := pw_cell_below hB x0
        have x1' := pw_cell_below hB x1
        have x2' := pw_cell_below hB x2
        have x3' := pw_cell_below hB x3
        have x4' := pw_cell_below hB x4
        refine value_ (w1 := W) (v := .agg #[.int .i64 p.var, .int .i64 p.op, .int .i64 p.imm, .int .i64 p.immVar, .slice P1 p.kids.length d1]) (by rfl) rfl ?_ (hK _ W (RV.other _ (by decide) (Below.refl _ _)) (if_pos rfl))
        go_simp
        try rfl
      refine FreeStepsV.cons (i := 1) (N := some 37) (bs := []) rfl rfl (by kernel_rfl) rfl rfl ?_ ?_
      · rintro vs W hB hlt h0 - K hK
        have y0' := pw_cell_below hB y0
        have y1' := pw_cell_below hB y1
        have y2' := pw_cell_below hB y2
        have y3' := pw_cell_below hB y3
        have y4' := pw_cell_below hB y4
        refine value_ (w1 := W) (v := .agg #[.int .i64 q.var, .int .i64 q.op, .int .i64 q.imm, .int .i64 q.immVar, .slice P2 q.kids.length d2]) (by rfl) rfl ?_ (hK _ W (RV.other _ (by decide) (Below.refl _ _)) (if_pos rfl))
        go_simp
        try rfl
      refine FreeStepsV.cons (i := 2) (N := some 38) (bs := [0, 1]) rfl rfl (by kernel_rfl) rfl rfl ?_ ?_
      · rintro vs W hB hlt h0 ⟨k1, k2, _⟩ K hK
        have e1 := Known.is k1 rfl
        have e2 := Known.is k2 rfl
        refine goes_ Try.func21 (by kernel_rfl) rfl #[.int .i64 4, .agg #[.int .i64 p.var, .int .i64 p.op, .int .i64 p.imm, .int .i64 p.immVar, .slice P1 p.kids.length d1], .agg #[.int .i64 q.var, .int .i64 q.op, .int .i64 q.imm, .int .i64 q.immVar, .slice P2 q.kids.length d2]] (by rfl) rfl rfl (by rw [← e1, ← e2]; simp only [List.map_toArray, List.map_cons, List.map_nil]; rfl) ?_
        with_reducible refine (op_calls 4 p q P1 P2 d1 d2 W (Kd.C_below (Kd.C_drew hP1) hB) hd1 (Kd.C_below (Kd.C_drew hP2) hB) hd2).mono ?_
        rintro e W' ⟨A', c', rfl, hk, hC, hb⟩
        exact ⟨_, rfl, hK _ W' (RV.other _ (by decide) hb) (PatN.new hk hC)⟩
      refine FreeStepsV.cons (i := 3) (N := some 39) (bs := []) rfl rfl (by kernel_rfl) rfl rfl ?_ ?_
      · rintro vs W hB hlt h0 - K hK
        have y0' := pw_cell_below hB y0
        have y1' := pw_cell_below hB y1
        have y2' := pw_cell_below hB y2
        have y3' := pw_cell_below hB y3
        have y4' := pw_cell_below hB y4
        refine value_ (w1 := W) (v := .agg #[.int .i64 q.var, .int .i64 q.op, .int .i64 q.imm, .int .i64 q.immVar, .slice P2 q.kids.length d2]) (by rfl) rfl ?_ (hK _ W (RV.other _ (by decide) (Below.refl _ _)) (if_pos rfl))
        go_simp
        try rfl
      refine FreeStepsV.cons (i := 4) (N := some 40) (bs := []) rfl rfl (by kernel_rfl) rfl rfl ?_ ?_
      · rintro vs W hB hlt h0 - K hK
        have x0' := pw_cell_below hB x0
        have x1' := pw_cell_below hB x1
        have x2' := pw_cell_below hB x2
        have x3' := pw_cell_below hB x3
        have x4' := pw_cell_below hB x4
        refine value_ (w1 := W) (v := .agg #[.int .i64 p.var, .int .i64 p.op, .int .i64 p.imm, .int .i64 p.immVar, .slice P1 p.kids.length d1]) (by rfl) rfl ?_ (hK _ W (RV.other _ (by decide) (Below.refl _ _)) (if_pos rfl))
        go_simp
        try rfl
      refine FreeStepsV.cons (i := 5) (N := some 41) (bs := [3, 4]) rfl rfl (by kernel_rfl) rfl rfl ?_ ?_
      · rintro vs W hB hlt h0 ⟨k1, k2, _⟩ K hK
        have e1 := Known.is k1 rfl
        have e2 := Known.is k2 rfl
        refine goes_ Try.func21 (by kernel_rfl) rfl #[.int .i64 4, .agg #[.int .i64 q.var, .int .i64 q.op, .int .i64 q.imm, .int .i64 q.immVar, .slice P2 q.kids.length d2], .agg #[.int .i64 p.var, .int .i64 p.op, .int .i64 p.imm, .int .i64 p.immVar, .slice P1 p.kids.length d1]] (by rfl) rfl rfl (by rw [← e1, ← e2]; simp only [List.map_toArray, List.map_cons, List.map_nil]; rfl) ?_
        with_reducible refine (op_calls 4 q p P2 P1 d2 d1 W (Kd.C_below (Kd.C_drew hP2) hB) hd2 (Kd.C_below (Kd.C_drew hP1) hB) hd1).mono ?_
        rintro e W' ⟨A', c', rfl, hk, hC, hb⟩
        exact ⟨_, rfl, hK _ W' (RV.other _ (by decide) hb) (PatN.new hk hC)⟩
      refine FreeStepsV.cons (i := 6) (N := some 42) (bs := [2, 5]) rfl rfl (by kernel_rfl) rfl rfl ?_ ?_
      · rintro vs W hB hlt h0 ⟨k1, k2, _⟩ K hK
        obtain ⟨A1, c1, e1, hk1, hC1⟩ := Known.patN k1 rfl
        obtain ⟨A2, c2, e2, hk2, hC2⟩ := Known.patN k2 rfl
        refine value_ (w1 := W) (v := .agg #[.int .i64 (opP 4 [p, q]).var, .int .i64 (opP 4 [p, q]).op, .int .i64 (opP 4 [p, q]).imm, .int .i64 (opP 4 [p, q]).immVar, .slice A1 (opP 4 [p, q]).kids.length c1, .int .i64 (opP 4 [q, p]).var, .int .i64 (opP 4 [q, p]).op, .int .i64 (opP 4 [q, p]).imm, .int .i64 (opP 4 [q, p]).immVar, .slice A2 (opP 4 [q, p]).kids.length c2]) (by rfl) rfl ?_ (hK _ W (RV.other _ (by decide) (Below.refl _ _)) ⟨_, _, _, _, if_pos rfl, hk1, hk2, hC1, hC2⟩)
        simp only [e1, e2]
        kernel_rfl
      refine FreeStepsV.cons (i := 7) (N := some 43) (bs := []) rfl rfl (by kernel_rfl) rfl rfl ?_ ?_
      · rintro vs W hB hlt h0 - K hK
        have x0' := pw_cell_below hB x0
        have x1' := pw_cell_below hB x1
        have x2' := pw_cell_below hB x2
        have x3' := pw_cell_below hB x3
        have x4' := pw_cell_below hB x4
        refine value_ (w1 := W) (v := .agg #[.int .i64 p.var, .int .i64 p.op, .int .i64 p.imm, .int .i64 p.immVar, .slice P1 p.kids.length d1]) (by rfl) rfl ?_ (hK _ W (RV.other _ (by decide) (Below.refl _ _)) (if_pos rfl))
        go_simp
        try rfl
      refine FreeStepsV.cons (i := 8) (N := some 44) (bs := []) rfl rfl (by kernel_rfl) rfl rfl ?_ ?_
      · rintro vs W hB hlt h0 - K hK
        have y0' := pw_cell_below hB y0
        have y1' := pw_cell_below hB y1
        have y2' := pw_cell_below hB y2
        have y3' := pw_cell_below hB y3
        have y4' := pw_cell_below hB y4
        refine value_ (w1 := W) (v := .agg #[.int .i64 q.var, .int .i64 q.op, .int .i64 q.imm, .int .i64 q.immVar, .slice P2 q.kids.length d2]) (by rfl) rfl ?_ (hK _ W (RV.other _ (by decide) (Below.refl _ _)) (if_pos rfl))
        go_simp
        try rfl
      refine FreeStepsV.cons (i := 9) (N := some 45) (bs := [7, 8]) rfl rfl (by kernel_rfl) rfl rfl ?_ ?_
      · rintro vs W hB hlt h0 ⟨k1, k2, _⟩ K hK
        have e1 := Known.is k1 rfl
        have e2 := Known.is k2 rfl
        refine goes_ Try.func21 (by kernel_rfl) rfl #[.int .i64 6, .agg #[.int .i64 p.var, .int .i64 p.op, .int .i64 p.imm, .int .i64 p.immVar, .slice P1 p.kids.length d1], .agg #[.int .i64 q.var, .int .i64 q.op, .int .i64 q.imm, .int .i64 q.immVar, .slice P2 q.kids.length d2]] (by rfl) rfl rfl (by rw [← e1, ← e2]; simp only [List.map_toArray, List.map_cons, List.map_nil]; rfl) ?_
        with_reducible refine (op_calls 6 p q P1 P2 d1 d2 W (Kd.C_below (Kd.C_drew hP1) hB) hd1 (Kd.C_below (Kd.C_drew hP2) hB) hd2).mono ?_
        rintro e W' ⟨A', c', rfl, hk, hC, hb⟩
        exact ⟨_, rfl, hK _ W' (RV.other _ (by decide) hb) (PatN.new hk hC)⟩
      refine FreeStepsV.cons (i := 10) (N := some 46) (bs := []) rfl rfl (by kernel_rfl) rfl rfl ?_ ?_
      · rintro vs W hB hlt h0 - K hK
        have y0' := pw_cell_below hB y0
        have y1' := pw_cell_below hB y1
        have y2' := pw_cell_below hB y2
        have y3' := pw_cell_below hB y3
        have y4' := pw_cell_below hB y4
        refine value_ (w1 := W) (v := .agg #[.int .i64 q.var, .int .i64 q.op, .int .i64 q.imm, .int .i64 q.immVar, .slice P2 q.kids.length d2]) (by rfl) rfl ?_ (hK _ W (RV.other _ (by decide) (Below.refl _ _)) (if_pos rfl))
        go_simp
        try rfl
      refine FreeStepsV.cons (i := 11) (N := some 47) (bs := []) rfl rfl (by kernel_rfl) rfl rfl ?_ ?_
      · rintro vs W hB hlt h0 - K hK
        have x0' := pw_cell_below hB x0
        have x1' := pw_cell_below hB x1
        have x2' := pw_cell_below hB x2
        have x3' := pw_cell_below hB x3
        have x4' := pw_cell_below hB x4
        refine value_ (w1 := W) (v := .agg #[.int .i64 p.var, .int .i64 p.op, .int .i64 p.imm, .int .i64 p.immVar, .slice P1 p.kids.length d1]) (by rfl) rfl ?_ (hK _ W (RV.other _ (by decide) (Below.refl _ _)) (if_pos rfl))
        go_simp
        try rfl
      refine FreeStepsV.cons (i := 12) (N := some 48) (bs := [10, 11]) rfl rfl (by kernel_rfl) rfl rfl ?_ ?_
      · rintro vs W hB hlt h0 ⟨k1, k2, _⟩ K hK
        have e1 := Known.is k1 rfl
        have e2 := Known.is k2 rfl
        refine goes_ Try.func21 (by kernel_rfl) rfl #[.int .i64 6, .agg #[.int .i64 q.var, .int .i64 q.op, .int .i64 q.imm, .int .i64 q.immVar, .slice P2 q.kids.length d2], .agg #[.int .i64 p.var, .int .i64 p.op, .int .i64 p.imm, .int .i64 p.immVar, .slice P1 p.kids.length d1]] (by rfl) rfl rfl (by rw [← e1, ← e2]; simp only [List.map_toArray, List.map_cons, List.map_nil]; rfl) ?_
        with_reducible refine (op_calls 6 q p P2 P1 d2 d1 W (Kd.C_below (Kd.C_drew hP2) hB) hd2 (Kd.C_below (Kd.C_drew hP1) hB) hd1).mono ?_
        rintro e W' ⟨A', c', rfl, hk, hC, hb⟩
        exact ⟨_, rfl, hK _ W' (RV.other _ (by decide) hb) (PatN.new hk hC)⟩
      refine FreeStepsV.cons (i := 13) (N := some 49) (bs := [9, 12]) rfl rfl (by kernel_rfl) rfl rfl ?_ ?_
      · rintro vs W hB hlt h0 ⟨k1, k2, _⟩ K hK
        obtain ⟨A1, c1, e1, hk1, hC1⟩ := Known.patN k1 rfl
        obtain ⟨A2, c2, e2, hk2, hC2⟩ := Known.patN k2 rfl
        refine value_ (w1 := W) (v := .agg #[.int .i64 (opP 6 [p, q]).var, .int .i64 (opP 6 [p, q]).op, .int .i64 (opP 6 [p, q]).imm, .int .i64 (opP 6 [p, q]).immVar, .slice A1 (opP 6 [p, q]).kids.length c1, .int .i64 (opP 6 [q, p]).var, .int .i64 (opP 6 [q, p]).op, .int .i64 (opP 6 [q, p]).imm, .int .i64 (opP 6 [q, p]).immVar, .slice A2 (opP 6 [q, p]).kids.length c2]) (by rfl) rfl ?_ (hK _ W (RV.other _ (by decide) (Below.refl _ _)) ⟨_, _, _, _, if_pos rfl, hk1, hk2, hC1, hC2⟩)
        simp only [e1, e2]
        kernel_rfl
      refine FreeStepsV.cons (i := 14) (N := some 50) (bs := []) rfl rfl (by kernel_rfl) rfl rfl ?_ ?_
      · rintro vs W hB hlt h0 - K hK
        have x0' := pw_cell_below hB x0
        have x1' := pw_cell_below hB x1
        have x2' := pw_cell_below hB x2
        have x3' := pw_cell_below hB x3
        have x4' := pw_cell_below hB x4
        refine value_ (w1 := W) (v := .agg #[.int .i64 p.var, .int .i64 p.op, .int .i64 p.imm, .int .i64 p.immVar, .slice P1 p.kids.length d1]) (by rfl) rfl ?_ (hK _ W (RV.other _ (by decide) (Below.refl _ _)) (if_pos rfl))
        go_simp
        try rfl
      refine FreeStepsV.cons (i := 15) (N := some 51) (bs := []) rfl rfl (by kernel_rfl) rfl rfl ?_ ?_
      · rintro vs W hB hlt h0 - K hK
        have y0' := pw_cell_below hB y0
        have y1' := pw_cell_below hB y1
        have y2' := pw_cell_below hB y2
        have y3' := pw_cell_below hB y3
        have y4' := pw_cell_below hB y4
        refine value_ (w1 := W) (v := .agg #[.int .i64 q.var, .int .i64 q.op, .int .i64 q.imm, .int .i64 q.immVar, .slice P2 q.kids.length d2]) (by rfl) rfl ?_ (hK _ W (RV.other _ (by decide) (Below.refl _ _)) (if_pos rfl))
        go_simp
        try rfl
      refine FreeStepsV.cons (i := 16) (N := some 52) (bs := []) rfl rfl (by kernel_rfl) rfl rfl ?_ ?_
      · rintro vs W hB hlt h0 - K hK
        have z0' := pw_cell_below hB z0
        have z1' := pw_cell_below hB z1
        have z2' := pw_cell_below hB z2
        have z3' := pw_cell_below hB z3
        have z4' := pw_cell_below hB z4
        refine value_ (w1 := W) (v := .agg #[.int .i64 r.var, .int .i64 r.op, .int .i64 r.imm, .int .i64 r.immVar, .slice P3 r.kids.length d3]) (by rfl) rfl ?_ (hK _ W (RV.other _ (by decide) (Below.refl _ _)) (if_pos rfl))
        go_simp
        try rfl
      refine FreeStepsV.cons (i := 17) (N := some 53) (bs := [15, 16]) rfl rfl (by kernel_rfl) rfl rfl ?_ ?_
      · rintro vs W hB hlt h0 ⟨k1, k2, _⟩ K hK
        have e1 := Known.is k1 rfl
        have e2 := Known.is k2 rfl
        refine goes_ Try.func21 (by kernel_rfl) rfl #[.int .i64 4, .agg #[.int .i64 q.var, .int .i64 q.op, .int .i64 q.imm, .int .i64 q.immVar, .slice P2 q.kids.length d2], .agg #[.int .i64 r.var, .int .i64 r.op, .int .i64 r.imm, .int .i64 r.immVar, .slice P3 r.kids.length d3]] (by rfl) rfl rfl (by rw [← e1, ← e2]; simp only [List.map_toArray, List.map_cons, List.map_nil]; rfl) ?_
        with_reducible refine (op_calls 4 q r P2 P3 d2 d3 W (Kd.C_below (Kd.C_drew hP2) hB) hd2 (Kd.C_below (Kd.C_drew hP3) hB) hd3).mono ?_
        rintro e W' ⟨A', c', rfl, hk, hC, hb⟩
        exact ⟨_, rfl, hK _ W' (RV.other _ (by decide) hb) (PatN.new hk hC)⟩
      refine FreeStepsV.cons (i := 18) (N := some 54) (bs := [14, 17]) rfl rfl (by kernel_rfl) rfl rfl ?_ ?_
      · rintro vs W hB hlt h0 ⟨k1, k2, _⟩ K hK
        have e1 := Known.is k1 rfl
        obtain ⟨A2, c2, e2, hk2, hC2⟩ := Known.patN k2 rfl
        refine goes_ Try.func21 (by kernel_rfl) rfl #[.int .i64 6, .agg #[.int .i64 p.var, .int .i64 p.op, .int .i64 p.imm, .int .i64 p.immVar, .slice P1 p.kids.length d1], .agg #[.int .i64 (opP 4 [q, r]).var, .int .i64 (opP 4 [q, r]).op, .int .i64 (opP 4 [q, r]).imm, .int .i64 (opP 4 [q, r]).immVar, .slice A2 (opP 4 [q, r]).kids.length c2]] (by rfl) rfl rfl (by rw [← e1, ← e2]; simp only [List.map_toArray, List.map_cons, List.map_nil]; rfl) ?_
        with_reducible refine (op_calls 6 p (opP 4 [q, r]) P1 A2 d1 c2 W (Kd.C_below (Kd.C_drew hP1) hB) hd1 hC2 hk2).mono ?_
        rintro e W' ⟨A', c', rfl, hk, hC, hb⟩
        exact ⟨_, rfl, hK _ W' (RV.other _ (by decide) hb) (PatN.new hk hC)⟩
      refine FreeStepsV.cons (i := 19) (N := some 55) (bs := []) rfl rfl (by kernel_rfl) rfl rfl ?_ ?_
      · rintro vs W hB hlt h0 - K hK
        have x0' := pw_cell_below hB x0
        have x1' := pw_cell_below hB x1
        have x2' := pw_cell_below hB x2
        have x3' := pw_cell_below hB x3
        have x4' := pw_cell_below hB x4
        refine value_ (w1 := W) (v := .agg #[.int .i64 p.var, .int .i64 p.op, .int .i64 p.imm, .int .i64 p.immVar, .slice P1 p.kids.length d1]) (by rfl) rfl ?_ (hK _ W (RV.other _ (by decide) (Below.refl _ _)) (if_pos rfl))
        go_simp
        try rfl
      refine FreeStepsV.cons (i := 20) (N := some 56) (bs := []) rfl rfl (by kernel_rfl) rfl rfl ?_ ?_
      · rintro vs W hB hlt h0 - K hK
        have y0' := pw_cell_below hB y0
        have y1' := pw_cell_below hB y1
        have y2' := pw_cell_below hB y2
        have y3' := pw_cell_below hB y3
        have y4' := pw_cell_below hB y4
        refine value_ (w1 := W) (v := .agg #[.int .i64 q.var, .int .i64 q.op, .int .i64 q.imm, .int .i64 q.immVar, .slice P2 q.kids.length d2]) (by rfl) rfl ?_ (hK _ W (RV.other _ (by decide) (Below.refl _ _)) (if_pos rfl))
        go_simp
        try rfl
      refine FreeStepsV.cons (i := 21) (N := some 57) (bs := [19, 20]) rfl rfl (by kernel_rfl) rfl rfl ?_ ?_
      · rintro vs W hB hlt h0 ⟨k1, k2, _⟩ K hK
        have e1 := Known.is k1 rfl
        have e2 := Known.is k2 rfl
        refine goes_ Try.func21 (by kernel_rfl) rfl #[.int .i64 6, .agg #[.int .i64 p.var, .int .i64 p.op, .int .i64 p.imm, .int .i64 p.immVar, .slice P1 p.kids.length d1], .agg #[.int .i64 q.var, .int .i64 q.op, .int .i64 q.imm, .int .i64 q.immVar, .slice P2 q.kids.length d2]] (by rfl) rfl rfl (by rw [← e1, ← e2]; simp only [List.map_toArray, List.map_cons, List.map_nil]; rfl) ?_
        with_reducible refine (op_calls 6 p q P1 P2 d1 d2 W (Kd.C_below (Kd.C_drew hP1) hB) hd1 (Kd.C_below (Kd.C_drew hP2) hB) hd2).mono ?_
        rintro e W' ⟨A', c', rfl, hk, hC, hb⟩
        exact ⟨_, rfl, hK _ W' (RV.other _ (by decide) hb) (PatN.new hk hC)⟩
      refine FreeStepsV.cons (i := 22) (N := some 58) (bs := []) rfl rfl (by kernel_rfl) rfl rfl ?_ ?_
      · rintro vs W hB hlt h0 - K hK
        have x0' := pw_cell_below hB x0
        have x1' := pw_cell_below hB x1
        have x2' := pw_cell_below hB x2
        have x3' := pw_cell_below hB x3
        have x4' := pw_cell_below hB x4
        refine value_ (w1 := W) (v := .agg #[.int .i64 p.var, .int .i64 p.op, .int .i64 p.imm, .int .i64 p.immVar, .slice P1 p.kids.length d1]) (by rfl) rfl ?_ (hK _ W (RV.other _ (by decide) (Below.refl _ _)) (if_pos rfl))
        go_simp
        try rfl
      refine FreeStepsV.cons (i := 23) (N := some 59) (bs := []) rfl rfl (by kernel_rfl) rfl rfl ?_ ?_
      · rintro vs W hB hlt h0 - K hK
        have z0' := pw_cell_below hB z0
        have z1' := pw_cell_below hB z1
        have z2' := pw_cell_below hB z2
        have z3' := pw_cell_below hB z3
        have z4' := pw_cell_below hB z4
        refine value_ (w1 := W) (v := .agg #[.int .i64 r.var, .int .i64 r.op, .int .i64 r.imm, .int .i64 r.immVar, .slice P3 r.kids.length d3]) (by rfl) rfl ?_ (hK _ W (RV.other _ (by decide) (Below.refl _ _)) (if_pos rfl))
        go_simp
        try rfl
      refine FreeStepsV.cons (i := 24) (N := some 60) (bs := [22, 23]) rfl rfl (by kernel_rfl) rfl rfl ?_ ?_
      · rintro vs W hB hlt h0 ⟨k1, k2, _⟩ K hK
        have e1 := Known.is k1 rfl
        have e2 := Known.is k2 rfl
        refine goes_ Try.func21 (by kernel_rfl) rfl #[.int .i64 6, .agg #[.int .i64 p.var, .int .i64 p.op, .int .i64 p.imm, .int .i64 p.immVar, .slice P1 p.kids.length d1], .agg #[.int .i64 r.var, .int .i64 r.op, .int .i64 r.imm, .int .i64 r.immVar, .slice P3 r.kids.length d3]] (by rfl) rfl rfl (by rw [← e1, ← e2]; simp only [List.map_toArray, List.map_cons, List.map_nil]; rfl) ?_
        with_reducible refine (op_calls 6 p r P1 P3 d1 d3 W (Kd.C_below (Kd.C_drew hP1) hB) hd1 (Kd.C_below (Kd.C_drew hP3) hB) hd3).mono ?_
        rintro e W' ⟨A', c', rfl, hk, hC, hb⟩
        exact ⟨_, rfl, hK _ W' (RV.other _ (by decide) hb) (PatN.new hk hC)⟩
      refine FreeStepsV.cons (i := 25) (N := some 61) (bs := [21, 24]) rfl rfl (by kernel_rfl) rfl rfl ?_ ?_
      · rintro vs W hB hlt h0 ⟨k1, k2, _⟩ K hK
        obtain ⟨A1, c1, e1, hk1, hC1⟩ := Known.patN k1 rfl
        obtain ⟨A2, c2, e2, hk2, hC2⟩ := Known.patN k2 rfl
        refine goes_ Try.func21 (by kernel_rfl) rfl #[.int .i64 4, .agg #[.int .i64 (opP 6 [p, q]).var, .int .i64 (opP 6 [p, q]).op, .int .i64 (opP 6 [p, q]).imm, .int .i64 (opP 6 [p, q]).immVar, .slice A1 (opP 6 [p, q]).kids.length c1], .agg #[.int .i64 (opP 6 [p, r]).var, .int .i64 (opP 6 [p, r]).op, .int .i64 (opP 6 [p, r]).imm, .int .i64 (opP 6 [p, r]).immVar, .slice A2 (opP 6 [p, r]).kids.length c2]] (by rfl) rfl rfl (by rw [← e1, ← e2]; simp only [List.map_toArray, List.map_cons, List.map_nil]; rfl) ?_
        with_reducible refine (op_calls 4 (opP 6 [p, q]) (opP 6 [p, r]) A1 A2 c1 c2 W hC1 hk1 hC2 hk2).mono ?_
        rintro e W' ⟨A', c', rfl, hk, hC, hb⟩
        exact ⟨_, rfl, hK _ W' (RV.other _ (by decide) hb) (PatN.new hk hC)⟩
      refine FreeStepsV.cons (i := 26) (N := some 62) (bs := [18, 25]) rfl rfl (by kernel_rfl) rfl rfl ?_ ?_
      · rintro vs W hB hlt h0 ⟨k1, k2, _⟩ K hK
        obtain ⟨A1, c1, e1, hk1, hC1⟩ := Known.patN k1 rfl
        obtain ⟨A2, c2, e2, hk2, hC2⟩ := Known.patN k2 rfl
        refine value_ (w1 := W) (v := .agg #[.int .i64 (opP 6 [p, (opP 4 [q, r])]).var, .int .i64 (opP 6 [p, (opP 4 [q, r])]).op, .int .i64 (opP 6 [p, (opP 4 [q, r])]).imm, .int .i64 (opP 6 [p, (opP 4 [q, r])]).immVar, .slice A1 (opP 6 [p, (opP 4 [q, r])]).kids.length c1, .int .i64 (opP 4 [(opP 6 [p, q]), (opP 6 [p, r])]).var, .int .i64 (opP 4 [(opP 6 [p, q]), (opP 6 [p, r])]).op, .int .i64 (opP 4 [(opP 6 [p, q]), (opP 6 [p, r])]).imm, .int .i64 (opP 4 [(opP 6 [p, q]), (opP 6 [p, r])]).immVar, .slice A2 (opP 4 [(opP 6 [p, q]), (opP 6 [p, r])]).kids.length c2]) (by rfl) rfl ?_ (hK _ W (RV.other _ (by decide) (Below.refl _ _)) ⟨_, _, _, _, if_pos rfl, hk1, hk2, hC1, hC2⟩)
        simp only [e1, e2]
        kernel_rfl
      refine FreeStepsV.cons (i := 27) (N := some 63) (bs := []) rfl rfl (by kernel_rfl) rfl rfl ?_ ?_
      · rintro vs W hB hlt h0 - K hK
        have x0' := pw_cell_below hB x0
        have x1' := pw_cell_below hB x1
        have x2' := pw_cell_below hB x2
        have x3' := pw_cell_below hB x3
        have x4' := pw_cell_below hB x4
        refine value_ (w1 := W) (v := .agg #[.int .i64 p.var, .int .i64 p.op, .int .i64 p.imm, .int .i64 p.immVar, .slice P1 p.kids.length d1]) (by rfl) rfl ?_ (hK _ W (RV.other _ (by decide) (Below.refl _ _)) (if_pos rfl))
        go_simp
        try rfl
      refine FreeStepsV.cons (i := 28) (N := some 64) (bs := []) rfl rfl (by kernel_rfl) rfl rfl ?_ ?_
      · rintro vs W hB hlt h0 - K hK
        have y0' := pw_cell_below hB y0
        have y1' := pw_cell_below hB y1
        have y2' := pw_cell_below hB y2
        have y3' := pw_cell_below hB y3
        have y4' := pw_cell_below hB y4
        refine value_ (w1 := W) (v := .agg #[.int .i64 q.var, .int .i64 q.op, .int .i64 q.imm, .int .i64 q.immVar, .slice P2 q.kids.length d2]) (by rfl) rfl ?_ (hK _ W (RV.other _ (by decide) (Below.refl _ _)) (if_pos rfl))
        go_simp
        try rfl
      refine FreeStepsV.cons (i := 29) (N := some 65) (bs := [27, 28]) rfl rfl (by kernel_rfl) rfl rfl ?_ ?_
      · rintro vs W hB hlt h0 ⟨k1, k2, _⟩ K hK
        have e1 := Known.is k1 rfl
        have e2 := Known.is k2 rfl
        refine goes_ Try.func21 (by kernel_rfl) rfl #[.int .i64 5, .agg #[.int .i64 p.var, .int .i64 p.op, .int .i64 p.imm, .int .i64 p.immVar, .slice P1 p.kids.length d1], .agg #[.int .i64 q.var, .int .i64 q.op, .int .i64 q.imm, .int .i64 q.immVar, .slice P2 q.kids.length d2]] (by rfl) rfl rfl (by rw [← e1, ← e2]; simp only [List.map_toArray, List.map_cons, List.map_nil]; rfl) ?_
        with_reducible refine (op_calls 5 p q P1 P2 d1 d2 W (Kd.C_below (Kd.C_drew hP1) hB) hd1 (Kd.C_below (Kd.C_drew hP2) hB) hd2).mono ?_
        rintro e W' ⟨A', c', rfl, hk, hC, hb⟩
        exact ⟨_, rfl, hK _ W' (RV.other _ (by decide) hb) (PatN.new hk hC)⟩
      refine FreeStepsV.cons (i := 30) (N := some 66) (bs := []) rfl rfl (by kernel_rfl) rfl rfl ?_ ?_
      · rintro vs W hB hlt h0 - K hK
        have x0' := pw_cell_below hB x0
        have x1' := pw_cell_below hB x1
        have x2' := pw_cell_below hB x2
        have x3' := pw_cell_below hB x3
        have x4' := pw_cell_below hB x4
        refine value_ (w1 := W) (v := .agg #[.int .i64 p.var, .int .i64 p.op, .int .i64 p.imm, .int .i64 p.immVar, .slice P1 p.kids.length d1]) (by rfl) rfl ?_ (hK _ W (RV.other _ (by decide) (Below.refl _ _)) (if_pos rfl))
        go_simp
        try rfl
      refine FreeStepsV.cons (i := 31) (N := some 67) (bs := []) rfl rfl (by kernel_rfl) rfl rfl ?_ ?_
      · rintro vs W hB hlt h0 - K hK
        have y0' := pw_cell_below hB y0
        have y1' := pw_cell_below hB y1
        have y2' := pw_cell_below hB y2
        have y3' := pw_cell_below hB y3
        have y4' := pw_cell_below hB y4
        refine value_ (w1 := W) (v := .agg #[.int .i64 q.var, .int .i64 q.op, .int .i64 q.imm, .int .i64 q.immVar, .slice P2 q.kids.length d2]) (by rfl) rfl ?_ (hK _ W (RV.other _ (by decide) (Below.refl _ _)) (if_pos rfl))
        go_simp
        try rfl
      refine FreeStepsV.cons (i := 32) (N := some 68) (bs := [31]) rfl rfl (by kernel_rfl) rfl rfl ?_ ?_
      · rintro vs W hB hlt h0 ⟨k1, _⟩ K hK
        have e1 := Known.is k1 rfl
        refine value_ (w1 := W.alloc (.cells #[.int .i64 q.var, .int .i64 q.op, .int .i64 q.imm, .int .i64 q.immVar, .slice P2 q.kids.length d2] 24)) (v := .slice (some ⟨W.heap.size, 0, none⟩) 1 1) (by rfl) rfl ?_ (hK _ _ (RV.other _ (by decide) ((Below.refl _ _).alloc (Nat.le_refl _) _)) ⟨W.heap.size, if_pos rfl, C_new kPat W [q] _ 24 (Reps.c5 (kPat_mk W q hd2 (Kd.C_below (Kd.C_drew hP2) hB)) (Reps.none _ _)) (by simp)⟩)
        simp only [e1]
        go_simp
        try rfl
      refine FreeStepsV.cons (i := 33) (N := some 69) (bs := [32]) rfl rfl (by kernel_rfl) rfl rfl ?_ ?_
      · rintro vs W hB hlt h0 ⟨k1, _⟩ K hK
        obtain ⟨g1, e1, hC1⟩ := Known.litC k1 rfl
        refine value_ (w1 := W) (v := .agg #[.int .i64 0, .int .i64 20, .int .i64 0, .int .i64 0, .slice (some ⟨g1, 0, none⟩) 1 1]) (by rfl) rfl ?_ (hK _ W (RV.other _ (by decide) (Below.refl _ _)) (PatN.new (p := (unP 20 q)) (A := some ⟨g1, 0, none⟩) (c := 1) (Nat.le_refl _) hC1))
        simp only [e1]
        kernel_rfl
      refine FreeStepsV.cons (i := 34) (N := some 70) (bs := [30, 33]) rfl rfl (by kernel_rfl) rfl rfl ?_ ?_
      · rintro vs W hB hlt h0 ⟨k1, k2, _⟩ K hK
        have e1 := Known.is k1 rfl
        obtain ⟨A2, c2, e2, hk2, hC2⟩ := Known.patN k2 rfl
        refine goes_ Try.func21 (by kernel_rfl) rfl #[.int .i64 4, .agg #[.int .i64 p.var, .int .i64 p.op, .int .i64 p.imm, .int .i64 p.immVar, .slice P1 p.kids.length d1], .agg #[.int .i64 (unP 20 q).var, .int .i64 (unP 20 q).op, .int .i64 (unP 20 q).imm, .int .i64 (unP 20 q).immVar, .slice A2 (unP 20 q).kids.length c2]] (by rfl) rfl rfl (by rw [← e1, ← e2]; simp only [List.map_toArray, List.map_cons, List.map_nil]; rfl) ?_
        with_reducible refine (op_calls 4 p (unP 20 q) P1 A2 d1 c2 W (Kd.C_below (Kd.C_drew hP1) hB) hd1 hC2 hk2).mono ?_
        rintro e W' ⟨A', c', rfl, hk, hC, hb⟩
        exact ⟨_, rfl, hK _ W' (RV.other _ (by decide) hb) (PatN.new hk hC)⟩
      refine FreeStepsV.cons (i := 35) (N := some 71) (bs := [29, 34]) rfl rfl (by kernel_rfl) rfl rfl ?_ ?_
      · rintro vs W hB hlt h0 ⟨k1, k2, _⟩ K hK
        obtain ⟨A1, c1, e1, hk1, hC1⟩ := Known.patN k1 rfl
        obtain ⟨A2, c2, e2, hk2, hC2⟩ := Known.patN k2 rfl
        refine value_ (w1 := W) (v := .agg #[.int .i64 (opP 5 [p, q]).var, .int .i64 (opP 5 [p, q]).op, .int .i64 (opP 5 [p, q]).imm, .int .i64 (opP 5 [p, q]).immVar, .slice A1 (opP 5 [p, q]).kids.length c1, .int .i64 (opP 4 [p, (unP 20 q)]).var, .int .i64 (opP 4 [p, (unP 20 q)]).op, .int .i64 (opP 4 [p, (unP 20 q)]).imm, .int .i64 (opP 4 [p, (unP 20 q)]).immVar, .slice A2 (opP 4 [p, (unP 20 q)]).kids.length c2]) (by rfl) rfl ?_ (hK _ W (RV.other _ (by decide) (Below.refl _ _)) ⟨_, _, _, _, if_pos rfl, hk1, hk2, hC1, hC2⟩)
        simp only [e1, e2]
        kernel_rfl
      refine FreeStepsV.cons (i := 36) (N := some 72) (bs := []) rfl rfl (by kernel_rfl) rfl rfl ?_ ?_
      · rintro vs W hB hlt h0 - K hK
        have x0' := pw_cell_below hB x0
        have x1' := pw_cell_below hB x1
        have x2' := pw_cell_below hB x2
        have x3' := pw_cell_below hB x3
        have x4' := pw_cell_below hB x4
        refine value_ (w1 := W) (v := .agg #[.int .i64 p.var, .int .i64 p.op, .int .i64 p.imm, .int .i64 p.immVar, .slice P1 p.kids.length d1]) (by rfl) rfl ?_ (hK _ W (RV.other _ (by decide) (Below.refl _ _)) (if_pos rfl))
        go_simp
        try rfl
      refine FreeStepsV.cons (i := 37) (N := some 73) (bs := []) rfl rfl (by kernel_rfl) rfl rfl ?_ ?_
      · rintro vs W hB hlt h0 - K hK
        have y0' := pw_cell_below hB y0
        have y1' := pw_cell_below hB y1
        have y2' := pw_cell_below hB y2
        have y3' := pw_cell_below hB y3
        have y4' := pw_cell_below hB y4
        refine value_ (w1 := W) (v := .agg #[.int .i64 q.var, .int .i64 q.op, .int .i64 q.imm, .int .i64 q.immVar, .slice P2 q.kids.length d2]) (by rfl) rfl ?_ (hK _ W (RV.other _ (by decide) (Below.refl _ _)) (if_pos rfl))
        go_simp
        try rfl
      refine FreeStepsV.cons (i := 38) (N := some 74) (bs := [36, 37]) rfl rfl (by kernel_rfl) rfl rfl ?_ ?_
      · rintro vs W hB hlt h0 ⟨k1, k2, _⟩ K hK
        have e1 := Known.is k1 rfl
        have e2 := Known.is k2 rfl
        refine goes_ Try.func21 (by kernel_rfl) rfl #[.int .i64 6, .agg #[.int .i64 p.var, .int .i64 p.op, .int .i64 p.imm, .int .i64 p.immVar, .slice P1 p.kids.length d1], .agg #[.int .i64 q.var, .int .i64 q.op, .int .i64 q.imm, .int .i64 q.immVar, .slice P2 q.kids.length d2]] (by rfl) rfl rfl (by rw [← e1, ← e2]; simp only [List.map_toArray, List.map_cons, List.map_nil]; rfl) ?_
        with_reducible refine (op_calls 6 p q P1 P2 d1 d2 W (Kd.C_below (Kd.C_drew hP1) hB) hd1 (Kd.C_below (Kd.C_drew hP2) hB) hd2).mono ?_
        rintro e W' ⟨A', c', rfl, hk, hC, hb⟩
        exact ⟨_, rfl, hK _ W' (RV.other _ (by decide) hb) (PatN.new hk hC)⟩
      refine FreeStepsV.cons (i := 39) (N := some 75) (bs := []) rfl rfl (by kernel_rfl) rfl rfl ?_ ?_
      · rintro vs W hB hlt h0 - K hK
        have z0' := pw_cell_below hB z0
        have z1' := pw_cell_below hB z1
        have z2' := pw_cell_below hB z2
        have z3' := pw_cell_below hB z3
        have z4' := pw_cell_below hB z4
        refine value_ (w1 := W) (v := .agg #[.int .i64 r.var, .int .i64 r.op, .int .i64 r.imm, .int .i64 r.immVar, .slice P3 r.kids.length d3]) (by rfl) rfl ?_ (hK _ W (RV.other _ (by decide) (Below.refl _ _)) (if_pos rfl))
        go_simp
        try rfl
      refine FreeStepsV.cons (i := 40) (N := some 76) (bs := [38, 39]) rfl rfl (by kernel_rfl) rfl rfl ?_ ?_
      · rintro vs W hB hlt h0 ⟨k1, k2, _⟩ K hK
        obtain ⟨A1, c1, e1, hk1, hC1⟩ := Known.patN k1 rfl
        have e2 := Known.is k2 rfl
        refine goes_ Try.func21 (by kernel_rfl) rfl #[.int .i64 6, .agg #[.int .i64 (opP 6 [p, q]).var, .int .i64 (opP 6 [p, q]).op, .int .i64 (opP 6 [p, q]).imm, .int .i64 (opP 6 [p, q]).immVar, .slice A1 (opP 6 [p, q]).kids.length c1], .agg #[.int .i64 r.var, .int .i64 r.op, .int .i64 r.imm, .int .i64 r.immVar, .slice P3 r.kids.length d3]] (by rfl) rfl rfl (by rw [← e1, ← e2]; simp only [List.map_toArray, List.map_cons, List.map_nil]; rfl) ?_
        with_reducible refine (op_calls 6 (opP 6 [p, q]) r A1 P3 c1 d3 W hC1 hk1 (Kd.C_below (Kd.C_drew hP3) hB) hd3).mono ?_
        rintro e W' ⟨A', c', rfl, hk, hC, hb⟩
        exact ⟨_, rfl, hK _ W' (RV.other _ (by decide) hb) (PatN.new hk hC)⟩
      refine FreeStepsV.cons (i := 41) (N := some 77) (bs := []) rfl rfl (by kernel_rfl) rfl rfl ?_ ?_
      · rintro vs W hB hlt h0 - K hK
        have x0' := pw_cell_below hB x0
        have x1' := pw_cell_below hB x1
        have x2' := pw_cell_below hB x2
        have x3' := pw_cell_below hB x3
        have x4' := pw_cell_below hB x4
        refine value_ (w1 := W) (v := .agg #[.int .i64 p.var, .int .i64 p.op, .int .i64 p.imm, .int .i64 p.immVar, .slice P1 p.kids.length d1]) (by rfl) rfl ?_ (hK _ W (RV.other _ (by decide) (Below.refl _ _)) (if_pos rfl))
        go_simp
        try rfl
      refine FreeStepsV.cons (i := 42) (N := some 78) (bs := []) rfl rfl (by kernel_rfl) rfl rfl ?_ ?_
      · rintro vs W hB hlt h0 - K hK
        have y0' := pw_cell_below hB y0
        have y1' := pw_cell_below hB y1
        have y2' := pw_cell_below hB y2
        have y3' := pw_cell_below hB y3
        have y4' := pw_cell_below hB y4
        refine value_ (w1 := W) (v := .agg #[.int .i64 q.var, .int .i64 q.op, .int .i64 q.imm, .int .i64 q.immVar, .slice P2 q.kids.length d2]) (by rfl) rfl ?_ (hK _ W (RV.other _ (by decide) (Below.refl _ _)) (if_pos rfl))
        go_simp
        try rfl
      refine FreeStepsV.cons (i := 43) (N := some 79) (bs := []) rfl rfl (by kernel_rfl) rfl rfl ?_ ?_
      · rintro vs W hB hlt h0 - K hK
        have z0' := pw_cell_below hB z0
        have z1' := pw_cell_below hB z1
        have z2' := pw_cell_below hB z2
        have z3' := pw_cell_below hB z3
        have z4' := pw_cell_below hB z4
        refine value_ (w1 := W) (v := .agg #[.int .i64 r.var, .int .i64 r.op, .int .i64 r.imm, .int .i64 r.immVar, .slice P3 r.kids.length d3]) (by rfl) rfl ?_ (hK _ W (RV.other _ (by decide) (Below.refl _ _)) (if_pos rfl))
        go_simp
        try rfl
      refine FreeStepsV.cons (i := 44) (N := some 80) (bs := [42, 43]) rfl rfl (by kernel_rfl) rfl rfl ?_ ?_
      · rintro vs W hB hlt h0 ⟨k1, k2, _⟩ K hK
        have e1 := Known.is k1 rfl
        have e2 := Known.is k2 rfl
        refine goes_ Try.func21 (by kernel_rfl) rfl #[.int .i64 6, .agg #[.int .i64 q.var, .int .i64 q.op, .int .i64 q.imm, .int .i64 q.immVar, .slice P2 q.kids.length d2], .agg #[.int .i64 r.var, .int .i64 r.op, .int .i64 r.imm, .int .i64 r.immVar, .slice P3 r.kids.length d3]] (by rfl) rfl rfl (by rw [← e1, ← e2]; simp only [List.map_toArray, List.map_cons, List.map_nil]; rfl) ?_
        with_reducible refine (op_calls 6 q r P2 P3 d2 d3 W (Kd.C_below (Kd.C_drew hP2) hB) hd2 (Kd.C_below (Kd.C_drew hP3) hB) hd3).mono ?_
        rintro e W' ⟨A', c', rfl, hk, hC, hb⟩
        exact ⟨_, rfl, hK _ W' (RV.other _ (by decide) hb) (PatN.new hk hC)⟩
      refine FreeStepsV.cons (i := 45) (N := some 81) (bs := [41, 44]) rfl rfl (by kernel_rfl) rfl rfl ?_ ?_
      · rintro vs W hB hlt h0 ⟨k1, k2, _⟩ K hK
        have e1 := Known.is k1 rfl
        obtain ⟨A2, c2, e2, hk2, hC2⟩ := Known.patN k2 rfl
        refine goes_ Try.func21 (by kernel_rfl) rfl #[.int .i64 6, .agg #[.int .i64 p.var, .int .i64 p.op, .int .i64 p.imm, .int .i64 p.immVar, .slice P1 p.kids.length d1], .agg #[.int .i64 (opP 6 [q, r]).var, .int .i64 (opP 6 [q, r]).op, .int .i64 (opP 6 [q, r]).imm, .int .i64 (opP 6 [q, r]).immVar, .slice A2 (opP 6 [q, r]).kids.length c2]] (by rfl) rfl rfl (by rw [← e1, ← e2]; simp only [List.map_toArray, List.map_cons, List.map_nil]; rfl) ?_
        with_reducible refine (op_calls 6 p (opP 6 [q, r]) P1 A2 d1 c2 W (Kd.C_below (Kd.C_drew hP1) hB) hd1 hC2 hk2).mono ?_
        rintro e W' ⟨A', c', rfl, hk, hC, hb⟩
        exact ⟨_, rfl, hK _ W' (RV.other _ (by decide) hb) (PatN.new hk hC)⟩
      refine FreeStepsV.cons (i := 46) (N := some 82) (bs := [40, 45]) rfl rfl (by kernel_rfl) rfl rfl ?_ ?_
      · rintro vs W hB hlt h0 ⟨k1, k2, _⟩ K hK
        obtain ⟨A1, c1, e1, hk1, hC1⟩ := Known.patN k1 rfl
        obtain ⟨A2, c2, e2, hk2, hC2⟩ := Known.patN k2 rfl
        refine value_ (w1 := W) (v := .agg #[.int .i64 (opP 6 [(opP 6 [p, q]), r]).var, .int .i64 (opP 6 [(opP 6 [p, q]), r]).op, .int .i64 (opP 6 [(opP 6 [p, q]), r]).imm, .int .i64 (opP 6 [(opP 6 [p, q]), r]).immVar, .slice A1 (opP 6 [(opP 6 [p, q]), r]).kids.length c1, .int .i64 (opP 6 [p, (opP 6 [q, r])]).var, .int .i64 (opP 6 [p, (opP 6 [q, r])]).op, .int .i64 (opP 6 [p, (opP 6 [q, r])]).imm, .int .i64 (opP 6 [p, (opP 6 [q, r])]).immVar, .slice A2 (opP 6 [p, (opP 6 [q, r])]).kids.length c2]) (by rfl) rfl ?_ (hK _ W (RV.other _ (by decide) (Below.refl _ _)) ⟨_, _, _, _, if_pos rfl, hk1, hk2, hC1, hC2⟩)
        simp only [e1, e2]
        kernel_rfl
      refine FreeStepsV.cons (i := 47) (N := some 83) (bs := []) rfl rfl (by kernel_rfl) rfl rfl ?_ ?_
      · rintro vs W hB hlt h0 - K hK
        have x0' := pw_cell_below hB x0
        have x1' := pw_cell_below hB x1
        have x2' := pw_cell_below hB x2
        have x3' := pw_cell_below hB x3
        have x4' := pw_cell_below hB x4
        refine value_ (w1 := W) (v := .agg #[.int .i64 p.var, .int .i64 p.op, .int .i64 p.imm, .int .i64 p.immVar, .slice P1 p.kids.length d1]) (by rfl) rfl ?_ (hK _ W (RV.other _ (by decide) (Below.refl _ _)) (if_pos rfl))
        go_simp
        try rfl
      refine FreeStepsV.cons (i := 48) (N := some 84) (bs := []) rfl rfl (by kernel_rfl) rfl rfl ?_ ?_
      · rintro vs W hB hlt h0 - K hK
        have y0' := pw_cell_below hB y0
        have y1' := pw_cell_below hB y1
        have y2' := pw_cell_below hB y2
        have y3' := pw_cell_below hB y3
        have y4' := pw_cell_below hB y4
        refine value_ (w1 := W) (v := .agg #[.int .i64 q.var, .int .i64 q.op, .int .i64 q.imm, .int .i64 q.immVar, .slice P2 q.kids.length d2]) (by rfl) rfl ?_ (hK _ W (RV.other _ (by decide) (Below.refl _ _)) (if_pos rfl))
        go_simp
        try rfl
      refine FreeStepsV.cons (i := 49) (N := some 85) (bs := [47, 48]) rfl rfl (by kernel_rfl) rfl rfl ?_ ?_
      · rintro vs W hB hlt h0 ⟨k1, k2, _⟩ K hK
        have e1 := Known.is k1 rfl
        have e2 := Known.is k2 rfl
        refine goes_ Try.func21 (by kernel_rfl) rfl #[.int .i64 5, .agg #[.int .i64 p.var, .int .i64 p.op, .int .i64 p.imm, .int .i64 p.immVar, .slice P1 p.kids.length d1], .agg #[.int .i64 q.var, .int .i64 q.op, .int .i64 q.imm, .int .i64 q.immVar, .slice P2 q.kids.length d2]] (by rfl) rfl rfl (by rw [← e1, ← e2]; simp only [List.map_toArray, List.map_cons, List.map_nil]; rfl) ?_
        with_reducible refine (op_calls 5 p q P1 P2 d1 d2 W (Kd.C_below (Kd.C_drew hP1) hB) hd1 (Kd.C_below (Kd.C_drew hP2) hB) hd2).mono ?_
        rintro e W' ⟨A', c', rfl, hk, hC, hb⟩
        exact ⟨_, rfl, hK _ W' (RV.other _ (by decide) hb) (PatN.new hk hC)⟩
      refine FreeStepsV.cons (i := 50) (N := some 86) (bs := [49]) rfl rfl (by kernel_rfl) rfl rfl ?_ ?_
      · rintro vs W hB hlt h0 ⟨k1, _⟩ K hK
        obtain ⟨A1, c1, e1, hk1, hC1⟩ := Known.patN k1 rfl
        refine value_ (w1 := W.alloc (.cells #[.int .i64 (opP 5 [p, q]).var, .int .i64 (opP 5 [p, q]).op, .int .i64 (opP 5 [p, q]).imm, .int .i64 (opP 5 [p, q]).immVar, .slice A1 (opP 5 [p, q]).kids.length c1] 24)) (v := .slice (some ⟨W.heap.size, 0, none⟩) 1 1) (by rfl) rfl ?_ (hK _ _ (RV.other _ (by decide) ((Below.refl _ _).alloc (Nat.le_refl _) _)) ⟨W.heap.size, if_pos rfl, C_new kPat W [(opP 5 [p, q])] _ 24 (Reps.c5 (kPat_mk W (opP 5 [p, q]) hk1 hC1) (Reps.none _ _)) (by simp)⟩)
        simp only [e1]
        go_simp
        try rfl
      refine FreeStepsV.cons (i := 51) (N := some 87) (bs := [50]) rfl rfl (by kernel_rfl) rfl rfl ?_ ?_
      · rintro vs W hB hlt h0 ⟨k1, _⟩ K hK
        obtain ⟨g1, e1, hC1⟩ := Known.litC k1 rfl
        refine value_ (w1 := W) (v := .agg #[.int .i64 0, .int .i64 21, .int .i64 0, .int .i64 0, .slice (some ⟨g1, 0, none⟩) 1 1]) (by rfl) rfl ?_ (hK _ W (RV.other _ (by decide) (Below.refl _ _)) (PatN.new (p := (unP 21 (opP 5 [p, q]))) (A := some ⟨g1, 0, none⟩) (c := 1) (Nat.le_refl _) hC1))
        simp only [e1]
        kernel_rfl
      refine FreeStepsV.cons (i := 52) (N := some 88) (bs := []) rfl rfl (by kernel_rfl) rfl rfl ?_ ?_
      · rintro vs W hB hlt h0 - K hK
        have y0' := pw_cell_below hB y0
        have y1' := pw_cell_below hB y1
        have y2' := pw_cell_below hB y2
        have y3' := pw_cell_below hB y3
        have y4' := pw_cell_below hB y4
        refine value_ (w1 := W) (v := .agg #[.int .i64 q.var, .int .i64 q.op, .int .i64 q.imm, .int .i64 q.immVar, .slice P2 q.kids.length d2]) (by rfl) rfl ?_ (hK _ W (RV.other _ (by decide) (Below.refl _ _)) (if_pos rfl))
        go_simp
        try rfl
      refine FreeStepsV.cons (i := 53) (N := some 89) (bs := []) rfl rfl (by kernel_rfl) rfl rfl ?_ ?_
      · rintro vs W hB hlt h0 - K hK
        have x0' := pw_cell_below hB x0
        have x1' := pw_cell_below hB x1
        have x2' := pw_cell_below hB x2
        have x3' := pw_cell_below hB x3
        have x4' := pw_cell_below hB x4
        refine value_ (w1 := W) (v := .agg #[.int .i64 p.var, .int .i64 p.op, .int .i64 p.imm, .int .i64 p.immVar, .slice P1 p.kids.length d1]) (by rfl) rfl ?_ (hK _ W (RV.other _ (by decide) (Below.refl _ _)) (if_pos rfl))
        go_simp
        try rfl
      refine FreeStepsV.cons (i := 54) (N := some 90) (bs := []) rfl rfl (by kernel_rfl) rfl rfl ?_ ?_
      · rintro vs W hB hlt h0 - K hK
        refine value_ (w1 := W) (v := .agg #[.int .i64 0, .int .i64 1, .int .i64 1, .int .i64 0, .slice none 0 0]) (by rfl) rfl ?_ (hK _ W (RV.other _ (by decide) (Below.refl _ _)) (PatN.new (p := constP 1) (A := none) (c := 0) (Nat.le_refl _) (Kd.C_nil _ _)))
        kernel_rfl
      refine FreeStepsV.cons (i := 55) (N := some 91) (bs := [53, 54]) rfl rfl (by kernel_rfl) rfl rfl ?_ ?_
      · rintro vs W hB hlt h0 ⟨k1, k2, _⟩ K hK
        have e1 := Known.is k1 rfl
        obtain ⟨A2, c2, e2, hk2, hC2⟩ := Known.patN k2 rfl
        refine goes_ Try.func21 (by kernel_rfl) rfl #[.int .i64 4, .agg #[.int .i64 p.var, .int .i64 p.op, .int .i64 p.imm, .int .i64 p.immVar, .slice P1 p.kids.length d1], .agg #[.int .i64 (constP 1).var, .int .i64 (constP 1).op, .int .i64 (constP 1).imm, .int .i64 (constP 1).immVar, .slice A2 (constP 1).kids.length c2]] (by rfl) rfl rfl (by rw [← e1, ← e2]; simp only [List.map_toArray, List.map_cons, List.map_nil]; rfl) ?_
        with_reducible refine (op_calls 4 p (constP 1) P1 A2 d1 c2 W (Kd.C_below (Kd.C_drew hP1) hB) hd1 hC2 hk2).mono ?_
        rintro e W' ⟨A', c', rfl, hk, hC, hb⟩
        exact ⟨_, rfl, hK _ W' (RV.other _ (by decide) hb) (PatN.new hk hC)⟩
      refine FreeStepsV.cons (i := 56) (N := some 92) (bs := [52, 55]) rfl rfl (by kernel_rfl) rfl rfl ?_ ?_
      · rintro vs W hB hlt h0 ⟨k1, k2, _⟩ K hK
        have e1 := Known.is k1 rfl
        obtain ⟨A2, c2, e2, hk2, hC2⟩ := Known.patN k2 rfl
        refine goes_ Try.func21 (by kernel_rfl) rfl #[.int .i64 5, .agg #[.int .i64 q.var, .int .i64 q.op, .int .i64 q.imm, .int .i64 q.immVar, .slice P2 q.kids.length d2], .agg #[.int .i64 (opP 4 [p, (constP 1)]).var, .int .i64 (opP 4 [p, (constP 1)]).op, .int .i64 (opP 4 [p, (constP 1)]).imm, .int .i64 (opP 4 [p, (constP 1)]).immVar, .slice A2 (opP 4 [p, (constP 1)]).kids.length c2]] (by rfl) rfl rfl (by rw [← e1, ← e2]; simp only [List.map_toArray, List.map_cons, List.map_nil]; rfl) ?_
        with_reducible refine (op_calls 5 q (opP 4 [p, (constP 1)]) P2 A2 d2 c2 W (Kd.C_below (Kd.C_drew hP2) hB) hd2 hC2 hk2).mono ?_
        rintro e W' ⟨A', c', rfl, hk, hC, hb⟩
        exact ⟨_, rfl, hK _ W' (RV.other _ (by decide) hb) (PatN.new hk hC)⟩
      refine FreeStepsV.cons (i := 57) (N := some 93) (bs := [51, 56]) rfl rfl (by kernel_rfl) rfl rfl ?_ ?_
      · rintro vs W hB hlt h0 ⟨k1, k2, _⟩ K hK
        obtain ⟨A1, c1, e1, hk1, hC1⟩ := Known.patN k1 rfl
        obtain ⟨A2, c2, e2, hk2, hC2⟩ := Known.patN k2 rfl
        refine value_ (w1 := W) (v := .agg #[.int .i64 (unP 21 (opP 5 [p, q])).var, .int .i64 (unP 21 (opP 5 [p, q])).op, .int .i64 (unP 21 (opP 5 [p, q])).imm, .int .i64 (unP 21 (opP 5 [p, q])).immVar, .slice A1 (unP 21 (opP 5 [p, q])).kids.length c1, .int .i64 (opP 5 [q, (opP 4 [p, (constP 1)])]).var, .int .i64 (opP 5 [q, (opP 4 [p, (constP 1)])]).op, .int .i64 (opP 5 [q, (opP 4 [p, (constP 1)])]).imm, .int .i64 (opP 5 [q, (opP 4 [p, (constP 1)])]).immVar, .slice A2 (opP 5 [q, (opP 4 [p, (constP 1)])]).kids.length c2]) (by rfl) rfl ?_ (hK _ W (RV.other _ (by decide) (Below.refl _ _)) ⟨_, _, _, _, if_pos rfl, hk1, hk2, hC1, hC2⟩)
        simp only [e1, e2]
        kernel_rfl
      refine FreeStepsV.cons (i := 58) (N := some 94) (bs := [6, 13, 26, 35, 46, 57]) rfl rfl (by kernel_rfl) rfl rfl ?_ ?_
      · rintro vs W hB hlt h0 ⟨k1, k2, k3, k4, k5, k6, _⟩ K hK
        obtain ⟨Aa0, ca0, Ab0, cb0, e0, ha0, hb0, hCa0, hCb0⟩ := Known.pairC k1 rfl
        obtain ⟨Aa1, ca1, Ab1, cb1, e1, ha1, hb1, hCa1, hCb1⟩ := Known.pairC k2 rfl
        obtain ⟨Aa2, ca2, Ab2, cb2, e2, ha2, hb2, hCa2, hCb2⟩ := Known.pairC k3 rfl
        obtain ⟨Aa3, ca3, Ab3, cb3, e3, ha3, hb3, hCa3, hCb3⟩ := Known.pairC k4 rfl
        obtain ⟨Aa4, ca4, Ab4, cb4, e4, ha4, hb4, hCa4, hCb4⟩ := Known.pairC k5 rfl
        obtain ⟨Aa5, ca5, Ab5, cb5, e5, ha5, hb5, hCa5, hCb5⟩ := Known.pairC k6 rfl
        have hbk := blk_new W (.cells #[.int .i64 (opP 4 [p, q]).var, .int .i64 (opP 4 [p, q]).op, .int .i64 (opP 4 [p, q]).imm, .int .i64 (opP 4 [p, q]).immVar, .slice Aa0 (opP 4 [p, q]).kids.length ca0, .int .i64 (opP 4 [q, p]).var, .int .i64 (opP 4 [q, p]).op, .int .i64 (opP 4 [q, p]).imm, .int .i64 (opP 4 [q, p]).immVar, .slice Ab0 (opP 4 [q, p]).kids.length cb0, .int .i64 (opP 6 [p, q]).var, .int .i64 (opP 6 [p, q]).op, .int .i64 (opP 6 [p, q]).imm, .int .i64 (opP 6 [p, q]).immVar, .slice Aa1 (opP 6 [p, q]).kids.length ca1, .int .i64 (opP 6 [q, p]).var, .int .i64 (opP 6 [q, p]).op, .int .i64 (opP 6 [q, p]).imm, .int .i64 (opP 6 [q, p]).immVar, .slice Ab1 (opP 6 [q, p]).kids.length cb1, .int .i64 (opP 6 [p, (opP 4 [q, r])]).var, .int .i64 (opP 6 [p, (opP 4 [q, r])]).op, .int .i64 (opP 6 [p, (opP 4 [q, r])]).imm, .int .i64 (opP 6 [p, (opP 4 [q, r])]).immVar, .slice Aa2 (opP 6 [p, (opP 4 [q, r])]).kids.length ca2, .int .i64 (opP 4 [(opP 6 [p, q]), (opP 6 [p, r])]).var, .int .i64 (opP 4 [(opP 6 [p, q]), (opP 6 [p, r])]).op, .int .i64 (opP 4 [(opP 6 [p, q]), (opP 6 [p, r])]).imm, .int .i64 (opP 4 [(opP 6 [p, q]), (opP 6 [p, r])]).immVar, .slice Ab2 (opP 4 [(opP 6 [p, q]), (opP 6 [p, r])]).kids.length cb2, .int .i64 (opP 5 [p, q]).var, .int .i64 (opP 5 [p, q]).op, .int .i64 (opP 5 [p, q]).imm, .int .i64 (opP 5 [p, q]).immVar, .slice Aa3 (opP 5 [p, q]).kids.length ca3, .int .i64 (opP 4 [p, (unP 20 q)]).var, .int .i64 (opP 4 [p, (unP 20 q)]).op, .int .i64 (opP 4 [p, (unP 20 q)]).imm, .int .i64 (opP 4 [p, (unP 20 q)]).immVar, .slice Ab3 (opP 4 [p, (unP 20 q)]).kids.length cb3, .int .i64 (opP 6 [(opP 6 [p, q]), r]).var, .int .i64 (opP 6 [(opP 6 [p, q]), r]).op, .int .i64 (opP 6 [(opP 6 [p, q]), r]).imm, .int .i64 (opP 6 [(opP 6 [p, q]), r]).immVar, .slice Aa4 (opP 6 [(opP 6 [p, q]), r]).kids.length ca4, .int .i64 (opP 6 [p, (opP 6 [q, r])]).var, .int .i64 (opP 6 [p, (opP 6 [q, r])]).op, .int .i64 (opP 6 [p, (opP 6 [q, r])]).imm, .int .i64 (opP 6 [p, (opP 6 [q, r])]).immVar, .slice Ab4 (opP 6 [p, (opP 6 [q, r])]).kids.length cb4, .int .i64 (unP 21 (opP 5 [p, q])).var, .int .i64 (unP 21 (opP 5 [p, q])).op, .int .i64 (unP 21 (opP 5 [p, q])).imm, .int .i64 (unP 21 (opP 5 [p, q])).immVar, .slice Aa5 (unP 21 (opP 5 [p, q])).kids.length ca5, .int .i64 (opP 5 [q, (opP 4 [p, (constP 1)])]).var, .int .i64 (opP 5 [q, (opP 4 [p, (constP 1)])]).op, .int .i64 (opP 5 [q, (opP 4 [p, (constP 1)])]).imm, .int .i64 (opP 5 [q, (opP 4 [p, (constP 1)])]).immVar, .slice Ab5 (opP 5 [q, (opP 4 [p, (constP 1)])]).kids.length cb5] 42)
        have hbw := (Below.refl W.heap.size W).alloc (Nat.le_refl _) (.cells #[.int .i64 (opP 4 [p, q]).var, .int .i64 (opP 4 [p, q]).op, .int .i64 (opP 4 [p, q]).imm, .int .i64 (opP 4 [p, q]).immVar, .slice Aa0 (opP 4 [p, q]).kids.length ca0, .int .i64 (opP 4 [q, p]).var, .int .i64 (opP 4 [q, p]).op, .int .i64 (opP 4 [q, p]).imm, .int .i64 (opP 4 [q, p]).immVar, .slice Ab0 (opP 4 [q, p]).kids.length cb0, .int .i64 (opP 6 [p, q]).var, .int .i64 (opP 6 [p, q]).op, .int .i64 (opP 6 [p, q]).imm, .int .i64 (opP 6 [p, q]).immVar, .slice Aa1 (opP 6 [p, q]).kids.length ca1, .int .i64 (opP 6 [q, p]).var, .int .i64 (opP 6 [q, p]).op, .int .i64 (opP 6 [q, p]).imm, .int .i64 (opP 6 [q, p]).immVar, .slice Ab1 (opP 6 [q, p]).kids.length cb1, .int .i64 (opP 6 [p, (opP 4 [q, r])]).var, .int .i64 (opP 6 [p, (opP 4 [q, r])]).op, .int .i64 (opP 6 [p, (opP 4 [q, r])]).imm, .int .i64 (opP 6 [p, (opP 4 [q, r])]).immVar, .slice Aa2 (opP 6 [p, (opP 4 [q, r])]).kids.length ca2, .int .i64 (opP 4 [(opP 6 [p, q]), (opP 6 [p, r])]).var, .int .i64 (opP 4 [(opP 6 [p, q]), (opP 6 [p, r])]).op, .int .i64 (opP 4 [(opP 6 [p, q]), (opP 6 [p, r])]).imm, .int .i64 (opP 4 [(opP 6 [p, q]), (opP 6 [p, r])]).immVar, .slice Ab2 (opP 4 [(opP 6 [p, q]), (opP 6 [p, r])]).kids.length cb2, .int .i64 (opP 5 [p, q]).var, .int .i64 (opP 5 [p, q]).op, .int .i64 (opP 5 [p, q]).imm, .int .i64 (opP 5 [p, q]).immVar, .slice Aa3 (opP 5 [p, q]).kids.length ca3, .int .i64 (opP 4 [p, (unP 20 q)]).var, .int .i64 (opP 4 [p, (unP 20 q)]).op, .int .i64 (opP 4 [p, (unP 20 q)]).imm, .int .i64 (opP 4 [p, (unP 20 q)]).immVar, .slice Ab3 (opP 4 [p, (unP 20 q)]).kids.length cb3, .int .i64 (opP 6 [(opP 6 [p, q]), r]).var, .int .i64 (opP 6 [(opP 6 [p, q]), r]).op, .int .i64 (opP 6 [(opP 6 [p, q]), r]).imm, .int .i64 (opP 6 [(opP 6 [p, q]), r]).immVar, .slice Aa4 (opP 6 [(opP 6 [p, q]), r]).kids.length ca4, .int .i64 (opP 6 [p, (opP 6 [q, r])]).var, .int .i64 (opP 6 [p, (opP 6 [q, r])]).op, .int .i64 (opP 6 [p, (opP 6 [q, r])]).imm, .int .i64 (opP 6 [p, (opP 6 [q, r])]).immVar, .slice Ab4 (opP 6 [p, (opP 6 [q, r])]).kids.length cb4, .int .i64 (unP 21 (opP 5 [p, q])).var, .int .i64 (unP 21 (opP 5 [p, q])).op, .int .i64 (unP 21 (opP 5 [p, q])).imm, .int .i64 (unP 21 (opP 5 [p, q])).immVar, .slice Aa5 (unP 21 (opP 5 [p, q])).kids.length ca5, .int .i64 (opP 5 [q, (opP 4 [p, (constP 1)])]).var, .int .i64 (opP 5 [q, (opP 4 [p, (constP 1)])]).op, .int .i64 (opP 5 [q, (opP 4 [p, (constP 1)])]).imm, .int .i64 (opP 5 [q, (opP 4 [p, (constP 1)])]).immVar, .slice Ab5 (opP 5 [q, (opP 4 [p, (constP 1)])]).kids.length cb5] 42)
        refine value_ (w1 := W.alloc (.cells #[.int .i64 (opP 4 [p, q]).var, .int .i64 (opP 4 [p, q]).op, .int .i64 (opP 4 [p, q]).imm, .int .i64 (opP 4 [p, q]).immVar, .slice Aa0 (opP 4 [p, q]).kids.length ca0, .int .i64 (opP 4 [q, p]).var, .int .i64 (opP 4 [q, p]).op, .int .i64 (opP 4 [q, p]).imm, .int .i64 (opP 4 [q, p]).immVar, .slice Ab0 (opP 4 [q, p]).kids.length cb0, .int .i64 (opP 6 [p, q]).var, .int .i64 (opP 6 [p, q]).op, .int .i64 (opP 6 [p, q]).imm, .int .i64 (opP 6 [p, q]).immVar, .slice Aa1 (opP 6 [p, q]).kids.length ca1, .int .i64 (opP 6 [q, p]).var, .int .i64 (opP 6 [q, p]).op, .int .i64 (opP 6 [q, p]).imm, .int .i64 (opP 6 [q, p]).immVar, .slice Ab1 (opP 6 [q, p]).kids.length cb1, .int .i64 (opP 6 [p, (opP 4 [q, r])]).var, .int .i64 (opP 6 [p, (opP 4 [q, r])]).op, .int .i64 (opP 6 [p, (opP 4 [q, r])]).imm, .int .i64 (opP 6 [p, (opP 4 [q, r])]).immVar, .slice Aa2 (opP 6 [p, (opP 4 [q, r])]).kids.length ca2, .int .i64 (opP 4 [(opP 6 [p, q]), (opP 6 [p, r])]).var, .int .i64 (opP 4 [(opP 6 [p, q]), (opP 6 [p, r])]).op, .int .i64 (opP 4 [(opP 6 [p, q]), (opP 6 [p, r])]).imm, .int .i64 (opP 4 [(opP 6 [p, q]), (opP 6 [p, r])]).immVar, .slice Ab2 (opP 4 [(opP 6 [p, q]), (opP 6 [p, r])]).kids.length cb2, .int .i64 (opP 5 [p, q]).var, .int .i64 (opP 5 [p, q]).op, .int .i64 (opP 5 [p, q]).imm, .int .i64 (opP 5 [p, q]).immVar, .slice Aa3 (opP 5 [p, q]).kids.length ca3, .int .i64 (opP 4 [p, (unP 20 q)]).var, .int .i64 (opP 4 [p, (unP 20 q)]).op, .int .i64 (opP 4 [p, (unP 20 q)]).imm, .int .i64 (opP 4 [p, (unP 20 q)]).immVar, .slice Ab3 (opP 4 [p, (unP 20 q)]).kids.length cb3, .int .i64 (opP 6 [(opP 6 [p, q]), r]).var, .int .i64 (opP 6 [(opP 6 [p, q]), r]).op, .int .i64 (opP 6 [(opP 6 [p, q]), r]).imm, .int .i64 (opP 6 [(opP 6 [p, q]), r]).immVar, .slice Aa4 (opP 6 [(opP 6 [p, q]), r]).kids.length ca4, .int .i64 (opP 6 [p, (opP 6 [q, r])]).var, .int .i64 (opP 6 [p, (opP 6 [q, r])]).op, .int .i64 (opP 6 [p, (opP 6 [q, r])]).imm, .int .i64 (opP 6 [p, (opP 6 [q, r])]).immVar, .slice Ab4 (opP 6 [p, (opP 6 [q, r])]).kids.length cb4, .int .i64 (unP 21 (opP 5 [p, q])).var, .int .i64 (unP 21 (opP 5 [p, q])).op, .int .i64 (unP 21 (opP 5 [p, q])).imm, .int .i64 (unP 21 (opP 5 [p, q])).immVar, .slice Aa5 (unP 21 (opP 5 [p, q])).kids.length ca5, .int .i64 (opP 5 [q, (opP 4 [p, (constP 1)])]).var, .int .i64 (opP 5 [q, (opP 4 [p, (constP 1)])]).op, .int .i64 (opP 5 [q, (opP 4 [p, (constP 1)])]).imm, .int .i64 (opP 5 [q, (opP 4 [p, (constP 1)])]).immVar, .slice Ab5 (opP 5 [q, (opP 4 [p, (constP 1)])]).kids.length cb5] 42)) (v := .slice (some ⟨W.heap.size, 0, none⟩) 6 6) (by rfl) rfl ?_ (hK _ _ (RV.other _ (by decide) hbw) ⟨W.heap.size, if_pos rfl, ?_⟩)
        · simp only [e0, e1, e2, e3, e4, e5]
          go_simp
          try rfl
        intro k z hz
        clear hB hlt h0 k1 k2 k3 k4 k5 k6 K hK
        match k, hz with
        | 0, hz =>
          cases hz
          exact ⟨Aa0, ca0, Ab0, cb0, (blk_cell hbk 0).trans rfl, (blk_cell hbk 1).trans rfl, (blk_cell hbk 2).trans rfl, (blk_cell hbk 3).trans rfl, (blk_cell hbk 4).trans rfl, (blk_cell hbk 5).trans rfl, (blk_cell hbk 6).trans rfl, (blk_cell hbk 7).trans rfl, (blk_cell hbk 8).trans rfl, (blk_cell hbk 9).trans rfl, ha0, hb0, Kd.C_below hCa0 hbw, Kd.C_below hCb0 hbw⟩
        | 1, hz =>
          cases hz
          exact ⟨Aa1, ca1, Ab1, cb1, (blk_cell hbk 10).trans rfl, (blk_cell hbk 11).trans rfl, (blk_cell hbk 12).trans rfl, (blk_cell hbk 13).trans rfl, (blk_cell hbk 14).trans rfl, (blk_cell hbk 15).trans rfl, (blk_cell hbk 16).trans rfl, (blk_cell hbk 17).trans rfl, (blk_cell hbk 18).trans rfl, (blk_cell hbk 19).trans rfl, ha1, hb1, Kd.C_below hCa1 hbw, Kd.C_below hCb1 hbw⟩
        | 2, hz =>
          cases hz
          exact ⟨Aa2, ca2, Ab2, cb2, (blk_cell hbk 20).trans rfl, (blk_cell hbk 21).trans rfl, (blk_cell hbk 22).trans rfl, (blk_cell hbk 23).trans rfl, (blk_cell hbk 24).trans rfl, (blk_cell hbk 25).trans rfl, (blk_cell hbk 26).trans rfl, (blk_cell hbk 27).trans rfl, (blk_cell hbk 28).trans rfl, (blk_cell hbk 29).trans rfl, ha2, hb2, Kd.C_below hCa2 hbw, Kd.C_below hCb2 hbw⟩
        | 3, hz =>
          cases hz
          exact ⟨Aa3, ca3, Ab3, cb3, (blk_cell hbk 30).trans rfl, (blk_cell hbk 31).trans rfl, (blk_cell hbk 32).trans rfl, (blk_cell hbk 33).trans rfl, (blk_cell hbk 34).trans rfl, (blk_cell hbk 35).trans rfl, (blk_cell hbk 36).trans rfl, (blk_cell hbk 37).trans rfl, (blk_cell hbk 38).trans rfl, (blk_cell hbk 39).trans rfl, ha3, hb3, Kd.C_below hCa3 hbw, Kd.C_below hCb3 hbw⟩
        | 4, hz =>
          cases hz
          exact ⟨Aa4, ca4, Ab4, cb4, (blk_cell hbk 40).trans rfl, (blk_cell hbk 41).trans rfl, (blk_cell hbk 42).trans rfl, (blk_cell hbk 43).trans rfl, (blk_cell hbk 44).trans rfl, (blk_cell hbk 45).trans rfl, (blk_cell hbk 46).trans rfl, (blk_cell hbk 47).trans rfl, (blk_cell hbk 48).trans rfl, (blk_cell hbk 49).trans rfl, ha4, hb4, Kd.C_below hCa4 hbw, Kd.C_below hCb4 hbw⟩
        | 5, hz =>
          cases hz
          exact ⟨Aa5, ca5, Ab5, cb5, (blk_cell hbk 50).trans rfl, (blk_cell hbk 51).trans rfl, (blk_cell hbk 52).trans rfl, (blk_cell hbk 53).trans rfl, (blk_cell hbk 54).trans rfl, (blk_cell hbk 55).trans rfl, (blk_cell hbk 56).trans rfl, (blk_cell hbk 57).trans rfl, (blk_cell hbk 58).trans rfl, (blk_cell hbk 59).trans rfl, ha5, hb5, Kd.C_below hCa5 hbw, Kd.C_below hCb5 hbw⟩
      refine FreeStepsV.cons (i := 59) (N := some 12) (bs := [58]) rfl rfl (by kernel_rfl) rfl rfl ?_ ?_
      · rintro vs W hB hlt h0 ⟨k1, _⟩ K hK
        obtain ⟨g, e1, hz⟩ := Known.pairs k1 rfl
        refine value_ (w1 := W) (v := .slice (some ⟨g, 0, none⟩) 6 6) (by rfl) rfl ?_ (hK _ W (RV.other _ (by decide) (Below.refl _ _)) ⟨g, if_pos rfl, hz⟩)
        simp only [e1]
        go_simp
        try rfl
      exact FreeStepsV.nil
    case hend2 =>
      intro vs W hB2 hk
      obtain ⟨_, _, _, _, _, _, _, _, _, _, _, _, _, _, _, _, _, _, _, _, _, _, _, _, _, _, _, _, _, _, _, _, _, _, _, _, _, _, _, _, _, _, _, _, _, _, _, _, _, _, _, _, _, _, _, _, _, _, _, k59, _⟩ := hk
      obtain ⟨g, e1, hz⟩ := Known.pairs k59 rfl
      simp only [e1]
      clear k59 e1
      generalize vs 0 = u0, vs 1 = u1, vs 2 = u2, vs 3 = u3, vs 4 = u4, vs 5 = u5, vs 6 = u6, vs 7 = u7, vs 8 = u8, vs 9 = u9
      have hB3 := below_then hB1 hB1.size hB2
      have pk := fun W => Pick_calls k 6 W (by decide) (by decide)
      obtain ⟨j, hj⟩ : ∃ j : Nat, (j : Int) = k % 6 := ⟨(k % 6).toNat, by omega⟩
      rw [← hj] at pk
      have hj6 : j < 6 := by omega
      obtain ⟨z, hzj⟩ : ∃ z, (lawPairs p q r)[j]? = some z := ⟨_, List.getElem?_eq_getElem (by rw [show (lawPairs p q r).length = 6 from rfl]; exact hj6)⟩
      have hzm := List.mem_of_getElem? hzj
      have hS := hsame z hzm
      have hZ := hsize z hzm
      obtain ⟨Az, cz, Bz, dz, t0, t1, t2, t3, t4, t5, t6, t7, t8, t9, kz1, kz2, hz1, hz2⟩ := hz j z hzj
      obtain ⟨z1, z2⟩ := z
      simp only at t0 t1 t2 t3 t4 t5 t6 t7 t8 t9 kz1 kz2 hz1 hz2 hS hZ
      rw [show 10 * j = j * 10 from Nat.mul_comm _ _] at t0 t1 t2 t3 t4 t5 t6 t7 t8 t9
      have ea : (Addr.mk g 0 none).add (j * 10) = ⟨g, j * 10, none⟩ := add_plain g (j * 10)
      clear hz hsame hsize hzm hzj
      go_wp2_with fail
      refine (pk _).mono ?_
      rintro e w' ⟨rfl, hw'⟩
      subst hw'
      clear hj
      have v1 := fun W (h : kPat.C W Az z1.kids.length z1.kids) => refValid_calls z1 3 0 Az cz W h kz1
      have v2 := fun W (h : kPat.C W Bz z2.kids.length z2.kids) => refValid_calls z2 3 0 Bz dz W h kz2
      have n1c := fun W (h : kPat.C W Az z1.kids.length z1.kids) => Normalize_calls z1 3 Az cz W h kz1 (size_of_small hZ.1.1 hZ.1.2)
      have n2c := fun W (h : kPat.C W Bz z2.kids.length z2.kids) => Normalize_calls z2 3 Bz dz W h kz2 (size_of_small hZ.2.1 hZ.2.2)
      have hbk0 := blk_new w' (.cells #[.int .i64 z1.var, .int .i64 z1.op, .int .i64 z1.imm, .int .i64 z1.immVar, .slice Az z1.kids.length cz, .int .i64 z2.var, .int .i64 z2.op, .int .i64 z2.imm, .int .i64 z2.immVar, .slice Bz z2.kids.length dz] 42)
      have hB4 := hB3.alloc hB3.size (.cells #[.int .i64 z1.var, .int .i64 z1.op, .int .i64 z1.imm, .int .i64 z1.immVar, .slice Az z1.kids.length cz, .int .i64 z2.var, .int .i64 z2.op, .int .i64 z2.imm, .int .i64 z2.immVar, .slice Bz z2.kids.length dz] 42)
      have hsz4 : w.heap.size ≤ (w'.alloc (.cells #[.int .i64 z1.var, .int .i64 z1.op, .int .i64 z1.imm, .int .i64 z1.immVar, .slice Az z1.kids.length cz, .int .i64 z2.var, .int .i64 z2.op, .int .i64 z2.imm, .int .i64 z2.immVar, .slice Bz z2.kids.length dz] 42)).heap.size := by simp; have := hB3.size; omega
      have hq1 := Kd.C_alloc hz1 (.cells #[.int .i64 z1.var, .int .i64 z1.op, .int .i64 z1.imm, .int .i64 z1.immVar, .slice Az z1.kids.length cz, .int .i64 z2.var, .int .i64 z2.op, .int .i64 z2.imm, .int .i64 z2.immVar, .slice Bz z2.kids.length dz] 42)
      have hq2 := Kd.C_alloc hz2 (.cells #[.int .i64 z1.var, .int .i64 z1.op, .int .i64 z1.imm, .int .i64 z1.immVar, .slice Az z1.kids.length cz, .int .i64 z2.var, .int .i64 z2.op, .int .i64 z2.imm, .int .i64 z2.immVar, .slice Bz z2.kids.length dz] 42)
      have hNN := fun (h1 : patValid z1 3 0 = true) (h2 : patValid z2 3 0 = true) => SameTerms.norm (vars := 3) hS h1 h2
      clear hz1 hz2 hS hZ hB1 hB2 hC1 hC2 hC3 hT1 hT2 hT3 hpc1 hpc2 hpc3 hP1 hP2 hP3 x0 x1 x2 x3 x4 y0 y1 y2 y3 y4
      rcases hv1 : patValid z1 3 0 with _ | _
      · rw [hv1] at v1
        clear hv1 v2 n1c n2c hNN
        go_wp2_with fail
        refine (v1 _ hq1).mono ?_
        rintro e w4 ⟨rfl, hb4⟩
        have hB5 := below_then hB4 hsz4 hb4
        go_wp2_with fail
        refine (examples18_calls _).mono ?_
        rintro e w5 ⟨rfl, hb5⟩
        go_wp2
        go_ret
        exact ⟨rfl, below_then hB5 hB5.size hb5⟩
      rcases hv2 : patValid z2 3 0 with _ | _
      · rw [hv1] at v1
        rw [hv2] at v2
        clear hv1 hv2 n1c n2c hNN
        go_wp2_with fail
        refine (v1 _ hq1).mono ?_
        rintro e w4 ⟨rfl, hb4⟩
        have hB5 := below_then hB4 hsz4 hb4
        replace hbk0 := blk_below hbk0 hb4
        have p0 := (blk_cell hbk0 0).trans rfl
        have p1 := (blk_cell hbk0 1).trans rfl
        have p2 := (blk_cell hbk0 2).trans rfl
        have p3 := (blk_cell hbk0 3).trans rfl
        have p4 := (blk_cell hbk0 4).trans rfl
        have p5 := (blk_cell hbk0 5).trans rfl
        have p6 := (blk_cell hbk0 6).trans rfl
        have p7 := (blk_cell hbk0 7).trans rfl
        have p8 := (blk_cell hbk0 8).trans rfl
        have p9 := (blk_cell hbk0 9).trans rfl
        go_wp2_with fail
        refine (v2 _ (Kd.C_below hq2 hb4)).mono ?_
        rintro e w5 ⟨rfl, hb5⟩
        have hB6 := below_then hB5 hB5.size hb5
        go_wp2_with fail
        refine (examples18_calls _).mono ?_
        rintro e w6 ⟨rfl, hb6⟩
        go_wp2
        go_ret
        exact ⟨rfl, below_then hB6 hB6.size hb6⟩
      obtain ⟨ms, hm1, hm2⟩ := hNN hv1 hv2
      rw [hv1] at v1
      rw [hv2] at v2
      rw [hm1] at n1c
      rw [hm2] at n2c
      clear hv1 hv2 hm1 hm2 hNN
      obtain ⟨X, hX⟩ : ∃ x, x = (some ms).getD [] := ⟨_, rfl⟩
      obtain ⟨ok, hok⟩ : ∃ ok, ok = (some ms).isSome := ⟨_, rfl⟩
      have hok' : ok = true := hok
      replace hX := Lib.hid hX
      replace hok := Lib.hid hok
      subst hok'
      go_wp2_with fail
      refine (v1 _ hq1).mono ?_
      rintro e w4 ⟨rfl, hb4⟩
      have hB5 := below_then hB4 hsz4 hb4
      replace hbk0 := blk_below hbk0 hb4
      replace hq1 := Kd.C_below hq1 hb4
      replace hq2 := Kd.C_below hq2 hb4
      have p0 := (blk_cell hbk0 0).trans rfl
      have p1 := (blk_cell hbk0 1).trans rfl
      have p2 := (blk_cell hbk0 2).trans rfl
      have p3 := (blk_cell hbk0 3).trans rfl
      have p4 := (blk_cell hbk0 4).trans rfl
      have p5 := (blk_cell hbk0 5).trans rfl
      have p6 := (blk_cell hbk0 6).trans rfl
      have p7 := (blk_cell hbk0 7).trans rfl
      have p8 := (blk_cell hbk0 8).trans rfl
      have p9 := (blk_cell hbk0 9).trans rfl
      go_wp2_with fail
      refine (v2 _ hq2).mono ?_
      rintro e w5 ⟨rfl, hb5⟩
      have hB6 := below_then hB5 hB5.size hb5
      replace hbk0 := blk_below hbk0 hb5
      replace hq1 := Kd.C_below hq1 hb5
      replace hq2 := Kd.C_below hq2 hb5
      clear p0 p1 p2 p3 p4 p5 p6 p7 p8 p9
      have p0 := (blk_cell hbk0 0).trans rfl
      have p1 := (blk_cell hbk0 1).trans rfl
      have p2 := (blk_cell hbk0 2).trans rfl
      have p3 := (blk_cell hbk0 3).trans rfl
      have p4 := (blk_cell hbk0 4).trans rfl
      have p5 := (blk_cell hbk0 5).trans rfl
      have p6 := (blk_cell hbk0 6).trans rfl
      have p7 := (blk_cell hbk0 7).trans rfl
      have p8 := (blk_cell hbk0 8).trans rfl
      have p9 := (blk_cell hbk0 9).trans rfl
      go_wp2_with fail
      refine (n1c _ hq1).mono ?_
      intro e w6 h
      obtain ⟨hb6, A6, c6, hc6, rfl, hC6⟩ := MonosRes.reads' h hX hok
      clear h
      have hB7 := below_then hB6 hB6.size hb6
      replace hbk0 := blk_below hbk0 hb6
      replace hq2 := Kd.C_below hq2 hb6
      clear p0 p1 p2 p3 p4 p5 p6 p7 p8 p9
      have p0 := (blk_cell hbk0 0).trans rfl
      have p1 := (blk_cell hbk0 1).trans rfl
      have p2 := (blk_cell hbk0 2).trans rfl
      have p3 := (blk_cell hbk0 3).trans rfl
      have p4 := (blk_cell hbk0 4).trans rfl
      have p5 := (blk_cell hbk0 5).trans rfl
      have p6 := (blk_cell hbk0 6).trans rfl
      have p7 := (blk_cell hbk0 7).trans rfl
      have p8 := (blk_cell hbk0 8).trans rfl
      have p9 := (blk_cell hbk0 9).trans rfl
      go_wp2_with fail
      refine (n2c _ hq2).mono ?_
      intro e w7 h
      obtain ⟨hb7, A7, c7, hc7, rfl, hC7⟩ := MonosRes.reads' h hX hok
      clear h
      have hB8 := below_then hB7 hB7.size hb7
      have hS := same_calls X X A6 A7 c6 c7 w7 (Kd.C_below hC6 hb7) hC7 hc6 hc7
      rw [samePoly_true rfl] at hS
      go_wp2_with fail
      refine hS.mono ?_
      rintro e w8 ⟨rfl, hb8⟩
      have hB9 := below_then hB8 hB8.size hb8
      go_wp2_with fail
      refine (examples18_calls _).mono ?_
      rintro e w9 ⟨rfl, hb9⟩
      go_wp2
      go_ret
      exact ⟨rfl, below_then hB9 hB9.size hb9⟩
end Go.Proofs.Ytmdahjmkfipdfaa
