/- walk: fullinglaw18.PolynomialShift -/
import Derived.Test.YtmdahjmkfipdfaaPmEx
import Derived.Test.YtmdahjmkfipdfaaGen5
import Derived.Test.YtmdahjmkfipdfaaPoly3
namespace Go.Proofs.Ytmdahjmkfipdfaa
set_option linter.unusedVariables false
set_option linter.unusedSimpArgs false
open Go.RowKit Go.Proofs.YtmdahjmkfipdfaaW.PrintWords Go.Proofs.YtmdahjmkfipdfaaW.PrintLast Go.Proofs.YtmdahjmkfipdfaaW.PrintMore
attribute [local go_sem] max2_int min2_int max_two min_two
theorem wrap64_mod (x : Int) : wrap64 x % 18446744073709551616 = x % 18446744073709551616 := by rw [wrap64]; omega
theorem wf_i64 {x : Int} (h : (Lit.int .i64 x).wf = true) : I64 x := by
  have h1 : IntKind.i64.min = -9223372036854775808 := by decide
  have h2 : IntKind.i64.max = 9223372036854775807 := by decide
  simp only [Lit.wf, h1, h2, Bool.and_eq_true, decide_eq_true_eq] at h
  exact h
theorem genPat_size (vars : Int) : ∀ (d : Nat) (ls : List Int), 1 ≤ (genPat vars d ls).1.size ∧ (genPat vars d ls).1.size ≤ 2 ^ (d + 1) - 1
  | 0, ls => by simp [genPat, Pat.size, Pat.sizes]
  | d + 1, ls => by
    have h1 := genPat_size vars d ls.tail
    have h2 := genPat_size vars d (genPat vars d ls.tail).2
    have e : (2 : Int) ^ (d + 1 + 1) = 2 * 2 ^ (d + 1) := by rw [Int.pow_succ]; omega
    have e2 : (1 : Int) ≤ 2 ^ (d + 1) - 1 := by omega
    simp only [genPat]
    repeat' split
    all_goals
      simp only [Pat.size, Pat.sizes, e]
      omega
theorem genP_size (vars : Int) (l : List Int) : 1 ≤ (genP vars l).size ∧ (genP vars l).size ≤ 31 := by
  have := genPat_size vars 4 (l.take 20)
  refine ⟨this.1, ?_⟩
  unfold genP
  have h2 := this.2
  have e : (2 : Int) ^ (4 + 1) = 32 := by decide
  rw [e] at h2
  omega
theorem size_of_small {p : Pat} (h1 : 0 ≤ p.size) (h2 : p.size ≤ 1000) : wrap64 p.size = p.size := by rw [wrap64]; omega
theorem MonosRes.reads {w : World} {o : Option (List Mono)} {e : Ending} {w' : World} (h : MonosRes w o e w') : Below w.heap.size w w' ∧ ∃ A c, (o.getD []).length ≤ c ∧ e = .returned (.tuple #[.slice A (o.getD []).length c, .bool o.isSome]) ∧ kMono.C w' A (o.getD []).length (o.getD []) := by
  obtain ⟨hb, h⟩ := h
  refine ⟨hb, ?_⟩
  cases o with
  | none => exact ⟨none, 0, Nat.le_refl _, h, Kd.C_nil _ _⟩
  | some ms =>
    obtain ⟨v, he, hR⟩ := h
    obtain ⟨A, c, rfl, hc, hC⟩ := Kd.R_reads hR
    exact ⟨A, c, hc, he, hC⟩
theorem MonosRes.reads' {w : World} {o : Option (List Mono)} {e : Ending} {w' : World} {x : List Mono} {ok : Bool} (h : MonosRes w o e w') (hx : Hid (x = o.getD [])) (hok : Hid (ok = o.isSome)) :
    Below w.heap.size w w' ∧ ∃ A c, x.length ≤ c ∧ e = .returned (.tuple #[.slice A x.length c, .bool ok]) ∧ kMono.C w' A x.length x := by
  rw [hx.out, hok.out]; exact h.reads
set_option maxHeartbeats 4000000 in
set_option maxRecDepth 100000 in
theorem shift_walk (A : Option Addr) (l : List Int) (c : Nat) (k : Int) (w : World) (hC : (Kd.int .i64).C w A l.length l) (hcl : l.length ≤ c) (_hy : l.length * 8 ≤ 140737488351232) (hwf : ∀ n ∈ l, (Lit.int .i64 n).wf = true) (_hk : (Lit.int .i64 k).wf = true) :
    Calls Try.prog 6 #[.slice A l.length c, .int .i64 k] w fun e w' => e = .returned (.bool true) ∧ Below w.heap.size w w' := by
  have hmax := Kd.C_max hC
  obtain ⟨m, hm⟩ : ∃ m, m = min l.length 6 := ⟨_, rfl⟩
  obtain ⟨ls, hls⟩ : ∃ ls, ls = l.take m := ⟨_, rfl⟩
  have hnl : ls.length = m := by rw [hls, List.length_take]; omega
  have hT := Kd.C_take (m := m) hC (by omega)
  rw [← hls, hnl] at hT
  have hlwf : ∀ x ∈ ls, I64 x := fun x hx =>
    wf_i64 (hwf x (by rw [hls] at hx; exact List.mem_of_mem_take hx))
  have hpc : ∀ (A' : Option Addr) (c' : Nat) (W : World), (Kd.int .i64).C W A' m ls → m ≤ c' → Calls Try.prog 17 #[.slice A' m c', .int .i64 3] W (NewPat W (genP 3 ls)) := fun A' c' W h1 h2 => by
    rw [← hnl] at h1 h2 ⊢
    exact Pattern_calls 3 (by decide) (by decide) ls A' c' W h1 h2 hlwf _ rfl
  have pk := fun W => Pick_calls k 64 W (by decide) (by decide)
  obtain ⟨n, hn⟩ : ∃ n, n = k % 64 := ⟨_, rfl⟩
  have hn0 : 0 ≤ n ∧ n < 64 := by omega
  rw [← hn] at pk
  have hsz := genP_size 3 ls
  obtain ⟨p, hp⟩ : ∃ p, p = genP 3 ls := ⟨_, rfl⟩
  rw [← hp] at hpc hsz
  have hN1 := fun (A' : Option Addr) (c' : Nat) W h1 h2 => Normalize_calls (opP 12 [p, constP n]) 3 A' c' W h1 h2 (size_of_small (by simp [opP, constP, Pat.size, Pat.sizes]; omega) (by simp [opP, constP, Pat.size, Pat.sizes]; omega))
  have hN2 := fun (A' : Option Addr) (c' : Nat) W h1 h2 => Normalize_calls (opP 6 [p, constP (wrap64 (2 ^ n.toNat))]) 3 A' c' W h1 h2 (size_of_small (by simp [opP, constP, Pat.size, Pat.sizes]; omega) (by simp [opP, constP, Pat.size, Pat.sizes]; omega))
  have hNN : polyNorm (opP 6 [p, constP (wrap64 (2 ^ n.toNat))]) 3 = polyNorm (opP 12 [p, constP n]) 3 := (shift_norm p n _ 3 hn0 (wrap64_mod _)).symm
  rw [hNN] at hN2
  obtain ⟨x, hx⟩ : ∃ x, x = (polyNorm (opP 12 [p, constP n]) 3).getD [] := ⟨_, rfl⟩
  obtain ⟨ok, hok⟩ : ∃ ok, ok = (polyNorm (opP 12 [p, constP n]) 3).isSome := ⟨_, rfl⟩
  replace hx := Lib.hid hx
  replace hok := Lib.hid hok
  clear hn hp hls hNN
  replace hnl := Lib.hid hnl
  have hmin : Hid (m = min l.length 6) := Lib.hid hm
  by_cases h6 : l.length ≤ 6
  · have hml : m = l.length := by omega
    clear hm
    subst hml
    go_enter Try.func6, Try.ntmps6
    go_wp2_with fail
    refine (pk _).mono ?_
    rintro e w' ⟨rfl, hw'⟩
    subst hw'
    go_wp2_with fail
    refine (hpc A c _ hT (by omega)).mono ?_
    rintro e w1 ⟨A1, c1, rfl, hk1, hC1, hb1⟩
    have hW1 := fun ob => (Below.refl w1.heap.size w1).alloc (Nat.le_refl _) ob
    go_wp2_with fail
    refine (op_calls 12 p (constP n) A1 none c1 0 _ (Kd.C_alloc hC1 _) hk1 (Kd.C_nil _ _) (Nat.le_refl _)).mono ?_
    rintro e w2 ⟨A2, c2, rfl, hk2, hC2, hb2⟩
    have hB2 := below_then (hb1.alloc hb1.size _) (by simp; have := hb1.size; omega) hb2
    have hbx2 := blk_below (blk_new w1 _) hb2
    have hC2' := Kd.C_below (Kd.C_alloc hC1 _) hb2
    go_wp2_with fail
    refine (hN1 A2 c2 _ hC2 hk2).mono ?_
    intro e w3 h
    obtain ⟨hb3, A3, c3, hc3, rfl, hC3⟩ := MonosRes.reads' h hx hok
    have hB3 := below_then hB2 hB2.size hb3
    have hbx3 := blk_below hbx2 hb3
    have e0 := (blk_cell hbx3 0).trans rfl
    have e1 := (blk_cell hbx3 1).trans rfl
    have e2 := (blk_cell hbx3 2).trans rfl
    have e3 := (blk_cell hbx3 3).trans rfl
    have e4 := (blk_cell hbx3 4).trans rfl
    go_wp2_with fail
    refine (op_calls 6 p (constP (wrap64 (2 ^ n.toNat))) A1 none c1 0 _ (Kd.C_below hC2' hb3) hk1 (Kd.C_nil _ _) (Nat.le_refl _)).mono ?_
    rintro e w4 ⟨A4, c4, rfl, hk4, hC4, hb4⟩
    have hB4 := below_then hB3 hB3.size hb4
    go_wp2_with fail
    refine (hN2 A4 c4 _ hC4 hk4).mono ?_
    intro e w5 h
    obtain ⟨hb5, A5, c5, hc5, rfl, hC5⟩ := MonosRes.reads' h hx hok
    have hB5 := below_then hB4 hB4.size hb5
    have hS := same_calls x x A3 A5 c3 c5 w5 (Kd.C_below (Kd.C_below hC3 hb4) hb5) hC5 hc3 hc5
    rw [samePoly_true rfl] at hS
    clear hN1 hN2 hpc
    go_wp2_with fail
    refine hS.mono ?_
    rintro e w6 ⟨rfl, hb6⟩
    go_wp2_with fail
    refine (examples18_calls w6).mono ?_
    rintro e w7 ⟨rfl, hb7⟩
    go_wp2
    go_ret
    exact ⟨rfl, below_then (below_then hB5 hB5.size hb6) (Nat.le_trans hB5.size hb6.size) hb7⟩
  · have hml : m = 6 := by omega
    clear hm
    subst hml
    go_enter Try.func6, Try.ntmps6
    go_wp2_with fail
    refine (pk _).mono ?_
    rintro e w' ⟨rfl, hw'⟩
    subst hw'
    go_wp2_with fail
    refine (hpc A c _ hT (by omega)).mono ?_
    rintro e w1 ⟨A1, c1, rfl, hk1, hC1, hb1⟩
    have hW1 := fun ob => (Below.refl w1.heap.size w1).alloc (Nat.le_refl _) ob
    go_wp2_with fail
    refine (op_calls 12 p (constP n) A1 none c1 0 _ (Kd.C_alloc hC1 _) hk1 (Kd.C_nil _ _) (Nat.le_refl _)).mono ?_
    rintro e w2 ⟨A2, c2, rfl, hk2, hC2, hb2⟩
    have hB2 := below_then (hb1.alloc hb1.size _) (by simp; have := hb1.size; omega) hb2
    have hbx2 := blk_below (blk_new w1 _) hb2
    have hC2' := Kd.C_below (Kd.C_alloc hC1 _) hb2
    go_wp2_with fail
    refine (hN1 A2 c2 _ hC2 hk2).mono ?_
    intro e w3 h
    obtain ⟨hb3, A3, c3, hc3, rfl, hC3⟩ := MonosRes.reads' h hx hok
    have hB3 := below_then hB2 hB2.size hb3
    have hbx3 := blk_below hbx2 hb3
    have e0 := (blk_cell hbx3 0).trans rfl
    have e1 := (blk_cell hbx3 1).trans rfl
    have e2 := (blk_cell hbx3 2).trans rfl
    have e3 := (blk_cell hbx3 3).trans rfl
    have e4 := (blk_cell hbx3 4).trans rfl
    go_wp2_with fail
    refine (op_calls 6 p (constP (wrap64 (2 ^ n.toNat))) A1 none c1 0 _ (Kd.C_below hC2' hb3) hk1 (Kd.C_nil _ _) (Nat.le_refl _)).mono ?_
    rintro e w4 ⟨A4, c4, rfl, hk4, hC4, hb4⟩
    have hB4 := below_then hB3 hB3.size hb4
    go_wp2_with fail
    refine (hN2 A4 c4 _ hC4 hk4).mono ?_
    intro e w5 h
    obtain ⟨hb5, A5, c5, hc5, rfl, hC5⟩ := MonosRes.reads' h hx hok
    have hB5 := below_then hB4 hB4.size hb5
    have hS := same_calls x x A3 A5 c3 c5 w5 (Kd.C_below (Kd.C_below hC3 hb4) hb5) hC5 hc3 hc5
    rw [samePoly_true rfl] at hS
    clear hN1 hN2 hpc
    go_wp2_with fail
    refine hS.mono ?_
    rintro e w6 ⟨rfl, hb6⟩
    go_wp2_with fail
    refine (examples18_calls w6).mono ?_
    rintro e w7 ⟨rfl, hb7⟩
    go_wp2
    go_ret
    exact ⟨rfl, below_then (below_then hB5 hB5.size hb6) (Nat.le_trans hB5.size hb6.size) hb7⟩
end Go.Proofs.Ytmdahjmkfipdfaa
