/- walk: fullinglaw18.pat -/
import Derived.Test.YtmdahjmkfipdfaaGen1
namespace Go.Proofs.Ytmdahjmkfipdfaa
set_option linter.unusedVariables false
set_option linter.unusedSimpArgs false
open Go.RowKit Go.Proofs.YtmdahjmkfipdfaaW.PrintWords Go.Proofs.YtmdahjmkfipdfaaW.PrintLast Go.Proofs.YtmdahjmkfipdfaaW.PrintMore
theorem F_new {α : Type} (d : Kd α) (w : World) (ok : Nat → Prop) (xs : List α) (cells : List Value) (t : TypeId) (h : Reps (Kd.FK d w ok) d.sz xs cells) (hm : xs.length ≤ 9223372036854775807) (hok : ok w.heap.size) :
    Kd.F d (w.alloc (.cells cells.toArray t)) ok (some ⟨w.heap.size, 0, none⟩) xs.length xs := by
  intro W' hW
  have hb : W'.heap[w.heap.size]? = some (.cells cells.toArray t (0, 0)) := (hW _ hok (by simp)).trans (blk_new w _)
  refine ⟨rfl, hm, fun _ => ⟨_, rfl, fun j p hj => ⟨(cells.drop (j * d.sz)).take d.sz, ?_, h.2 j p hj W' (fun k hk hlt => (hW k hk (by simp; omega)).trans (Below.heap_alloc w _ k hlt)), fun i u hu => ?_⟩⟩⟩
  · have hjl := (List.getElem?_eq_some_iff.1 hj).1
    have h1 : j * d.sz + d.sz ≤ cells.length := by rw [h.1, ← Nat.succ_mul]; exact Nat.mul_le_mul_right _ hjl
    rw [List.length_take, List.length_drop]
    omega
  · rw [add_plain, blk_cell hb]
    rw [List.getElem?_take] at hu
    split at hu
    · rw [List.getElem?_drop] at hu
      simpa using hu
    · cases hu
theorem put5 {w : World} {g t : Nat} {z0 z1 z2 z3 z4 : Value} (hb : w.heap[g]? = some (.cells #[z0, z1, z2, z3, z4] t (0, 0))) (a0 a1 a2 a3 a4 : Value) :
    (((((w.setCell ⟨g, 0, none⟩ a0).setCell ⟨g, 1, none⟩ a1).setCell ⟨g, 2, none⟩ a2).setCell ⟨g, 3, none⟩ a3).setCell ⟨g, 4, none⟩ a4).heap[g]? = some (.cells #[a0, a1, a2, a3, a4] t (0, 0)) := by
  have h0 := blk_set (cs := #[z0, z1, z2, z3, z4]) hb 0 a0
  have h1 := blk_set (cs := #[a0, z1, z2, z3, z4]) h0 1 a1
  have h2 := blk_set (cs := #[a0, a1, z2, z3, z4]) h1 2 a2
  have h3 := blk_set (cs := #[a0, a1, a2, z3, z4]) h2 3 a3
  exact blk_set (cs := #[a0, a1, a2, a3, z4]) h3 4 a4
theorem Rd.far5 {w0 w : World} {b : Nat} {ls : List Int} (h : Rd w0 w b ls) {g : Nat} (hg : w0.heap.size ≤ g) (hne : g ≠ b) (a0 a1 a2 a3 a4 : Value) :
    Rd w0 (((((w.setCell ⟨g, 0, none⟩ a0).setCell ⟨g, 1, none⟩ a1).setCell ⟨g, 2, none⟩ a2).setCell ⟨g, 3, none⟩ a3).setCell ⟨g, 4, none⟩ a4) b ls := by
  obtain ⟨A, c, h1, h2, h3, h4, h5⟩ := h
  have f : ∀ (w : World) (j : Nat) (u : Value), (w.setCell ⟨g, j, none⟩ u).heap[b]? = w.heap[b]? := fun w j u => Below.heap_setCell w _ u b (fun e => hne e.symm)
  exact ⟨A, c, ((((h1.setCell hg _).setCell hg _).setCell hg _).setCell hg _).setCell hg _, h2, by rw [f, f, f, f, f]; exact h3, h4, h5⟩
theorem keep_far5 {w W : World} {b : Nat} (h : KeepBut w W b none) {g : Nat} (hg : w.heap.size ≤ g) (a0 a1 a2 a3 a4 : Value) :
    KeepBut w (((((W.setCell ⟨g, 0, none⟩ a0).setCell ⟨g, 1, none⟩ a1).setCell ⟨g, 2, none⟩ a2).setCell ⟨g, 3, none⟩ a3).setCell ⟨g, 4, none⟩ a4) b none :=
  keep_far (keep_far (keep_far (keep_far (keep_far h hg _) hg _) hg _) hg _) hg _
theorem F_far5 {α : Type} {d : Kd α} {w : World} {ok : Nat → Prop} {A : Option Addr} {n : Nat} {xs : List α} (h : Kd.F d w ok A n xs) {g : Nat} (hok : ∀ k, ok k → k ≠ g) (a0 a1 a2 a3 a4 : Value) :
    Kd.F d (((((w.setCell ⟨g, 0, none⟩ a0).setCell ⟨g, 1, none⟩ a1).setCell ⟨g, 2, none⟩ a2).setCell ⟨g, 3, none⟩ a3).setCell ⟨g, 4, none⟩ a4) ok A n xs :=
  Kd.F_far (Kd.F_far (Kd.F_far (Kd.F_far (Kd.F_far h (p := ⟨g, 0, none⟩) hok _) (p := ⟨g, 1, none⟩) hok _) (p := ⟨g, 2, none⟩) hok _) (p := ⟨g, 3, none⟩) hok _) (p := ⟨g, 4, none⟩) hok _
/-- A pattern handed back by a call that may turn block b alone. -/
def PatRes (w0 w : World) (b : Nat) (r : Pat × List Int) (e : Ending) (w' : World) : Prop :=
  ∃ A c, e = .returned (.agg #[.int .i64 r.1.var, .int .i64 r.1.op, .int .i64 r.1.imm, .int .i64 r.1.immVar, .slice A r.1.kids.length c]) ∧ r.1.kids.length ≤ c ∧ Kd.F kPat w' (fun k => w.heap.size ≤ k) A r.1.kids.length r.1.kids ∧ Rd w0 w' b r.2 ∧ KeepBut w w' b none
theorem PatRes.leaf {w0 w w' : World} {b : Nat} {v o i : Int} {ls : List Int} (h : Rd w0 w' b ls) (hk : KeepBut w w' b none) : PatRes w0 w b (⟨v, o, i, 0, []⟩, ls) (.returned (.agg #[.int .i64 v, .int .i64 o, .int .i64 i, .int .i64 0, .slice none 0 0])) w' :=
  ⟨none, 0, rfl, Nat.le_refl _, Kd.F_nil _ _ _, h, hk⟩
theorem mem_tail_i64 {ls : List Int} (h : ∀ n ∈ ls, I64 n) : ∀ n ∈ ls.tail, I64 n := fun n hn => h n (List.mem_of_mem_tail hn)
theorem head_i64 {ls : List Int} (h : ∀ n ∈ ls, I64 n) : I64 (ls.headD 0) := by
  cases ls with
  | nil => exact ⟨by decide, by decide⟩
  | cons n r => exact h n (by simp)
def PatC (vars : Int) (d : Nat) : Prop := ∀ (w0 w : World) (b : Nat) (ls : List Int), Rd w0 w b ls → (∀ n ∈ ls, I64 n) →
  Calls Try.prog 41 #[.pointer (some ⟨b, 0, none⟩), .int .i64 (4 - d), .int .i64 vars] w (PatRes w0 w b (genPat vars d ls))
theorem genPat_i64 (vars : Int) : ∀ (d : Nat) (ls : List Int), (∀ n ∈ ls, I64 n) → ∀ n ∈ (genPat vars d ls).2, I64 n
  | 0, ls, h => mem_tail_i64 h
  | d + 1, ls, h => by
    have h1 := mem_tail_i64 h
    have h2 := genPat_i64 vars d ls.tail h1
    have h3 := genPat_i64 vars d _ h2
    simp only [genPat]
    repeat' split
    all_goals assumption
set_option maxHeartbeats 4000000 in
set_option maxRecDepth 100000 in
theorem pat_leaf (vars : Int) (hv : 1 ≤ vars) (hv2 : vars ≤ 6) : PatC vars 0 := by
  intro w0 w b ls hRd hls
  have hn := head_i64 hls
  have hd := tdiv_i64 hn (show (2 : Int) ≤ 11 by decide)
  have hnx := fun W h => Next_calls w0 W b ls h
  obtain ⟨n, hnn⟩ : ∃ n, n = ls.headD 0 := ⟨_, rfl⟩
  have E : Hid (genPat vars 0 ls = (⟨1 + n.tdiv 11 % 1000 % vars, 0, 0, 0, []⟩, ls.tail)) := Lib.hid (by rw [hnn, genPat])
  rw [← hnn] at hnx hn hd
  have hw : wrap64 (n.tdiv 11) = n.tdiv 11 := by unfold I64 at hd; rw [wrap64]; omega
  have pc1 := fun W => Pick_calls n 11 W (by decide) (by decide)
  have pc2 := fun W => Pick_calls (n.tdiv 11) 1000 W (by decide) (by decide)
  obtain ⟨k, hk⟩ : ∃ k, k = n % 11 := ⟨_, rfl⟩
  obtain ⟨m, hm⟩ : ∃ m, m = n.tdiv 11 % 1000 := ⟨_, rfl⟩
  have hm0 : 0 ≤ m ∧ m < 1000 := by omega
  rw [← hk] at pc1
  rw [← hm] at pc2 E
  have hmv : m.tmod vars = m % vars := Int.tmod_eq_emod_of_nonneg hm0.1
  obtain ⟨x, hx⟩ : ∃ x, x = m % vars := ⟨_, rfl⟩
  rw [← hx] at E hmv
  have hx0 : 0 ≤ x ∧ x < 6 := by
    have h1 := Int.emod_nonneg m (show vars ≠ 0 by omega)
    have h2 := Int.emod_lt_of_pos m (show 0 < vars by omega)
    omega
  have hwx : wrap64 x = x := by rw [wrap64]; omega
  have hwx1 : wrap64 (1 + x) = 1 + x := by rw [wrap64]; omega
  have hv0 := beq_no (show ¬ vars = 0 by omega)
  clear hx hk
  have hW := fun ob => (Below.refl w.heap.size w).alloc (Nat.le_refl _) ob
  have hgb : w.heap.size ≠ b := by have := hRd.lt; omega
  have hgw : w0.heap.size ≤ w.heap.size := hRd.choose_spec.choose_spec.1.size
  clear hm hnn hd
  go_enter Try.func41, Try.ntmps41
  go_wp2_with fail
  refine (hnx _ (hRd.below (hW _))).mono ?_
  rintro e w1 ⟨rfl, hRd1, hK1⟩
  have hbx : w1.heap[w.heap.size]? = some (.cells #[.int .i64 0, .int .i64 0, .int .i64 0, .int .i64 0, .slice none 0 0] 24 (0, 0)) := hK1.blk (blk_new w _) hgb (by simp)
  have hKK : KeepBut w w1 b none := (KeepBut.of_below (hW _) _ _).trans hK1 (.inl rfl)
  go_wp2_with fail
  refine (pc1 _).mono ?_
  rintro e w' ⟨rfl, hw'⟩
  subst hw'
  go_wp2_with fail
  refine (pc2 _).mono ?_
  rintro e w' ⟨rfl, hw'⟩
  subst hw'
  have c0 := (blk_cell hbx 0).trans rfl
  have c1 := (blk_cell hbx 1).trans rfl
  have c2 := (blk_cell hbx 2).trans rfl
  have c3 := (blk_cell hbx 3).trans rfl
  have c4 := (blk_cell hbx 4).trans rfl
  have hfz := fun j => blk_frozen hbx j
  go_wp2
  refine bodyPost_ret (results_cell_row rfl _ _ w.heap.size 24 _ (0, 0) _ rfl (put5 hbx _ _ _ _ _) Try.underlying24 rfl (by kernel_rfl)) rfl ?_
  rw [E.out]
  exact PatRes.leaf (hRd1.far5 hgw hgb _ _ _ _ _) (keep_far5 hKK (Nat.le_refl _) _ _ _ _ _)
set_option maxHeartbeats 4000000 in
set_option maxRecDepth 100000 in
theorem pat_var (vars : Int) (hv : 1 ≤ vars) (hv2 : vars ≤ 6) (d : Nat) (hd4 : d < 4) (ih : PatC vars d) (w0 w : World) (b : Nat) (ls : List Int) (hRd : Rd w0 w b ls) (hls : ∀ n ∈ ls, I64 n) (hk1 : ls.headD 0 % 11 < 2) :
    Calls Try.prog 41 #[.pointer (some ⟨b, 0, none⟩), .int .i64 (4 - (d + 1 : Nat)), .int .i64 vars] w (PatRes w0 w b (genPat vars (d + 1) ls)) := by
  have hls1 := mem_tail_i64 hls
  have ih1 := fun W h => ih w0 W b ls.tail h hls1
  obtain ⟨D, hD⟩ : ∃ D : Int, D = 4 - (d + 1 : Nat) := ⟨_, rfl⟩
  have hD1 : (4 - (d : Int)) = D + 1 := by omega
  have hD0 : 0 ≤ D ∧ D ≤ 3 := by omega
  have hwD : wrap64 (D + 1) = D + 1 := by rw [wrap64]; omega
  rw [hD1] at ih1
  rw [← hD]
  clear hD
  have hn := head_i64 hls
  have hd := tdiv_i64 hn (show (2 : Int) ≤ 11 by decide)
  have hnx := fun W h => Next_calls w0 W b ls h
  obtain ⟨n, hnn⟩ : ∃ n, n = ls.headD 0 := ⟨_, rfl⟩
  have E : Hid (genPat vars (d + 1) ls = (⟨1 + n.tdiv 11 % 1000 % vars, 0, 0, 0, []⟩, ls.tail)) := Lib.hid (by rw [hnn]; simp only [genPat]; rw [if_pos hk1])
  rw [← hnn] at hnx hn hd
  have hw : wrap64 (n.tdiv 11) = n.tdiv 11 := by unfold I64 at hd; rw [wrap64]; omega
  have pc1 := fun W => Pick_calls n 11 W (by decide) (by decide)
  have pc2 := fun W => Pick_calls (n.tdiv 11) 1000 W (by decide) (by decide)
  obtain ⟨k, hk⟩ : ∃ k, k = n % 11 := ⟨_, rfl⟩
  rw [← hnn, ← hk] at hk1
  obtain ⟨m, hm⟩ : ∃ m, m = n.tdiv 11 % 1000 := ⟨_, rfl⟩
  have hm0 : 0 ≤ m ∧ m < 1000 := by omega
  rw [← hk] at pc1
  rw [← hm] at pc2 E
  have hmv : m.tmod vars = m % vars := Int.tmod_eq_emod_of_nonneg hm0.1
  obtain ⟨x, hx⟩ : ∃ x, x = m % vars := ⟨_, rfl⟩
  rw [← hx] at E hmv
  have hx0 : 0 ≤ x ∧ x < 6 := by
    have h1 := Int.emod_nonneg m (show vars ≠ 0 by omega)
    have h2 := Int.emod_lt_of_pos m (show 0 < vars by omega)
    omega
  have hwx : wrap64 x = x := by rw [wrap64]; omega
  have hwx1 : wrap64 (1 + x) = 1 + x := by rw [wrap64]; omega
  have hv0 := beq_no (show ¬ vars = 0 by omega)
  clear hx hk ih1
  have hW := fun ob => (Below.refl w.heap.size w).alloc (Nat.le_refl _) ob
  have hgb : w.heap.size ≠ b := by have := hRd.lt; omega
  have hgw : w0.heap.size ≤ w.heap.size := hRd.choose_spec.choose_spec.1.size
  clear hm hnn hd
  go_enter Try.func41, Try.ntmps41
  go_wp2_with fail
  refine (hnx _ (hRd.below (hW _))).mono ?_
  rintro e w1 ⟨rfl, hRd1, hK1⟩
  have hbx : w1.heap[w.heap.size]? = some (.cells #[.int .i64 0, .int .i64 0, .int .i64 0, .int .i64 0, .slice none 0 0] 24 (0, 0)) := hK1.blk (blk_new w _) hgb (by simp)
  have hKK : KeepBut w w1 b none := (KeepBut.of_below (hW _) _ _).trans hK1 (.inl rfl)
  go_wp2_with fail
  refine (pc1 _).mono ?_
  rintro e w' ⟨rfl, hw'⟩
  subst hw'
  go_wp2_with fail
  refine (pc2 _).mono ?_
  rintro e w' ⟨rfl, hw'⟩
  subst hw'
  have c0 := (blk_cell hbx 0).trans rfl
  have c1 := (blk_cell hbx 1).trans rfl
  have c2 := (blk_cell hbx 2).trans rfl
  have c3 := (blk_cell hbx 3).trans rfl
  have c4 := (blk_cell hbx 4).trans rfl
  have hfz := fun j => blk_frozen hbx j
  go_wp2
  refine bodyPost_ret (results_cell_row rfl _ _ w.heap.size 24 _ (0, 0) _ rfl (put5 hbx _ _ _ _ _) Try.underlying24 rfl (by kernel_rfl)) rfl ?_
  rw [E.out]
  exact PatRes.leaf (hRd1.far5 hgw hgb _ _ _ _ _) (keep_far5 hKK (Nat.le_refl _) _ _ _ _ _)
set_option maxHeartbeats 4000000 in
set_option maxRecDepth 100000 in
theorem pat_const (vars : Int) (hv : 1 ≤ vars) (hv2 : vars ≤ 6) (d : Nat) (hd4 : d < 4) (ih : PatC vars d) (w0 w : World) (b : Nat) (ls : List Int) (hRd : Rd w0 w b ls) (hls : ∀ n ∈ ls, I64 n) (hk1 : 2 ≤ ls.headD 0 % 11 ∧ ls.headD 0 % 11 < 4) :
    Calls Try.prog 41 #[.pointer (some ⟨b, 0, none⟩), .int .i64 (4 - (d + 1 : Nat)), .int .i64 vars] w (PatRes w0 w b (genPat vars (d + 1) ls)) := by
  have hls1 := mem_tail_i64 hls
  have ih1 := fun W h => ih w0 W b ls.tail h hls1
  obtain ⟨D, hD⟩ : ∃ D : Int, D = 4 - (d + 1 : Nat) := ⟨_, rfl⟩
  have hD1 : (4 - (d : Int)) = D + 1 := by omega
  have hD0 : 0 ≤ D ∧ D ≤ 3 := by omega
  have hwD : wrap64 (D + 1) = D + 1 := by rw [wrap64]; omega
  rw [hD1] at ih1
  rw [← hD]
  clear hD
  have hn := head_i64 hls
  have hd := tdiv_i64 hn (show (2 : Int) ≤ 11 by decide)
  have hnx := fun W h => Next_calls w0 W b ls h
  obtain ⟨n, hnn⟩ : ∃ n, n = ls.headD 0 := ⟨_, rfl⟩
  have E : Hid (genPat vars (d + 1) ls = (⟨0, 1, word (n.tdiv 11 % 1000) n, 0, []⟩, ls.tail)) := Lib.hid (by rw [hnn]; simp only [genPat]; rw [if_neg (by omega), if_pos hk1.2])
  rw [← hnn] at hnx hn hd
  have hw : wrap64 (n.tdiv 11) = n.tdiv 11 := by unfold I64 at hd; rw [wrap64]; omega
  have pc1 := fun W => Pick_calls n 11 W (by decide) (by decide)
  have pc2 := fun W => Pick_calls (n.tdiv 11) 1000 W (by decide) (by decide)
  obtain ⟨k, hk⟩ : ∃ k, k = n % 11 := ⟨_, rfl⟩
  rw [← hnn, ← hk] at hk1
  obtain ⟨m, hm⟩ : ∃ m, m = n.tdiv 11 % 1000 := ⟨_, rfl⟩
  have hm0 : 0 ≤ m ∧ m < 1000 := by omega
  rw [← hk] at pc1
  rw [← hm] at pc2 E
  have wc := fun W => Word_calls m n W (by unfold I64; omega)
  clear hk ih1
  have hW := fun ob => (Below.refl w.heap.size w).alloc (Nat.le_refl _) ob
  have hgb : w.heap.size ≠ b := by have := hRd.lt; omega
  have hgw : w0.heap.size ≤ w.heap.size := hRd.choose_spec.choose_spec.1.size
  clear hm hnn hd
  go_enter Try.func41, Try.ntmps41
  go_wp2_with fail
  refine (hnx _ (hRd.below (hW _))).mono ?_
  rintro e w1 ⟨rfl, hRd1, hK1⟩
  have hbx : w1.heap[w.heap.size]? = some (.cells #[.int .i64 0, .int .i64 0, .int .i64 0, .int .i64 0, .slice none 0 0] 24 (0, 0)) := hK1.blk (blk_new w _) hgb (by simp)
  have hKK : KeepBut w w1 b none := (KeepBut.of_below (hW _) _ _).trans hK1 (.inl rfl)
  go_wp2_with fail
  refine (pc1 _).mono ?_
  rintro e w' ⟨rfl, hw'⟩
  subst hw'
  go_wp2_with fail
  refine (pc2 _).mono ?_
  rintro e w' ⟨rfl, hw'⟩
  subst hw'
  go_wp2_with fail
  refine (wc _).mono ?_
  rintro e w2 ⟨rfl, hb2⟩
  replace hbx := blk_below hbx hb2
  replace hRd1 := hRd1.below hb2
  replace hKK := keep_below hKK hb2
  have c0 := (blk_cell hbx 0).trans rfl
  have c1 := (blk_cell hbx 1).trans rfl
  have c2 := (blk_cell hbx 2).trans rfl
  have c3 := (blk_cell hbx 3).trans rfl
  have c4 := (blk_cell hbx 4).trans rfl
  have hfz := fun j => blk_frozen hbx j
  go_wp2
  refine bodyPost_ret (results_cell_row rfl _ _ w.heap.size 24 _ (0, 0) _ rfl (put5 hbx _ _ _ _ _) Try.underlying24 rfl (by kernel_rfl)) rfl ?_
  rw [E.out]
  exact PatRes.leaf (hRd1.far5 hgw hgb _ _ _ _ _) (keep_far5 hKK (Nat.le_refl _) _ _ _ _ _)
end Go.Proofs.Ytmdahjmkfipdfaa
