/- walk: fullingref15.Valid -/
import Derived.Test.YtmdahjmkfipdfaaRf3
namespace Go.Proofs.Ytmdahjmkfipdfaa
set_option linter.unusedVariables false
set_option linter.unusedSimpArgs false
open Go.RowKit Go.Proofs.YtmdahjmkfipdfaaW.PrintWords Go.Proofs.YtmdahjmkfipdfaaW.PrintLast Go.Proofs.YtmdahjmkfipdfaaW.PrintMore
set_option maxHeartbeats 4000000 in
set_option maxRecDepth 100000 in
theorem refValid_calls (p : Pat) (vars imms : Int) (A : Option Addr) (c : Nat) (w : World) (hr : Kd.C kPat w A p.kids.length p.kids) (hcl : p.kids.length ≤ c) :
    Calls Try.prog 18 #[.agg #[.int .i64 p.var, .int .i64 p.op, .int .i64 p.imm, .int .i64 p.immVar, .slice A p.kids.length c], .int .i64 vars, .int .i64 imms] w fun e w' => e = .returned (.bool (patValid p vars imms)) ∧ Below w.heap.size w w' := by
  have hb1 : ∀ ob, Below w.heap.size w (w.alloc ob) := fun ob => (Below.refl _ _).alloc (Nat.le_refl _) _
  have sz := fun W h => refSize_calls p A c W h hcl
  have E : Hid (patValid p vars imms = if vars < 0 ∨ vars > 6 ∨ imms < 0 ∨ imms > 6 ∨ wrap64 p.size > 24 then false else (valid imms p 0 (List.replicate vars.toNat 0)).1) := Lib.hid (by unfold patValid; rw [wrap64'_eq])
  by_cases h1 : vars < 0
  · rw [E.out, if_pos (Or.inl h1)]
    go_enter Try.func18, Try.ntmps18
    go_wp2
    go_ret
    exact ⟨rfl, hb1 _⟩
  by_cases h2 : vars > 6
  · rw [E.out, if_pos (Or.inr (Or.inl h2))]
    go_enter Try.func18, Try.ntmps18
    go_wp2
    go_ret
    exact ⟨rfl, hb1 _⟩
  by_cases h3 : imms < 0
  · rw [E.out, if_pos (Or.inr (Or.inr (Or.inl h3)))]
    go_enter Try.func18, Try.ntmps18
    go_wp2
    go_ret
    exact ⟨rfl, hb1 _⟩
  by_cases h4 : imms > 6
  · rw [E.out, if_pos (Or.inr (Or.inr (Or.inr (Or.inl h4))))]
    go_enter Try.func18, Try.ntmps18
    go_wp2
    go_ret
    exact ⟨rfl, hb1 _⟩
  obtain ⟨nv, hnv⟩ : ∃ nv, nv = vars.toNat := ⟨_, rfl⟩
  have hn6 : nv ≤ 6 := by omega
  have vd := fun (cv : Nat) (W : World) (g : Nat) h1 h2 h3 => fits_calls imms (by omega) p A c cv 0 (List.replicate (nv + 1) 0) g w W h1 h2 h3 nv (by simp) hn6 hr hcl
  rw [show (List.replicate (nv + 1) (0 : Int)).tail = List.replicate nv 0 from rfl] at vd
  rw [← hnv] at E
  obtain ⟨M, hM⟩ : ∃ M, M = nv + 1 := ⟨_, rfl⟩
  have hwM : wrap64 (vars + 1) = (M : Int) := by rw [wrap64]; omega
  have hwM2 : IntKind.i64.wrap (vars + 1) = (M : Int) := by rw [IntKind.wrap_i64]; omega
  have hmk := print_make (P := Try.prog) 29 3 .i64 8 Try.underlying29 infoInt (by decide) M (by omega)
  rw [← hM] at vd
  have hmade := fun W => made_nums 3 W M
  generalize hz : wrap64 p.size = z at sz E
  replace hz := Lib.hid hz
  rcases hvv : valid imms p 0 (List.replicate nv 0) with ⟨bq, vs⟩
  rw [hvv] at vd E
  have hbA := fun ob ob2 => (hb1 ob).alloc (show w.heap.size ≤ (w.alloc ob).heap.size by simp) ob2
  have hsz1 : ∀ ob, w.heap.size ≤ (w.alloc ob).heap.size := fun ob => by simp
  have hbkA := fun ob ob2 => blk_below (blk_new w ob) ((Below.refl (w.alloc ob).heap.size _).alloc (Nat.le_refl _) ob2)
  have hbk := fun ob => blk_new w ob
  have hmade2 := fun ob => hmade (w.alloc ob)
  simp only [World.size_alloc] at hmade2
  clear hM hnv hvv hmade
  cases bq with
  | false =>
    have E2 : Hid (patValid p vars imms = false) := Lib.hid (by rw [E.out]; split <;> rfl)
    rw [E2.out]
    clear E sz
    go_enter Try.func18, Try.ntmps18
    go_wp2
    go_region_with (go_at_call 42; refine (vd _ _ _ ?_ ?_ ?_).mono ?_; exact below_drew (hbA _ _); exact Nat.le_succ _; exact (hmade2 _).below (below_drew (Below.refl _ _)); rintro e w3 ⟨s3, rfl, hN3, hl3, ht3, hB3, hK3⟩)
    all_goals
      go_wp2
      go_ret
      exact ⟨rfl, hB3⟩
  | true =>
    have E2 : Hid (patValid p vars imms = decide (z ≤ 24)) := Lib.hid (by
      rw [E.out]
      by_cases e : z > 24
      · rw [if_pos (by omega), decide_eq_false (by omega)]
      · rw [if_neg (by omega), decide_eq_true (by omega)])
    clear E
    go_enter Try.func18, Try.ntmps18
    go_wp2
    go_region_with (first
      | (go_at_call 42; refine (vd _ _ _ ?_ ?_ ?_).mono ?_; exact below_drew (hbA _ _); exact Nat.le_succ _; exact (hmade2 _).below (below_drew (Below.refl _ _)); rintro e w3 ⟨s3, rfl, hN3, hl3, ht3, hB3, hK3⟩; (have hbx3 := hK3.blk (hbkA _ _) (by simp) (by simp)); have d0 := (blk_cell hbx3 0).trans rfl; have d1 := (blk_cell hbx3 1).trans rfl; have d2 := (blk_cell hbx3 2).trans rfl; have d3 := (blk_cell hbx3 3).trans rfl; have d4 := (blk_cell hbx3 4).trans rfl)
      | (go_at_call 43; refine (sz _ ?_).mono ?_; exact Kd.C_below hr hB3; rintro e w4 ⟨rfl, hb4⟩))
    all_goals
      go_wp2
      go_ret
      rw [E2.out]
      exact ⟨rfl, below_then hB3 hB3.size hb4⟩
end Go.Proofs.Ytmdahjmkfipdfaa
