/- walk: pattern.Valid -/
import Derived.Test.YtmdahjmkfipdfaaWk4
namespace Go.Proofs.Ytmdahjmkfipdfaa
set_option linter.unusedVariables false
set_option linter.unusedSimpArgs false
open Go.RowKit Go.Proofs.YtmdahjmkfipdfaaW.PrintWords Go.Proofs.YtmdahjmkfipdfaaW.PrintLast Go.Proofs.YtmdahjmkfipdfaaW.PrintMore
theorem infoInt : (Try.prog.info? 3).map (fun i => (i.zero, i.size, i.bytes)) = some (some (.int .i64 0), 1, 8) := by kernel_rfl
theorem made_nums (e : TypeId) (W : World) (m : Nat) : Nums (W.alloc (.cells (madeCells #[.int .i64 0] m) e)) W.heap.size e (List.replicate m 0) := by
  unfold Nums
  rw [blk_new]
  have : (madeCells #[Value.int .i64 0] m) = (nums .i64 (List.replicate m 0)).toArray := by
    apply Array.ext'
    apply List.ext_getElem
    · simp [nums, madeCells]
    · intro i h1 h2
      simp [nums, madeCells, Nat.mod_one]
  rw [this]
theorem wrap64'_eq (x : Int) : wrap64' x = wrap64 x := by unfold wrap64' wrap64; rfl
set_option maxHeartbeats 4000000 in
set_option maxRecDepth 100000 in
theorem patValid_calls (p : Pat) (vars imms : Int) (A : Option Addr) (c : Nat) (w : World) (hr : Kd.C kPat w A p.kids.length p.kids) (hcl : p.kids.length ≤ c) :
    Calls Try.prog 37 #[.agg #[.int .i64 p.var, .int .i64 p.op, .int .i64 p.imm, .int .i64 p.immVar, .slice A p.kids.length c], .int .i64 vars, .int .i64 imms] w fun e w' => e = .returned (.bool (patValid p vars imms)) ∧ Below w.heap.size w w' := by
  have hb1 : ∀ ob, Below w.heap.size w (w.alloc ob) := fun ob => (Below.refl _ _).alloc (Nat.le_refl _) _
  have sz := fun W h => Size_calls p A c W h hcl
  have vd := fun (W : World) (g : Nat) h1 h2 h3 h4 => valid_calls imms p A c vars.toNat 0 (List.replicate vars.toNat 0) g w W h1 h2 h3 vars.toNat (by simp) h4 hr hcl
  have E : Hid (patValid p vars imms = if vars < 0 ∨ vars > 6 ∨ imms < 0 ∨ imms > 6 ∨ wrap64 p.size > 24 then false else (valid imms p 0 (List.replicate vars.toNat 0)).1) := Lib.hid (by unfold patValid; rw [wrap64'_eq])
  have hmk : ∀ m : Nat, m ≤ 6 → _ := fun m hm => print_make (P := Try.prog) 29 3 .i64 8 Try.underlying29 infoInt (by decide) m (by omega)
  by_cases h1 : vars < 0
  · rw [E.out, if_pos (Or.inl h1)]
    go_enter Try.func37, Try.ntmps37
    go_wp2
    go_ret
    exact ⟨rfl, hb1 _⟩
  by_cases h2 : vars > 6
  · rw [E.out, if_pos (Or.inr (Or.inl h2))]
    go_enter Try.func37, Try.ntmps37
    go_wp2
    go_ret
    exact ⟨rfl, hb1 _⟩
  by_cases h3 : imms < 0
  · rw [E.out, if_pos (Or.inr (Or.inr (Or.inl h3)))]
    go_enter Try.func37, Try.ntmps37
    go_wp2
    go_ret
    exact ⟨rfl, hb1 _⟩
  by_cases h4 : imms > 6
  · rw [E.out, if_pos (Or.inr (Or.inr (Or.inr (Or.inl h4))))]
    go_enter Try.func37, Try.ntmps37
    go_wp2
    go_ret
    exact ⟨rfl, hb1 _⟩
  generalize wrap64 p.size = z at sz E
  have hz : ∀ ob, Kd.C kPat (w.alloc ob) A p.kids.length p.kids := fun ob => Kd.C_alloc hr _
  by_cases h5 : z > 24
  · rw [E.out, if_pos (Or.inr (Or.inr (Or.inr (Or.inr h5))))]
    go_enter Try.func37, Try.ntmps37
    go_wp2_with fail
    refine (sz _ (hz _)).mono ?_
    rintro e w1 ⟨rfl, hb2⟩
    go_wp2
    go_ret
    exact ⟨rfl, below_then (hb1 _) (by simp) hb2⟩
  · rw [E.out, if_neg (by omega)]
    obtain ⟨m, rfl⟩ := Int.eq_ofNat_of_zero_le (show 0 ≤ vars by omega)
    simp only [Int.toNat_natCast] at vd ⊢
    have hm6 : m ≤ 6 := by omega
    have hmk' := hmk m hm6
    clear hmk E
    go_enter Try.func37, Try.ntmps37
    go_wp2_with fail
    refine (sz _ (hz _)).mono ?_
    rintro e w1 ⟨rfl, hb2⟩
    have hbb := below_then (hb1 _) (by simp) hb2
    have hbk := blk_below (blk_new w _) hb2
    have hc0 := fun ob => (blk_cell (blk_alloc hbk ob) 0).trans rfl
    have hc1 := fun ob => (blk_cell (blk_alloc hbk ob) 1).trans rfl
    have hc2 := fun ob => (blk_cell (blk_alloc hbk ob) 2).trans rfl
    have hc3 := fun ob => (blk_cell (blk_alloc hbk ob) 3).trans rfl
    have hc4 := fun ob => (blk_cell (blk_alloc hbk ob) 4).trans rfl
    have hd0 := (blk_cell hbk 0).trans rfl
    have hd1 := (blk_cell hbk 1).trans rfl
    have hd2 := (blk_cell hbk 2).trans rfl
    have hd3 := (blk_cell hbk 3).trans rfl
    have hd4 := (blk_cell hbk 4).trans rfl
    go_wp2
    have hbA := fun ob => below_drew (hbb.alloc hbb.size ob)
    go_region_with (go_at_call 64; refine (vd _ _ ?_ ?_ ?_ ?_).mono ?_; exact hbA _; exact hbb.size; exact made_nums _ w1 m; exact hm6; rintro e w3 ⟨rfl, _, hB3, _⟩)
    all_goals
      go_wp2
      go_ret
      exact ⟨rfl, hB3⟩
end Go.Proofs.Ytmdahjmkfipdfaa
