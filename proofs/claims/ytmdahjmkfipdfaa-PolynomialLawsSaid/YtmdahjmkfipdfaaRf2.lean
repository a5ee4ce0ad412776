/- walks: fullingref7.Arity, ValidImm, fullingref15.allowed, Sort, OperandSort, HasImm, Size; walk: fullingref15.fits at a variable -/
import Derived.Test.YtmdahjmkfipdfaaWk5
namespace Go.Proofs.Ytmdahjmkfipdfaa
set_option linter.unusedVariables false
set_option linter.unusedSimpArgs false
open Go.RowKit Go.Proofs.YtmdahjmkfipdfaaW.PrintWords Go.Proofs.YtmdahjmkfipdfaaW.PrintLast Go.Proofs.YtmdahjmkfipdfaaW.PrintMore
set_option maxHeartbeats 2000000 in
set_option maxRecDepth 100000 in
theorem refSize_calls : ∀ (p : Pat) (A : Option Addr) (c : Nat) (w : World) (hr : Kd.C kPat w A p.kids.length p.kids) (hc : p.kids.length ≤ c),
    Calls Try.prog 43 #[.agg #[.int .i64 p.var, .int .i64 p.op, .int .i64 p.imm, .int .i64 p.immVar, .slice A p.kids.length c]] w
      fun e w' => e = .returned (.int .i64 (wrap64 p.size)) ∧ Below w.heap.size w w' := by
  refine Pat.ind ?_
  intro p ih A c w hr hc
  have hmax := Kd.C_max hr
  have hW := fun ob => (Below.refl w.heap.size w).alloc (Nat.le_refl _) ob
  go_enter Try.func43, Try.ntmps43
  go_wp2
  obtain ⟨wb, hwb⟩ : ∃ wb, wb = w.alloc (.cells #[.int .i64 p.var, .int .i64 p.op, .int .i64 p.imm, .int .i64 p.immVar, .slice A p.kids.length c] 24) := ⟨_, rfl⟩
  have hbk : wb.heap[w.heap.size]? = some (.cells #[.int .i64 p.var, .int .i64 p.op, .int .i64 p.imm, .int .i64 p.immVar, .slice A p.kids.length c] 24 (0, 0)) := by rw [hwb]; exact blk_new w _
  have hB0 : Below w.heap.size w wb := by rw [hwb]; exact hW _
  replace hwb := Lib.hid hwb
  go_loopw [3, 4] (fun v3 v4 wr => ∃ k : Nat, k ≤ p.kids.length ∧ v4 = .int .i64 k ∧ v3 = .int .i64 (wrap64 (1 + Pat.sizes (p.kids.take k))) ∧ Below wb.heap.size wb wr)
    (fun _ v4 _ => p.kids.length - (intOf v4).toNat)
  case atStart => exact ⟨0, Nat.zero_le _, rfl, by simp [Pat.sizes, wrap64], by rw [hwb.out]; exact Below.refl _ _⟩
  case round =>
    obtain ⟨k, hk, rfl, rfl, hb⟩ := hrel
    have c4 := (blk_cell (blk_below hbk hb) 4).trans rfl
    have hB := below_then hB0 hB0.size hb
    by_cases hlt : k < p.kids.length
    · obtain ⟨q, hq⟩ : ∃ q, p.kids[k]? = some q := ⟨_, List.getElem?_eq_getElem hlt⟩
      obtain ⟨ad, A4, c4', rfl, h0, h1, h2, h3, h4, hl, hC⟩ := atN_Pat (Kd.C_below hr hB) hq
      have hs := Lib.hid (sizes_take_succ hq)
      have hm := Lib.hid (List.mem_of_getElem? hq)
      clear hq
      go_wp2_with fail
      refine (ih q hm.out _ _ _ hC hl).mono ?_
      rintro e w' ⟨rfl, hb2⟩
      go_wp2
      go_roundw
      case rel => exact ⟨k + 1, by omega, by go_num, by rw [hs.out, ← Int.add_assoc, wrap64_add], below_then hb hb.size hb2⟩
      case measure => simp [intOf]; omega
    · go_wp2
      go_ret
      have : k = p.kids.length := by omega
      subst this
      exact ⟨by rw [Pat.size_eq, List.take_length]; rfl, hB⟩
def refSort (op : Int) : Int := if op = 27 ∨ op = 28 ∨ op = 29 then 2 else 1
def refOperandSort (op k : Int) : Int := if k = 0 ∧ (op = 27 ∨ op = 28 ∨ op = 29 ∨ op = 23 ∨ op = 24) then 2 else 1
def refAllowed (op : Int) : Bool := decide (op = 1 ∨ (4 ≤ op ∧ op ≤ 24) ∨ op = 27 ∨ op = 28 ∨ op = 29)
set_option maxRecDepth 100000 in
theorem allowed_calls (op : Int) (w : World) : Calls Try.prog 69 #[.int .i64 op] w fun e w' => e = .returned (.bool (refAllowed op)) ∧ w = w' := by
  by_cases h : op = 1 ∨ op = 27 ∨ op = 28 ∨ op = 29
  · rcases h with rfl | rfl | rfl | rfl
    all_goals
      go_enter Try.func69, Try.ntmps69
      go_wp2
      go_ret
      exact ⟨rfl, rfl⟩
  · have E : Hid (refAllowed op = decide (4 ≤ op ∧ op ≤ 24)) := Lib.hid (by simp only [not_or] at h; simp [refAllowed, h])
    simp only [not_or] at h
    obtain ⟨h1, h2, h3, h4⟩ := h
    have e1 := beq_no h1; have e2 := beq_no h2; have e3 := beq_no h3; have e4 := beq_no h4
    by_cases a : 4 ≤ op
    · by_cases b : op ≤ 24
      · go_enter Try.func69, Try.ntmps69
        go_wp2
        go_ret
        exact ⟨by rw [E.out, decide_eq_true ⟨a, b⟩]; rfl, rfl⟩
      · go_enter Try.func69, Try.ntmps69
        go_wp2
        go_ret
        exact ⟨by rw [E.out, decide_eq_false (by omega)]; rfl, rfl⟩
    · go_enter Try.func69, Try.ntmps69
      go_wp2
      go_ret
      exact ⟨by rw [E.out, decide_eq_false (by omega)]; rfl, rfl⟩
set_option maxRecDepth 100000 in
theorem refSort_calls (op : Int) (w : World) : Calls Try.prog 70 #[.int .i64 op] w fun e w' => e = .returned (.int .i64 (refSort op)) ∧ w = w' := by
  by_cases h : op = 27 ∨ op = 28 ∨ op = 29
  · rcases h with rfl | rfl | rfl
    all_goals
      go_enter Try.func70, Try.ntmps70
      go_wp2
      go_ret
      exact ⟨rfl, rfl⟩
  · have E : Hid (refSort op = 1) := Lib.hid (by rw [refSort, if_neg h])
    simp only [not_or] at h
    obtain ⟨h1, h2, h3⟩ := h
    have e1 := beq_no h1; have e2 := beq_no h2; have e3 := beq_no h3
    go_enter Try.func70, Try.ntmps70
    go_wp2
    go_ret
    exact ⟨by rw [E.out]; rfl, rfl⟩
set_option maxRecDepth 100000 in
theorem refOperandSort_calls (op k : Int) (w : World) : Calls Try.prog 49 #[.int .i64 op, .int .i64 k] w fun e w' => e = .returned (.int .i64 (refOperandSort op k)) ∧ w = w' := by
  by_cases h0 : k = 0
  · subst h0
    have sc := fun W => refSort_calls op W
    by_cases h : op = 27 ∨ op = 28 ∨ op = 29
    · have e : refSort op = 2 := by rw [refSort, if_pos h]
      have E : Hid (refOperandSort op 0 = 2) := Lib.hid (by rw [refOperandSort, if_pos ⟨rfl, by omega⟩])
      rw [e] at sc
      go_enter Try.func49, Try.ntmps49
      go_wp2_with fail
      refine (sc _).mono ?_
      rintro e w' ⟨rfl, rfl⟩
      go_wp2
      go_ret
      exact ⟨by rw [E.out]; rfl, rfl⟩
    · have e : refSort op = 1 := by rw [refSort, if_neg h]
      rw [e] at sc
      by_cases h2 : op = 23 ∨ op = 24
      · have E : Hid (refOperandSort op 0 = 2) := Lib.hid (by rw [refOperandSort, if_pos ⟨rfl, by omega⟩])
        rcases h2 with rfl | rfl
        all_goals
          go_enter Try.func49, Try.ntmps49
          go_wp2_with fail
          refine (sc _).mono ?_
          rintro e w' ⟨rfl, rfl⟩
          go_wp2
          go_ret
          exact ⟨by rw [E.out]; rfl, rfl⟩
      · have E : Hid (refOperandSort op 0 = 1) := Lib.hid (by rw [refOperandSort, if_neg (by omega)])
        simp only [not_or] at h2
        have e1 := beq_no h2.1; have e2 := beq_no h2.2
        go_enter Try.func49, Try.ntmps49
        go_wp2_with fail
        refine (sc _).mono ?_
        rintro e w' ⟨rfl, rfl⟩
        go_wp2
        go_ret
        exact ⟨by rw [E.out]; rfl, rfl⟩
  · have e0 := beq_no h0
    have E : Hid (refOperandSort op k = 1) := Lib.hid (by rw [refOperandSort, if_neg (by omega)])
    go_enter Try.func49, Try.ntmps49
    go_wp2
    go_ret
    exact ⟨by rw [E.out]; rfl, rfl⟩
set_option maxRecDepth 100000 in
theorem refHasImm_calls (op : Int) (w : World) : Calls Try.prog 50 #[.int .i64 op] w
    fun e w' => e = .returned (.bool (hasImm op)) ∧ w = w' := by
  by_cases h : op = 1 ∨ op = 23 ∨ op = 27 ∨ op = 28
  · rcases h with rfl | rfl | rfl | rfl
    all_goals
      go_enter Try.func50, Try.ntmps50
      go_wp2
      go_ret
      exact ⟨rfl, rfl⟩
  · have E : Hid (hasImm op = false) := Lib.hid (by simp only [hasImm, h, decide_false])
    simp only [not_or] at h
    obtain ⟨h1, h2, h3, h4⟩ := h
    have e1 := beq_no h1; have e2 := beq_no h2; have e3 := beq_no h3; have e4 := beq_no h4
    go_enter Try.func50, Try.ntmps50
    go_wp2
    go_ret
    exact ⟨by rw [E.out]; rfl, rfl⟩
set_option maxHeartbeats 2000000 in
set_option maxRecDepth 100000 in
theorem refArity_calls (op : Int) (w : World) : Calls Try.prog 48 #[.int .i64 op] w
    fun e w' => e = .returned (.tuple #[.int .i64 (arity op).1, .bool (arity op).2]) ∧ w = w' := by
  by_cases h : op = 1 ∨ op = 2 ∨ op = 3 ∨ op = 26 ∨ op = 20 ∨ op = 21 ∨ op = 24 ∨ op = 25 ∨ op = 23 ∨ op = 27 ∨ op = 29 ∨ op = 22 ∨ op = 28 ∨ op = 30 ∨ op = 31
  · rcases h with rfl | rfl | rfl | rfl | rfl | rfl | rfl | rfl | rfl | rfl | rfl | rfl | rfl | rfl | rfl
    all_goals
      go_enter Try.func48, Try.ntmps48
      go_wp2
      go_ret2
      exact ⟨rfl, rfl⟩
  · simp only [not_or] at h
    obtain ⟨h1, h2, h3, h4, h5, h6, h7, h8, h9, h10, h11, h12, h13, h14, h15⟩ := h
    have E : Hid (arity op = if 4 ≤ op ∧ op ≤ 19 then (2, true) else (0, false)) := Lib.hid (by simp [arity, *])
    have e1 := beq_no h1; have e2 := beq_no h2; have e3 := beq_no h3; have e4 := beq_no h4; have e5 := beq_no h5; have e6 := beq_no h6
    have e7 := beq_no h7; have e8 := beq_no h8; have e9 := beq_no h9; have e10 := beq_no h10; have e11 := beq_no h11; have e12 := beq_no h12
    have e13 := beq_no h13; have e14 := beq_no h14; have e15 := beq_no h15
    by_cases a : 4 ≤ op
    · by_cases b : op ≤ 19
      · go_enter Try.func48, Try.ntmps48
        go_wp2
        go_ret2
        exact ⟨by rw [E.out, if_pos ⟨a, b⟩]; rfl, rfl⟩
      · go_enter Try.func48, Try.ntmps48
        go_wp2
        go_ret2
        exact ⟨by rw [E.out, if_neg (by omega)]; rfl, rfl⟩
    · go_enter Try.func48, Try.ntmps48
      go_wp2
      go_ret2
      exact ⟨by rw [E.out, if_neg (by omega)]; rfl, rfl⟩
/-- ValidImm of an operation that may stand in a pattern. -/
def refValidImm (op n : Int) : Bool := if op = 1 then true else if op = 23 ∨ op = 28 then decide (0 ≤ n ∧ n ≤ 3) else if op = 27 then decide (1 ≤ n ∧ n ≤ 1000016) else decide (n = 0)
set_option maxHeartbeats 2000000 in
set_option maxRecDepth 100000 in
theorem refValidImm_calls (op n : Int) (w : World) (ha : refAllowed op = true) : Calls Try.prog 71 #[.int .i64 op, .int .i64 n] w
    fun e w' => e = .returned (.bool (refValidImm op n)) ∧ w = w' := by
  have ha' : op = 1 ∨ (4 ≤ op ∧ op ≤ 24) ∨ op = 27 ∨ op = 28 ∨ op = 29 := by simpa [refAllowed] using ha
  clear ha
  have h2 := beq_no (show ¬ op = 2 by omega)
  have h3 := beq_no (show ¬ op = 3 by omega)
  have h30 := beq_no (show ¬ op = 30 by omega)
  have h31 := beq_no (show ¬ op = 31 by omega)
  have h25 := beq_no (show ¬ op = 25 by omega)
  by_cases h1 : op = 1
  · subst h1
    go_enter Try.func71, Try.ntmps71
    go_wp2
    go_ret
    exact ⟨rfl, rfl⟩
  by_cases hm : op = 23 ∨ op = 28
  · by_cases a : 0 ≤ n
    · by_cases b : n ≤ 3
      · have E : Hid (refValidImm op n = true) := Lib.hid (by rw [refValidImm, if_neg h1, if_pos hm]; exact decide_eq_true ⟨a, b⟩)
        rcases hm with rfl | rfl
        all_goals
          go_enter Try.func71, Try.ntmps71
          go_wp2
          go_ret
          exact ⟨by rw [E.out]; rfl, rfl⟩
      · have E : Hid (refValidImm op n = false) := Lib.hid (by rw [refValidImm, if_neg h1, if_pos hm]; exact decide_eq_false (by omega))
        rcases hm with rfl | rfl
        all_goals
          go_enter Try.func71, Try.ntmps71
          go_wp2
          go_ret
          exact ⟨by rw [E.out]; rfl, rfl⟩
    · have E : Hid (refValidImm op n = false) := Lib.hid (by rw [refValidImm, if_neg h1, if_pos hm]; exact decide_eq_false (by omega))
      rcases hm with rfl | rfl
      all_goals
        go_enter Try.func71, Try.ntmps71
        go_wp2
        go_ret
        exact ⟨by rw [E.out]; rfl, rfl⟩
  by_cases h27 : op = 27
  · subst h27
    by_cases a : 0 ≤ n
    · by_cases b : n ≤ 1000016
      · by_cases c : 0 < n
        · have E : Hid (refValidImm 27 n = true) := Lib.hid (by simp [refValidImm]; omega)
          go_enter Try.func71, Try.ntmps71
          go_wp2
          go_ret
          exact ⟨by rw [E.out]; rfl, rfl⟩
        · have E : Hid (refValidImm 27 n = false) := Lib.hid (by simp [refValidImm]; omega)
          go_enter Try.func71, Try.ntmps71
          go_wp2
          go_ret
          exact ⟨by rw [E.out]; rfl, rfl⟩
      · have E : Hid (refValidImm 27 n = false) := Lib.hid (by simp [refValidImm]; omega)
        go_enter Try.func71, Try.ntmps71
        go_wp2
        go_ret
        exact ⟨by rw [E.out]; rfl, rfl⟩
    · have E : Hid (refValidImm 27 n = false) := Lib.hid (by simp [refValidImm]; omega)
      go_enter Try.func71, Try.ntmps71
      go_wp2
      go_ret
      exact ⟨by rw [E.out]; rfl, rfl⟩
  have E : Hid (refValidImm op n = decide (n = 0)) := Lib.hid (by rw [refValidImm, if_neg h1, if_neg hm, if_neg h27])
  simp only [not_or] at hm
  have e1 := beq_no h1
  have e23 := beq_no hm.1
  have e28 := beq_no hm.2
  have e27 := beq_no h27
  clear ha' h1 hm h27
  go_enter Try.func71, Try.ntmps71
  go_wp2
  go_ret
  exact ⟨by rw [E.out]; rfl, rfl⟩
end Go.Proofs.Ytmdahjmkfipdfaa
namespace Go.Proofs.Ytmdahjmkfipdfaa
set_option linter.unusedVariables false
set_option linter.unusedSimpArgs false
open Go.RowKit Go.Proofs.YtmdahjmkfipdfaaW.PrintWords Go.Proofs.YtmdahjmkfipdfaaW.PrintLast Go.Proofs.YtmdahjmkfipdfaaW.PrintMore
/-- What fits leaves in the row of sorts (its entry 0 is not used). -/
def FitsRes (w0 w : World) (g len : Nat) (r : Bool × List Int) (e : Ending) (w' : World) : Prop :=
  ∃ s' : List Int, e = .returned (.bool r.1) ∧ Nums w' g 3 s' ∧ s'.length = len ∧ (r.1 = true → s'.tail = r.2) ∧ Below w0.heap.size w0 w' ∧ KeepBut w w' g none
theorem set_same {l : List Int} {n : Nat} {x : Int} (h : l[n]? = some x) : l.set n x = l := by
  apply List.ext_getElem?
  intro i
  rw [List.getElem?_set]
  split
  · rename_i e; subst e
    rw [h]
    have := (List.getElem?_eq_some_iff.1 h).1
    simp [this]
  · rfl
set_option maxHeartbeats 2000000 in
set_option maxRecDepth 100000 in
theorem fits_var (imms : Int) (p : Pat) (A : Option Addr) (c cv : Nat) (pos : Int) (s : List Int) (g : Nat) (w0 w : World) (hB : Below w0.heap.size w0 w) (hg : w0.heap.size ≤ g)
    (hv : Nums w g 3 s) (nv : Nat) (hnv : s.length = nv + 1) (hn : nv ≤ 6) (h0 : p.var ≠ 0) :
    Calls Try.prog 42 #[.agg #[.int .i64 p.var, .int .i64 p.op, .int .i64 p.imm, .int .i64 p.immVar, .slice A p.kids.length c], .int .i64 pos, .slice (some ⟨g, 0, none⟩) (nv + 1 : Nat) cv, .int .i64 imms] w (FitsRes w0 w g (nv + 1) (valid imms p pos s.tail)) := by
  obtain ⟨v, o, i, iv, ks⟩ := p
  simp only at h0 ⊢
  obtain ⟨vars, hvars⟩ : ∃ vars, vars = s.tail := ⟨_, rfl⟩
  have hvl : vars.length = nv := by rw [hvars, List.length_tail]; omega
  rw [← hvars]
  have hkf : ∀ ob, FitsRes w0 w g (nv + 1) (false, vars) (.returned (.bool false)) (w.alloc ob) := fun ob => ⟨s, rfl, hv.below ((Below.refl _ _).alloc (Nat.le_refl _) _), hnv, (fun h => by cases h), hB.alloc hB.size _, keep_alloc (KeepBut.refl _ _ _) _⟩
  have hkt : ∀ ob, FitsRes w0 w g (nv + 1) (true, vars) (.returned (.bool true)) (w.alloc ob) := fun ob => ⟨s, rfl, hv.below ((Below.refl _ _).alloc (Nat.le_refl _) _), hnv, fun _ => hvars.symm, hB.alloc hB.size _, keep_alloc (KeepBut.refl _ _ _) _⟩
  have e0 : (v != 0) = true := by simpa using h0
  have E : Hid (valid imms ⟨v, o, i, iv, ks⟩ pos vars = if v < 1 ∨ v > vars.length ∨ o ≠ 0 ∨ i ≠ 0 ∨ iv ≠ 0 ∨ ks.length > 0 then (false, vars)
      else if vars.getD (v - 1).toNat 0 = 0 then (true, vars.set (v - 1).toNat pos)
      else if pos ≠ 0 ∧ pos ≠ vars.getD (v - 1).toNat 0 then (false, vars) else (true, vars)) := Lib.hid (by rw [valid, if_pos h0])
  rw [hvl] at E
  replace hvl := Lib.hid hvl
  replace hnv := Lib.hid hnv
  replace hvars := Lib.hid hvars
  by_cases h1 : v < 1
  · rw [E.out, if_pos (Or.inl h1)]
    clear E
    go_enter Try.func42, Try.ntmps42
    go_wp2
    go_ret
    exact hkf _
  by_cases h2 : v > nv
  · rw [E.out, if_pos (Or.inr (Or.inl h2))]
    clear E
    have h2' : (nv : Int) + 1 ≤ v := by omega
    go_enter Try.func42, Try.ntmps42
    go_wp2
    go_ret
    exact hkf _
  have h2' : ¬ (nv : Int) + 1 ≤ v := by omega
  by_cases h3 : o ≠ 0
  · rw [E.out, if_pos (Or.inr (Or.inr (Or.inl h3)))]
    clear E
    have e3 : (o != 0) = true := by simpa using h3
    go_enter Try.func42, Try.ntmps42
    go_wp2
    go_ret
    exact hkf _
  obtain rfl : o = 0 := Classical.not_not.1 h3
  by_cases h4 : i ≠ 0
  · rw [E.out, if_pos (by simp [h4])]
    clear E
    have e3 : (i != 0) = true := by simpa using h4
    go_enter Try.func42, Try.ntmps42
    go_wp2
    go_ret
    exact hkf _
  obtain rfl : i = 0 := Classical.not_not.1 h4
  by_cases h5 : iv ≠ 0
  · rw [E.out, if_pos (by simp [h5])]
    clear E
    have e3 : (iv != 0) = true := by simpa using h5
    go_enter Try.func42, Try.ntmps42
    go_wp2
    go_ret
    exact hkf _
  obtain rfl : iv = 0 := Classical.not_not.1 h5
  by_cases h6 : ks.length > 0
  · rw [E.out, if_pos (Or.inr (Or.inr (Or.inr (Or.inr (Or.inr h6)))))]
    clear E
    have e6 : ((ks.length : Int) != 0) = true := bne_iff_ne.2 (by omega)
    go_enter Try.func42, Try.ntmps42
    go_wp2
    go_ret
    exact hkf _
  rw [if_neg (by omega)] at E
  obtain ⟨n, rfl⟩ : ∃ n : Nat, v = (n : Int) + 1 := ⟨(v - 1).toNat, by omega⟩
  have hn1 : n < nv := by omega
  obtain ⟨x, hx⟩ : ∃ x, s[n + 1]? = some x := ⟨_, List.getElem?_eq_getElem (by have := hnv.out; omega)⟩
  have hxv : vars[n]? = some x := by rw [hvars.out, List.getElem?_tail]; exact hx
  have en : ((n : Int) + 1 - 1).toNat = n := by omega
  rw [en] at E
  have ex : vars.getD n 0 = x := by simp [List.getD_eq_getElem?_getD, hxv]
  rw [ex] at E
  clear ex en
  have hb : ∀ ob, Below w.heap.size w (w.alloc ob) := fun ob => (Below.refl _ _).alloc (Nat.le_refl _) _
  have hc : ∀ ob, (w.alloc ob).cell? ⟨g, n + 1, none⟩ = some (.int .i64 x) := fun ob => (hv.below (hb ob)).cell hx
  have hf : ∀ ob, (w.alloc ob).frozen? ⟨g, n + 1, none⟩ = false := fun ob => (hv.below (hb ob)).free (n + 1)
  have hx' := Lib.hid hx
  have hxv' := Lib.hid hxv
  clear hx hxv h1 h2
  have hks : ks.length = 0 := by omega
  by_cases hp : pos = 0
  · subst hp
    have E2 : Hid (valid imms ⟨(n : Int) + 1, 0, 0, 0, ks⟩ 0 vars = (true, vars)) := Lib.hid (by
      rw [E.out]
      by_cases hx0 : x = 0
      · rw [if_pos hx0, set_same (by rw [← hx0]; exact hxv'.out)]
      · rw [if_neg hx0, if_neg (by simp)])
    rw [E2.out]
    clear E E2
    go_enter Try.func42, Try.ntmps42
    go_wp2
    go_ret
    exact hkt _
  · have ep : (pos != 0) = true := by simpa using hp
    have ep' := beq_no hp
    by_cases hx0 : x = 0
    · subst hx0
      rw [E.out, if_pos rfl]
      clear E
      go_enter Try.func42, Try.ntmps42
      go_wp2
      go_ret
      exact ⟨s.set (n + 1) pos, rfl, (hv.below (hb _)).set (n + 1) pos, by rw [List.length_set]; exact hnv.out, (fun _ => by rw [hvars.out]; cases s <;> rfl), (hB.alloc hB.size _).setCell hg _, (keep_alloc (KeepBut.refl _ _ _) _).set_ _ _⟩
    · have ex0 := beq_no hx0
      rw [if_neg hx0] at E
      by_cases hpx : pos = x
      · subst hpx
        rw [E.out, if_neg (by simp)]
        clear E
        go_enter Try.func42, Try.ntmps42
        go_wp2
        go_ret
        exact hkt _
      · have epx := beq_no (show ¬ x = pos from fun h => hpx h.symm)
        rw [E.out, if_pos ⟨hp, hpx⟩]
        clear E
        go_enter Try.func42, Try.ntmps42
        go_wp2
        go_ret
        exact hkf _
end Go.Proofs.Ytmdahjmkfipdfaa
