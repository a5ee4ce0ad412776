/- walks: pattern.valid; walks: pattern.valid, pattern.Valid -/
import Derived.Test.YtmdahjmkfipdfaaWk2
namespace Go.Proofs.Ytmdahjmkfipdfaa
set_option linter.unusedVariables false
set_option linter.unusedSimpArgs false
open Go.RowKit Go.Proofs.YtmdahjmkfipdfaaW.PrintWords Go.Proofs.YtmdahjmkfipdfaaW.PrintLast Go.Proofs.YtmdahjmkfipdfaaW.PrintMore
/-- The block of a row of whole numbers that the call may write. -/
def Nums (w : World) (g : Nat) (e : TypeId) (l : List Int) : Prop := w.heap[g]? = some (.cells (nums .i64 l).toArray e (0, 0))
theorem Nums.cell {w : World} {g : Nat} {e : TypeId} {l : List Int} (h : Nums w g e l) {i : Nat} {x : Int} (hx : l[i]? = some x) : w.cell? ⟨g, i, none⟩ = some (.int .i64 x) := by
  rw [blk_cell h]; simp [nums, hx]
theorem Nums.free {w : World} {g : Nat} {e : TypeId} {l : List Int} (h : Nums w g e l) (i : Nat) : w.frozen? ⟨g, i, none⟩ = false := blk_frozen h i
theorem Nums.set {w : World} {g : Nat} {e : TypeId} {l : List Int} (h : Nums w g e l) (i : Nat) (x : Int) : Nums (w.setCell ⟨g, i, none⟩ (.int .i64 x)) g e (l.set i x) := by
  have := blk_set h i (.int .i64 x)
  unfold Nums
  rw [this]
  simp [nums]
theorem Nums.below {w w' : World} {g : Nat} {e : TypeId} {l : List Int} (h : Nums w g e l) (hb : Below w.heap.size w w') : Nums w' g e l := blk_below h hb
theorem Nums.lt {w : World} {g : Nat} {e : TypeId} {l : List Int} (h : Nums w g e l) : g < w.heap.size := blk_lt h
/-- What valid leaves. -/
def ValidRes (w0 w : World) (g : Nat) (e : TypeId) (r : Bool × List Int) (en : Ending) (w' : World) : Prop :=
  en = .returned (.bool r.1) ∧ Nums w' g e r.2 ∧ Below w0.heap.size w0 w' ∧ KeepBut w w' g none
set_option maxHeartbeats 2000000 in
set_option maxRecDepth 100000 in
theorem valid_var (p : Pat) (A : Option Addr) (c cv : Nat) (sort imms : Int) (vars : List Int) (g : Nat) (w0 w : World) (hB : Below w0.heap.size w0 w) (hg : w0.heap.size ≤ g)
    (hv : Nums w g 3 vars) (nv : Nat) (hnv : vars.length = nv) (hn : nv ≤ 6) (h0 : p.var ≠ 0) :
    Calls Try.prog 64 #[.agg #[.int .i64 p.var, .int .i64 p.op, .int .i64 p.imm, .int .i64 p.immVar, .slice A p.kids.length c], .int .i64 sort, .int .i64 imms, .slice (some ⟨g, 0, none⟩) nv cv] w (ValidRes w0 w g 3 (valid imms p sort vars)) := by
  subst hnv
  obtain ⟨v, o, i, iv, ks⟩ := p
  simp only at h0 ⊢
  have hne : ∀ o, (w.alloc o).heap[g]? = w.heap[g]? := fun o => by simp [Below.heap_alloc w o g hv.lt]
  have hk0 : ∀ ob, ValidRes w0 w g 3 (false, vars) (.returned (.bool false)) (w.alloc ob) := fun ob => ⟨rfl, hv.below ((Below.refl _ _).alloc (Nat.le_refl _) _), hB.alloc hB.size _, keep_alloc (KeepBut.refl _ _ _) _⟩
  have e0 : (v != 0) = true := by simpa using h0
  have E : Hid (valid imms ⟨v, o, i, iv, ks⟩ sort vars = if v < 1 ∨ v > vars.length ∨ o ≠ 0 ∨ i ≠ 0 ∨ iv ≠ 0 ∨ ks.length > 0 then (false, vars)
      else if vars.getD (v - 1).toNat 0 = 0 then (true, vars.set (v - 1).toNat sort)
      else if sort ≠ 0 ∧ sort ≠ vars.getD (v - 1).toNat 0 then (false, vars) else (true, vars)) := Lib.hid (by rw [valid, if_pos h0])
  by_cases h1 : v < 1
  · rw [E.out, if_pos (Or.inl h1)]
    go_enter Try.func64, Try.ntmps64
    go_wp2
    go_ret
    exact hk0 _
  by_cases h2 : v > vars.length
  · rw [E.out, if_pos (Or.inr (Or.inl h2))]
    go_enter Try.func64, Try.ntmps64
    go_wp2
    go_ret
    exact hk0 _
  by_cases h3 : o ≠ 0
  · rw [E.out, if_pos (Or.inr (Or.inr (Or.inl h3)))]
    have e3 : (o != 0) = true := by simpa using h3
    go_enter Try.func64, Try.ntmps64
    go_wp2
    go_ret
    exact hk0 _
  obtain rfl : o = 0 := Classical.not_not.1 h3
  by_cases h4 : i ≠ 0
  · rw [E.out, if_pos (by simp [h4])]
    have e3 : (i != 0) = true := by simpa using h4
    go_enter Try.func64, Try.ntmps64
    go_wp2
    go_ret
    exact hk0 _
  obtain rfl : i = 0 := Classical.not_not.1 h4
  by_cases h5 : iv ≠ 0
  · rw [E.out, if_pos (by simp [h5])]
    have e3 : (iv != 0) = true := by simpa using h5
    go_enter Try.func64, Try.ntmps64
    go_wp2
    go_ret
    exact hk0 _
  obtain rfl : iv = 0 := Classical.not_not.1 h5
  by_cases h6 : ks.length > 0
  · rw [E.out, if_pos (by simp; omega)]
    go_enter Try.func64, Try.ntmps64
    go_wp2
    go_ret
    exact hk0 _
  rw [if_neg (by omega)] at E
  obtain ⟨n, rfl⟩ : ∃ n : Nat, v = (n : Int) + 1 := ⟨(v - 1).toNat, by omega⟩
  have hn1 : n < vars.length := by omega
  obtain ⟨x, hx⟩ : ∃ x, vars[n]? = some x := ⟨_, List.getElem?_eq_getElem hn1⟩
  have en : ((n : Int) + 1 - 1).toNat = n := by omega
  rw [en] at E
  have ex : vars.getD n 0 = x := by simp [List.getD_eq_getElem?_getD, hx]
  rw [ex] at E
  clear ex en
  have hb : ∀ ob, Below w.heap.size w (w.alloc ob) := fun ob => (Below.refl _ _).alloc (Nat.le_refl _) _
  have hc : ∀ ob, (w.alloc ob).cell? ⟨g, n, none⟩ = some (.int .i64 x) := fun ob => (hv.below (hb ob)).cell hx
  have hf : ∀ ob, (w.alloc ob).frozen? ⟨g, n, none⟩ = false := fun ob => (hv.below (hb ob)).free n
  clear hx
  have hks : ks.length = 0 := by omega
  have hks' := Lib.hid hks
  have hk1 : ∀ ob, ValidRes w0 w g 3 (true, vars) (.returned (.bool true)) (w.alloc ob) := fun ob => ⟨rfl, hv.below (hb ob), hB.alloc hB.size _, keep_alloc (KeepBut.refl _ _ _) _⟩
  by_cases hx0 : x = 0
  · subst hx0
    rw [E.out, if_pos rfl]
    clear E
    go_enter Try.func64, Try.ntmps64
    go_wp2
    go_ret
    exact ⟨rfl, (hv.below (hb _)).set n sort, (hB.alloc hB.size _).setCell hg _, (keep_alloc (KeepBut.refl _ _ _) _).set_ _ _⟩
  · have ex0 := beq_no hx0
    rw [if_neg hx0] at E
    by_cases hs0 : sort = 0
    · subst hs0
      rw [E.out, if_neg (by simp)]
      clear E
      go_enter Try.func64, Try.ntmps64
      go_wp2
      go_ret
      exact hk1 _
    · have es0 : (sort != 0) = true := by simpa using hs0
      by_cases hsx : sort = x
      · subst hsx
        rw [E.out, if_neg (by simp)]
        clear E
        go_enter Try.func64, Try.ntmps64
        go_wp2
        go_ret
        exact hk1 _
      · have esx : (sort != x) = true := by simpa using hsx
        rw [E.out, if_pos ⟨hs0, hsx⟩]
        clear E
        go_enter Try.func64, Try.ntmps64
        go_wp2
        go_ret
        exact hk0 _
end Go.Proofs.Ytmdahjmkfipdfaa
namespace Go.Proofs.Ytmdahjmkfipdfaa
set_option linter.unusedVariables false
set_option linter.unusedSimpArgs false
open Go.RowKit Go.Proofs.YtmdahjmkfipdfaaW.PrintWords Go.Proofs.YtmdahjmkfipdfaaW.PrintLast Go.Proofs.YtmdahjmkfipdfaaW.PrintMore
theorem keep_below {w W W' : World} {g : Nat} (h : KeepBut w W g none) (hb : Below W.heap.size W W') : KeepBut w W' g none := h.trans (KeepBut.of_below hb g none) (.inl rfl)
theorem opSorts_kids {op : Int} {l : List Int} {s : Int} (h : opSorts op = some (l, s)) : l.length ≤ 3 := by
  unfold opSorts at h
  repeat' split at h
  all_goals (cases h; try decide)
set_option maxHeartbeats 4000000 in
set_option maxRecDepth 100000 in
theorem valid_calls (imms : Int) : ∀ (p : Pat) (A : Option Addr) (c cv : Nat) (sort : Int) (vars : List Int) (g : Nat) (w0 w : World) (hB : Below w0.heap.size w0 w) (hg : w0.heap.size ≤ g)
    (hv : Nums w g 3 vars) (nv : Nat) (hnv : vars.length = nv) (hn : nv ≤ 6) (hr : Kd.C kPat w0 A p.kids.length p.kids) (hcl : p.kids.length ≤ c),
    Calls Try.prog 64 #[.agg #[.int .i64 p.var, .int .i64 p.op, .int .i64 p.imm, .int .i64 p.immVar, .slice A p.kids.length c], .int .i64 sort, .int .i64 imms, .slice (some ⟨g, 0, none⟩) nv cv] w (ValidRes w0 w g 3 (valid imms p sort vars)) := by
  refine Pat.ind ?_
  intro p ih A c cv sort vars g w0 w hB hg hv nv hnv hn hr hcl
  by_cases h0 : p.var ≠ 0
  · exact valid_var p A c cv sort imms vars g w0 w hB hg hv nv hnv hn h0
  have h0' : p.var = 0 := Classical.not_not.1 h0
  clear h0
  replace hnv := Lib.hid hnv
  have vi := validImm_calls p imms A c
  obtain ⟨v, o, i, iv, ks⟩ := p
  simp only at h0' ih hr hcl vi ⊢
  subst h0'
  have hmax := Kd.C_max hr
  have hsz := Lib.hid hB.size
  have os := operandSorts_calls o
  have hk1 : ∀ {W b}, Below w.heap.size w W → ValidRes w0 w g 3 (b, vars) (.returned (.bool b)) W := fun h => ⟨rfl, hv.below h, below_weaken hB hsz.out h, KeepBut.of_below h _ _⟩
  have hb1 : ∀ ob, Below w.heap.size w (w.alloc ob) := fun ob => (Below.refl _ _).alloc (Nat.le_refl _) _
  rcases hos : opSorts o with _ | ⟨kids, own⟩
  · rw [valid_none hos]
    rw [hos] at os
    clear vi ih hos
    go_enter Try.func64, Try.ntmps64
    go_wp2_with fail
    refine (os _).mono ?_
    rintro e w1 ⟨v1, rfl, hR, hb2⟩
    obtain ⟨A1, c1, rfl⟩ := Kd.R_slice hR
    go_wp2
    go_ret
    exact hk1 (below_then (hb1 _) (by simp) hb2)
  · rw [valid_some hos]
    rw [hos] at os
    have hkl := opSorts_kids hos
    clear hos
    by_cases h1 : ks.length ≠ kids.length
    · rw [if_pos (Or.inl h1)]
      clear vi ih
      go_enter Try.func64, Try.ntmps64
      go_wp2_with fail
      refine (os _).mono ?_
      rintro e w1 ⟨v1, rfl, hR, hb2⟩
      obtain ⟨A1, c1, rfl⟩ := Kd.R_slice hR
      have hbb := below_then (hb1 _) (by simp) hb2
      have hc4 : w1.cell? ⟨w.heap.size, 4, none⟩ = some (.slice A ks.length c) := (hb2.cell (by simp)).trans (by simp)
      have e1 : ¬ (ks.length : Int) = (kids.length : Int) := by omega
      go_wp2
      go_ret
      exact hk1 hbb
    · have hl1 : ks.length = kids.length := Classical.not_not.1 h1
      by_cases h2 : sort ≠ 0 ∧ sort ≠ own
      · rw [if_pos (Or.inr (Or.inl h2))]
        clear vi ih h1
        obtain ⟨h2, h3⟩ := h2
        have e2 : (sort != 0) = true := by simpa using h2
        have e3 : (sort != own) = true := by simpa using h3
        have e1 : (ks.length : Int) = (kids.length : Int) := by omega
        replace hl1 := Lib.hid hl1
        go_enter Try.func64, Try.ntmps64
        go_wp2_with fail
        refine (os _).mono ?_
        rintro e w1 ⟨v1, rfl, hR, hb2⟩
        obtain ⟨A1, c1, rfl⟩ := Kd.R_slice hR
        have hbb := below_then (hb1 _) (by simp) hb2
        have hc4 : w1.cell? ⟨w.heap.size, 4, none⟩ = some (.slice A ks.length c) := (hb2.cell (by simp)).trans (by simp)
        go_wp2
        go_ret
        exact hk1 hbb
      · have hs : sort = 0 ∨ sort ≠ 0 ∧ sort = own := by
          by_cases a : sort = 0
          · exact Or.inl a
          · exact Or.inr ⟨a, Classical.byContradiction fun b => h2 ⟨a, b⟩⟩
        clear h2
        replace hl1 := Lib.hid hl1
        have e1 : (ks.length : Int) = (kids.length : Int) := by have := hl1.out; omega
        by_cases h4 : validImm ⟨0, o, i, iv, ks⟩ imms = false
        · rw [if_pos (Or.inr (Or.inr h4))]
          rw [h4] at vi
          clear ih h1 h4
          rcases hs with rfl | ⟨h2, rfl⟩
          rotate_left
          have e2 : (sort != 0) = true := by simpa using h2
          all_goals
            go_enter Try.func64, Try.ntmps64
            go_wp2_with fail
            refine (os _).mono ?_
            rintro e w1 ⟨v1, rfl, hR, hb2⟩
            obtain ⟨A1, c1, rfl⟩ := Kd.R_slice hR
            have hbb := below_then (hb1 _) (by simp) hb2
            have hbk := blk_below (blk_new w _) hb2
            have hc0 := (blk_cell hbk 0).trans rfl
            have hc1 := (blk_cell hbk 1).trans rfl
            have hc2 := (blk_cell hbk 2).trans rfl
            have hc3 := (blk_cell hbk 3).trans rfl
            have hc4 := (blk_cell hbk 4).trans rfl
            go_wp2_with fail
            refine (vi _).mono ?_
            rintro e w2 ⟨rfl, hb3⟩
            go_wp2
            go_ret
            exact hk1 (below_then hbb hbb.size hb3)
        · have h4' : validImm ⟨0, o, i, iv, ks⟩ imms = true := by simpa using h4
          rw [if_neg (fun a => a.elim h1 (fun a => a.elim (fun a => hs.elim a.1 (fun b => a.2 b.2)) h4))]
          rw [h4'] at vi
          clear h1 h4 h4'
          rcases hs with rfl | ⟨h2, rfl⟩
          rotate_left
          have e2 : (sort != 0) = true := by simpa using h2
          all_goals
            go_enter Try.func64, Try.ntmps64
            go_wp2_with fail
            refine (os _).mono ?_
            rintro e w1 ⟨v1, rfl, hR, hb2⟩
            obtain ⟨A1, c1, rfl⟩ := Kd.R_slice hR
            have hbb := below_then (hb1 _) (by simp) hb2
            have hbk := blk_below (blk_new w _) hb2
            have hc0 := (blk_cell hbk 0).trans rfl
            have hc1 := (blk_cell hbk 1).trans rfl
            have hc2 := (blk_cell hbk 2).trans rfl
            have hc3 := (blk_cell hbk 3).trans rfl
            have hc4 := (blk_cell hbk 4).trans rfl
            go_wp2_with fail
            refine (vi _).mono ?_
            rintro e w2 ⟨rfl, hb3⟩
            have hR1 : (Kd.int .i64).R 3 w1 (w.heap.size + 1) (fun _ => True) (.slice A1 kids.length c1) kids := by simpa using hR
            have hR2 : (Kd.int .i64).R 3 w2 (w.heap.size + 1) (fun k => k ≠ g) (.slice A1 kids.length c1) kids := Kd.R_mono (Kd.R_bound (Kd.R_below hR1 hb3)) (fun k hk e => by have a := hk.2.1; have b := hv.lt; omega)
            have hbw2 := below_then hbb hbb.size hb3
            have hbk2 := blk_below hbk hb3
            have hc4' := (blk_cell hbk2 4).trans rfl
            clear hbk hc0 hc1 hc2 hc3 hc4 hb2 hb3 hR hR1 hbk2
            go_wp2
            go_loopw [105] (fun v105 wr => ∃ (k : Nat) (vs : List Int), k ≤ ks.length ∧ v105 = .int .i64 k ∧ Hid (vs.length = nv) ∧ Hid (valids imms ks kids vars = valids imms (ks.drop k) (kids.drop k) vs) ∧ Nums wr g 3 vs ∧ Below w0.heap.size w0 wr ∧ KeepBut w2 wr g none)
              (fun v105 _ => ks.length - (intOf v105).toNat)
            case atStart => exact ⟨0, vars, Nat.zero_le _, rfl, hnv, Lib.hid rfl, hv.below hbw2, below_weaken hB hsz.out hbw2, KeepBut.refl _ _ _⟩
            case round =>
              obtain ⟨k, vs, hk, rfl, hvl, hE, hN, hBr, hK⟩ := hrel
              by_cases hlt : k < ks.length
              · obtain ⟨q, hq⟩ : ∃ q, ks[k]? = some q := ⟨_, List.getElem?_eq_getElem hlt⟩
                obtain ⟨x, hx⟩ : ∃ x, kids[k]? = some x := ⟨_, List.getElem?_eq_getElem (by have := hl1.out; omega)⟩
                obtain ⟨ad, A4, c4, rfl, h0, h1, h2, h3, h4, hl, hC⟩ := atN_Pat hr hq
                replace h0 := pw_cell_below hBr h0
                replace h1 := pw_cell_below hBr h1
                replace h2 := pw_cell_below hBr h2
                replace h3 := pw_cell_below hBr h3
                replace h4 := pw_cell_below hBr h4
                obtain ⟨ad1, rfl, hx1⟩ := atN_int (Kd.R_reads' (Kd.R_keep hR2 hK (fun _ h => h))).2.2 hx
                have hE' := Lib.hid (hE.out.trans (valids_drop imms ks kids vs k q x hq hx))
                have hm := Lib.hid (List.mem_of_getElem? hq)
                have hlk : k < kids.length := by have := hl1.out; omega
                clear hq hx hE
                rcases hvq : valid imms q x vs with ⟨b, vs'⟩
                have ihq := fun W h1 h2 => ih q hm.out A4 c4 cv x vs g w0 W h1 hg h2 nv hvl.out hn hC hl
                rw [hvq] at ihq hE'
                simp only at hE'
                have hA := fun ob => hBr.alloc hBr.size ob
                have hW := fun ob => (Below.refl wr.heap.size wr).alloc (Nat.le_refl _) ob
                have hA' := fun ob => below_drew (hA ob)
                have hNA := fun ob => hN.below (below_drew (hW ob))
                have hx2 := fun ob => pw_cell_below (hW ob) hx1
                have hkk : KeepBut w wr g none := (KeepBut.of_below hbw2 _ _).trans hK (.inl rfl)
                have hvl' : Hid (vs'.length = nv) := Lib.hid (by have := valid_len imms q x vs; rw [hvq] at this; rw [← hvl.out]; exact this)
                rcases b with _ | _
                · rw [hE'.out, if_neg (by simp)]
                  clear hE'
                  go_wp2
                  go_region_with (go_at_call 64; refine (ihq _ ?_ ?_).mono ?_; exact hA' _; exact hNA _; rintro e w3 ⟨rfl, hN3, hB3, hK3⟩)
                  all_goals
                    go_wp2
                    go_ret
                    exact ⟨rfl, hN3, hB3, (keep_below hkk (below_drew (hW _))).trans hK3 (.inl rfl)⟩
                · rw [if_pos rfl] at hE'
                  go_wp2
                  go_region_with (go_at_call 64; refine (ihq _ ?_ ?_).mono ?_; exact hA' _; exact hNA _; rintro e w3 ⟨rfl, hN3, hB3, hK3⟩)
                  all_goals
                    go_wp2
                    go_roundw
                    case rel => exact ⟨k + 1, vs', by omega, by go_num, hvl', Lib.hid hE'.out, hN3, hB3, (keep_below hK (below_drew (hW _))).trans hK3 (.inl rfl)⟩
                    case measure => simp [intOf]; omega
              · go_wp2
                go_ret
                have ek : k = ks.length := by omega
                have := hl1.out
                subst ek
                rw [hE.out, List.drop_length, valids]
                exact ⟨rfl, hN, hBr, keep_below (KeepBut.of_below hbw2 _ _) (Below.refl _ _) |>.trans hK (.inl rfl)⟩
end Go.Proofs.Ytmdahjmkfipdfaa
