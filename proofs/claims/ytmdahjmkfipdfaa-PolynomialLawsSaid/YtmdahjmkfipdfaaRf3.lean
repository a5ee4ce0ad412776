/- walks: fullingref15.fits, Valid -/
import Derived.Test.YtmdahjmkfipdfaaRf2
namespace Go.Proofs.Ytmdahjmkfipdfaa
set_option linter.unusedVariables false
set_option linter.unusedSimpArgs false
open Go.RowKit Go.Proofs.YtmdahjmkfipdfaaW.PrintWords Go.Proofs.YtmdahjmkfipdfaaW.PrintLast Go.Proofs.YtmdahjmkfipdfaaW.PrintMore
theorem opSorts_none {op : Int} (h : opSorts op = none) : refAllowed op = false := by
  unfold opSorts at h
  repeat' split at h
  all_goals first | cases h | skip
  refine decide_eq_false ?_
  omega
theorem opSorts_some {op own : Int} {kids : List Int} (h : opSorts op = some (kids, own)) : refAllowed op = true ∧ (arity op).1 = kids.length ∧ own = refSort op ∧ ∀ (k : Nat) (x : Int), kids[k]? = some x → x = refOperandSort op k := by
  have k2 : ∀ (a b : Int) (P : Nat → Int → Prop), P 0 a → P 1 b → ∀ (k : Nat) (x : Int), [a, b][k]? = some x → P k x := by
    intro a b P h0 h1 k x hk
    match k, hk with
    | 0, hk => cases hk; exact h0
    | 1, hk => cases hk; exact h1
  have k1 : ∀ (a : Int) (P : Nat → Int → Prop), P 0 a → ∀ (k : Nat) (x : Int), [a][k]? = some x → P k x := by
    intro a P h0 k x hk
    match k, hk with
    | 0, hk => cases hk; exact h0
  have k3 : ∀ (a b c : Int) (P : Nat → Int → Prop), P 0 a → P 1 b → P 2 c → ∀ (k : Nat) (x : Int), [a, b, c][k]? = some x → P k x := by
    intro a b c P h0 h1 h2 k x hk
    match k, hk with
    | 0, hk => cases hk; exact h0
    | 1, hk => cases hk; exact h1
    | 2, hk => cases hk; exact h2
  unfold opSorts at h
  by_cases c1 : op = 1
  · subst c1; cases h; exact ⟨rfl, rfl, rfl, fun k x hk => by simp at hk⟩
  rw [if_neg c1] at h
  by_cases c2 : op = 23
  · subst c2; cases h; exact ⟨rfl, rfl, rfl, k2 2 1 (fun k x => x = refOperandSort 23 k) rfl rfl⟩
  rw [if_neg c2] at h
  by_cases c3 : op = 24
  · subst c3; cases h; exact ⟨rfl, rfl, rfl, k1 2 (fun k x => x = refOperandSort 24 k) rfl⟩
  rw [if_neg c3] at h
  by_cases c4 : op = 27 ∨ op = 29
  · rw [if_pos c4] at h; cases h
    rcases c4 with rfl | rfl
    · exact ⟨rfl, rfl, rfl, k2 2 1 (fun k x => x = refOperandSort 27 k) rfl rfl⟩
    · exact ⟨rfl, rfl, rfl, k2 2 1 (fun k x => x = refOperandSort 29 k) rfl rfl⟩
  rw [if_neg c4] at h
  by_cases c5 : op = 28
  · subst c5; cases h; exact ⟨rfl, rfl, rfl, k3 2 1 1 (fun k x => x = refOperandSort 28 k) rfl rfl rfl⟩
  rw [if_neg c5] at h
  have os : ∀ k : Nat, refOperandSort op k = 1 := fun k => by rw [refOperandSort, if_neg (by omega)]
  have rs : refSort op = 1 := by rw [refSort, if_neg (by omega)]
  by_cases c6 : 4 ≤ op ∧ op ≤ 19
  · rw [if_pos c6] at h; cases h
    refine ⟨decide_eq_true (by omega), ?_, rs.symm, k2 1 1 (fun k x => x = refOperandSort op k) (os 0).symm (os 1).symm⟩
    have e : arity op = (2, true) := by
      unfold arity
      repeat' (first | rw [if_neg (by omega)] | rw [if_pos (by omega)])
    rw [e]; rfl
  rw [if_neg c6] at h
  by_cases c7 : op = 20 ∨ op = 21
  · rw [if_pos c7] at h; cases h
    rcases c7 with rfl | rfl
    · exact ⟨rfl, rfl, rfl, k1 1 (fun k x => x = refOperandSort 20 k) rfl⟩
    · exact ⟨rfl, rfl, rfl, k1 1 (fun k x => x = refOperandSort 21 k) rfl⟩
  rw [if_neg c7] at h
  by_cases c8 : op = 22
  · subst c8; cases h; exact ⟨rfl, rfl, rfl, k3 1 1 1 (fun k x => x = refOperandSort 22 k) rfl rfl rfl⟩
  rw [if_neg c8] at h
  cases h
theorem validImm_ref {o i iv imms : Int} {ks : List Pat} (ha : refAllowed o = true) (hi : 0 ≤ imms) :
    validImm ⟨0, o, i, iv, ks⟩ imms = (decide (0 ≤ iv ∧ iv ≤ imms) && if iv = 0 then refValidImm o i else decide (i = 0) && hasImm o) := by
  unfold validImm
  simp only
  by_cases h : iv = 0
  · subst h
    rw [if_neg (by simp), if_pos rfl, decide_eq_true (show (0 : Int) ≤ 0 ∧ (0 : Int) ≤ imms from ⟨Int.le_refl _, hi⟩), Bool.true_and]
    unfold refValidImm
    by_cases h1 : o = 1
    · subst h1
      rw [if_neg (by decide), if_neg (by decide), if_pos rfl]
      exact decide_eq_true (Or.inl rfl)
    rw [if_neg h1]
    by_cases h2 : o = 23 ∨ o = 28
    · rw [if_pos h2, if_pos h2]
      exact decide_eq_decide.2 (by omega)
    rw [if_neg h2, if_neg h2]
    by_cases h3 : o = 27
    · rw [if_pos h3, if_pos h3]
    rw [if_neg h3, if_neg h3]
    exact decide_eq_decide.2 ⟨fun h => h.resolve_left h1, Or.inr⟩
  · rw [if_pos h, if_neg h]
    rw [Bool.and_comm (decide (i = 0)), ← Bool.and_assoc, Bool.and_comm _ (hasImm o), Bool.and_assoc]
    congr 1
    rw [← Bool.decide_and]
    exact decide_eq_decide.2 (by omega)
set_option maxHeartbeats 8000000 in
set_option maxRecDepth 100000 in
theorem fits_calls (imms : Int) (hi : 0 ≤ imms) : ∀ (p : Pat) (A : Option Addr) (c cv : Nat) (pos : Int) (s : List Int) (g : Nat) (w0 w : World) (hB : Below w0.heap.size w0 w) (hg : w0.heap.size ≤ g)
    (hv : Nums w g 3 s) (nv : Nat) (hnv : s.length = nv + 1) (hn : nv ≤ 6) (hr : Kd.C kPat w0 A p.kids.length p.kids) (hcl : p.kids.length ≤ c),
    Calls Try.prog 42 #[.agg #[.int .i64 p.var, .int .i64 p.op, .int .i64 p.imm, .int .i64 p.immVar, .slice A p.kids.length c], .int .i64 pos, .slice (some ⟨g, 0, none⟩) (nv + 1 : Nat) cv, .int .i64 imms] w (FitsRes w0 w g (nv + 1) (valid imms p pos s.tail)) := by
  refine Pat.ind ?_
  intro p ih A c cv pos s g w0 w hB hg hv nv hnv hn hr hcl
  by_cases h0 : p.var ≠ 0
  · exact fits_var imms p A c cv pos s g w0 w hB hg hv nv hnv hn h0
  have h0' : p.var = 0 := Classical.not_not.1 h0
  clear h0
  obtain ⟨v, o, i, iv, ks⟩ := p
  simp only at h0' ih hr hcl ⊢
  subst h0'
  have hmax := Kd.C_max hr
  have hsz := Lib.hid hB.size
  have ar := fun W => refArity_calls o W
  have al := fun W => allowed_calls o W
  have so := fun W => refSort_calls o W
  have hm := fun W => refHasImm_calls o W
  have hb1 : ∀ ob, Below w.heap.size w (w.alloc ob) := fun ob => (Below.refl _ _).alloc (Nat.le_refl _) _
  have hkf : ∀ {vs : List Int} (ob : Obj), FitsRes w0 w g (nv + 1) (false, vs) (.returned (.bool false)) (w.alloc ob) := fun ob => ⟨s, rfl, hv.below (hb1 ob), hnv, (fun h => by cases h), hB.alloc hB.size _, keep_alloc (KeepBut.refl _ _ _) _⟩
  rcases hos : opSorts o with _ | ⟨kids, own⟩
  · rw [valid_none hos]
    rw [opSorts_none hos] at al
    clear ih hos so hm
    go_enter Try.func42, Try.ntmps42
    go_wp2_with (first
      | (go_at_call 48; refine (ar _).mono ?_; rintro e w' ⟨rfl, rfl⟩)
      | (go_at_call 69; refine (al _).mono ?_; rintro e w' ⟨rfl, rfl⟩)
      | fail)
    go_ret
    exact hkf _
  · rw [valid_some hos]
    obtain ⟨h1, h2, h3, h4⟩ := opSorts_some hos
    have hkl := opSorts_kids hos
    have vi := fun W => refValidImm_calls o i W h1
    have E := Lib.hid (validImm_ref (i := i) (iv := iv) (ks := ks) h1 hi)
    rw [h1] at al
    rw [← h3] at so
    obtain ⟨ra, hra⟩ : ∃ ra, ra = (arity o).2 := ⟨_, rfl⟩
    rw [h2, ← hra] at ar
    clear hos h1 h2 h3 hra
    replace hnv := Lib.hid hnv
    by_cases c1 : ks.length ≠ kids.length
    · rw [if_pos (Or.inl c1)]
      have e1 : ((ks.length : Int) != (kids.length : Int)) = true := bne_iff_ne.2 (by omega)
      clear ih so hm vi
      go_enter Try.func42, Try.ntmps42
      go_wp2_with (first
        | (go_at_call 48; refine (ar _).mono ?_; rintro e w' ⟨rfl, rfl⟩)
        | (go_at_call 69; refine (al _).mono ?_; rintro e w' ⟨rfl, rfl⟩)
        | fail)
      go_ret
      exact hkf _
    have c1' : ks.length = kids.length := Classical.not_not.1 c1
    clear c1
    rw [← c1'] at ar
    by_cases c2 : pos ≠ 0 ∧ pos ≠ own
    · rw [if_pos (Or.inr (Or.inl c2))]
      have e1 : (pos != 0) = true := bne_iff_ne.2 c2.1
      have e2 : (own != pos) = true := bne_iff_ne.2 (fun h => c2.2 h.symm)
      clear ih hm vi c1'
      go_enter Try.func42, Try.ntmps42
      go_wp2_with (first
        | (go_at_call 48; refine (ar _).mono ?_; rintro e w' ⟨rfl, rfl⟩)
        | (go_at_call 69; refine (al _).mono ?_; rintro e w' ⟨rfl, rfl⟩)
        | (go_at_call 70; refine (so _).mono ?_; rintro e w' ⟨rfl, rfl⟩)
        | fail)
      go_ret
      exact hkf _
    have hpe : pos = 0 ∨ (own = pos ∧ (pos != 0) = true) := by
      by_cases e : pos = 0
      · exact Or.inl e
      · exact Or.inr ⟨Classical.byContradiction fun h => c2 ⟨e, fun h2 => h h2.symm⟩, bne_iff_ne.2 e⟩
    have hN : ∀ b, validImm ⟨0, o, i, iv, ks⟩ imms = b → (if ks.length ≠ kids.length ∨ (pos ≠ 0 ∧ pos ≠ own) ∨ validImm ⟨0, o, i, iv, ks⟩ imms = false then (false, s.tail) else valids imms ks kids s.tail) = if b = false then (false, s.tail) else valids imms ks kids s.tail := by
      intro b hb
      rw [hb]
      cases b
      · rw [if_pos (Or.inr (Or.inr rfl)), if_pos rfl]
      · rw [if_neg, if_neg (by simp)]
        rintro (h | h | h)
        · exact h c1'
        · exact c2 h
        · cases h
    replace hN := Lib.hid hN
    clear c2
    by_cases c3 : iv < 0
    · rw [hN.out false (by rw [E.out, decide_eq_false (by omega), Bool.false_and]), if_pos rfl]
      clear ih c1' hN E
      rcases hpe with rfl | ⟨rfl, ep⟩
      all_goals
        go_enter Try.func42, Try.ntmps42
        go_wp2_with (first
          | (go_at_call 48; refine (ar _).mono ?_; rintro e w' ⟨rfl, rfl⟩)
          | (go_at_call 69; refine (al _).mono ?_; rintro e w' ⟨rfl, rfl⟩)
          | (go_at_call 70; refine (so _).mono ?_; rintro e w' ⟨rfl, rfl⟩)
          | (go_at_call 50; refine (hm _).mono ?_; rintro e w' ⟨rfl, rfl⟩)
          | (go_at_call 71; refine (vi _).mono ?_; rintro e w' ⟨rfl, rfl⟩)
          | fail)
        go_ret
        exact hkf _
    by_cases c4 : iv > imms
    · rw [hN.out false (by rw [E.out, decide_eq_false (by omega), Bool.false_and]), if_pos rfl]
      clear ih c1' hN E
      rcases hpe with rfl | ⟨rfl, ep⟩
      all_goals
        go_enter Try.func42, Try.ntmps42
        go_wp2_with (first
          | (go_at_call 48; refine (ar _).mono ?_; rintro e w' ⟨rfl, rfl⟩)
          | (go_at_call 69; refine (al _).mono ?_; rintro e w' ⟨rfl, rfl⟩)
          | (go_at_call 70; refine (so _).mono ?_; rintro e w' ⟨rfl, rfl⟩)
          | (go_at_call 50; refine (hm _).mono ?_; rintro e w' ⟨rfl, rfl⟩)
          | (go_at_call 71; refine (vi _).mono ?_; rintro e w' ⟨rfl, rfl⟩)
          | fail)
        go_ret
        exact hkf _
    rw [decide_eq_true (show 0 ≤ iv ∧ iv ≤ imms by omega), Bool.true_and] at E
    have hl1 := Lib.hid c1'
    by_cases c5 : iv = 0
    · subst c5
      rw [if_pos rfl] at E
      rcases hvi : refValidImm o i with _ | _
      · rw [hN.out false (by rw [E.out, hvi]), if_pos rfl]
        rw [hvi] at vi
        clear ih c1' hN E
        rcases hpe with rfl | ⟨rfl, ep⟩
        all_goals
          go_enter Try.func42, Try.ntmps42
          go_wp2_with (first
            | (go_at_call 48; refine (ar _).mono ?_; rintro e w' ⟨rfl, rfl⟩)
            | (go_at_call 69; refine (al _).mono ?_; rintro e w' ⟨rfl, rfl⟩)
            | (go_at_call 70; refine (so _).mono ?_; rintro e w' ⟨rfl, rfl⟩)
            | (go_at_call 50; refine (hm _).mono ?_; rintro e w' ⟨rfl, rfl⟩)
            | (go_at_call 71; refine (vi _).mono ?_; rintro e w' ⟨rfl, rfl⟩)
            | fail)
          go_ret
          exact hkf _
      · rw [hN.out true (by rw [E.out, hvi]), if_neg (by simp)]
        rw [hvi] at vi
        clear c1' hN E hvi
        rcases hpe with rfl | ⟨rfl, ep⟩
        all_goals
          go_enter Try.func42, Try.ntmps42
          go_wp2_with (first
            | (go_at_call 48; refine (ar _).mono ?_; rintro e w' ⟨rfl, rfl⟩)
            | (go_at_call 69; refine (al _).mono ?_; rintro e w' ⟨rfl, rfl⟩)
            | (go_at_call 70; refine (so _).mono ?_; rintro e w' ⟨rfl, rfl⟩)
            | (go_at_call 50; refine (hm _).mono ?_; rintro e w' ⟨rfl, rfl⟩)
            | (go_at_call 71; refine (vi _).mono ?_; rintro e w' ⟨rfl, rfl⟩)
            | fail)
          have hgw : w.heap.size ≠ g := by have := hv.lt; omega
          have b1 := fun x1 x2 x3 x4 x5 => (blk_cell (blk_new w (.cells #[x1, x2, x3, x4, x5] 24)) 1).trans rfl
          have b4 := fun x1 x2 x3 x4 x5 => (blk_cell (blk_new w (.cells #[x1, x2, x3, x4, x5] 24)) 4).trans rfl
          go_loopw [11] (fun v11 wr => ∃ (k : Nat) (s' : List Int), k ≤ ks.length ∧ v11 = .int .i64 k ∧ Hid (s'.length = nv + 1) ∧ Hid (valids imms ks kids s.tail = valids imms (ks.drop k) (kids.drop k) s'.tail) ∧ Nums wr g 3 s' ∧ Below w0.heap.size w0 wr ∧ KeepBut w wr g none ∧ w.heap.size < wr.heap.size ∧ wr.cell? ⟨w.heap.size, 1, none⟩ = some (.int .i64 o) ∧ wr.cell? ⟨w.heap.size, 4, none⟩ = some (.slice A ks.length c))
            (fun v11 _ => ks.length - (intOf v11).toNat)
          case atStart => exact ⟨0, s, Nat.zero_le _, rfl, hnv, Lib.hid rfl, hv.below (hb1 _), hB.alloc hB.size _, keep_alloc (KeepBut.refl _ _ _) _, by simp, b1 _ _ _ _ _, b4 _ _ _ _ _⟩
          case round =>
            obtain ⟨k, s', hk, rfl, hsl, hE, hNr, hBr, hKr, hlw, d1, d4⟩ := hrel
            by_cases hlt : k < ks.length
            · obtain ⟨q, hq⟩ : ∃ q, ks[k]? = some q := ⟨_, List.getElem?_eq_getElem hlt⟩
              obtain ⟨x, hx⟩ : ∃ x, kids[k]? = some x := ⟨_, List.getElem?_eq_getElem (by rw [← hl1.out]; exact hlt)⟩
              obtain ⟨ad, A4, c4', rfl, q0, q1, q2, q3, q4, hl, hCq⟩ := atN_Pat hr hq
              replace q0 := pw_cell_below hBr q0
              replace q1 := pw_cell_below hBr q1
              replace q2 := pw_cell_below hBr q2
              replace q3 := pw_cell_below hBr q3
              replace q4 := pw_cell_below hBr q4
              have hE' := Lib.hid (hE.out.trans (valids_drop imms ks kids s'.tail k q x hq hx))
              have hmq := Lib.hid (List.mem_of_getElem? hq)
              have os := fun W => refOperandSort_calls o k W
              rw [← h4 k x hx] at os
              clear hq hx hE
              rcases hvq : valid imms q x s'.tail with ⟨bq, vs'⟩
              have ihq := fun W h1 h2 => ih q hmq.out A4 c4' cv x s' g w0 W h1 hg h2 nv hsl.out hn hCq hl
              rw [hvq] at ihq hE'
              simp only at hE'
              have hBD := below_drew hBr
              have hND : Nums wr.drew g 3 s' := hNr.below (below_drew (Below.refl _ _))
              rcases bq with _ | _
              · rw [hE'.out, if_neg (by simp)]
                clear hE'
                go_wp2
                refine start_ (n := 13) (S := fun w' => w'.cell? ⟨w.heap.size, 4, none⟩ = some (.slice (some ad) ks.length c) ∧ w'.cell? ⟨w.heap.size, 1, none⟩ = some (.int .i64 o) ∧ w'.cell? (ad.add (k * 5)) = some (.int .i64 q.var) ∧ w'.cell? ⟨(ad.add (k * 5)).block, (ad.add (k * 5)).off + 1, none⟩ = some (.int .i64 q.op) ∧ w'.cell? ⟨(ad.add (k * 5)).block, (ad.add (k * 5)).off + 2, none⟩ = some (.int .i64 q.imm) ∧ w'.cell? ⟨(ad.add (k * 5)).block, (ad.add (k * 5)).off + 3, none⟩ = some (.int .i64 q.immVar) ∧ w'.cell? ⟨(ad.add (k * 5)).block, (ad.add (k * 5)).off + 4, none⟩ = some (.slice A4 q.kids.length c4')) (ds := [11]) (bm 13 0) (by kernel_rfl) rfl rfl ⟨d4, d1, q0, q1, q2, q3, q4⟩ (fun hHeld => ?_)
                refine pure_ (i := 0) (N := some 145) (v := ?_) (a' := ?_) (bm 13 1) rfl rfl (by kernel_rfl) (fun _ _ _ h => h) (Or.inl ⟨by rfl, ?_⟩) ?_ ?_
                rotate_left
                · intro w'; go_simp; with_reducible rfl
                rotate_left
                · simp only [P4]; rfl
                refine pure_ (i := 2) (N := some 147) (v := ?_) (a' := ?_) (bm 13 5) rfl rfl (by kernel_rfl) (fun _ _ _ h => h) (Or.inl ⟨by rfl, ?_⟩) ?_ ?_
                rotate_left
                · intro w'; go_simp; with_reducible rfl
                rotate_left
                · simp only [P4]; rfl
                refine pure_ (i := 5) (N := some 150) (v := ?_) (a' := ?_) (bm 13 37) rfl rfl (by kernel_rfl) (fun _ _ _ h => h) (Or.inl ⟨by rfl, ?_⟩) ?_ ?_
                rotate_left
                · intro w'; go_simp; with_reducible rfl
                rotate_left
                · simp only [P4]; rfl
                refine pure_ (i := 7) (N := some 152) (v := ?_) (a' := ?_) (bm 13 165) rfl rfl (by kernel_rfl) (fun _ _ _ h => h) (Or.inl ⟨by rfl, ?_⟩) ?_ ?_
                rotate_left
                · intro w'; go_simp; with_reducible rfl
                rotate_left
                · simp only [P4]; rfl
                refine pure_ (i := 9) (N := some 154) (v := ?_) (a' := ?_) (bm 13 677) rfl rfl (by kernel_rfl) (fun _ _ _ h => h) (Or.inl ⟨by rfl, ?_⟩) ?_ ?_
                rotate_left
                · intro w'; go_simp; with_reducible rfl
                rotate_left
                · simp only [P4]; rfl
                refine pure_ (i := 10) (N := some 155) (v := ?_) (a' := ?_) (bm 13 1701) rfl rfl (by kernel_rfl) (fun _ _ _ h => h) (Or.inl ⟨by rfl, ?_⟩) ?_ ?_
                rotate_left
                · intro w'; go_simp; with_reducible rfl
                rotate_left
                · simp only [P4]; rfl
                refine take_ (i := 1) (N := some 146) (v := ?_) (a' := ?_) (bm 13 1703) rfl rfl (by kernel_rfl) (fun _ _ _ h => h) (Or.inl ⟨by rfl, ?_⟩) hHeld ?_ ?_
                rotate_left
                · rintro w' ⟨s0, s1, s2, s3, s4, s5, s6⟩
                  go_simp
                  with_reducible rfl
                rotate_left
                · simp only [P4]; rfl
                refine pure_ (i := 3) (N := some 148) (v := ?_) (a' := ?_) (bm 13 1711) rfl rfl (by kernel_rfl) (fun _ _ _ h => h) (Or.inl ⟨by rfl, ?_⟩) ?_ ?_
                rotate_left
                · intro w'; go_simp; with_reducible rfl
                rotate_left
                · simp only [P4]; rfl
                refine take_ (i := 4) (N := some 149) (v := ?_) (a' := ?_) (bm 13 1727) rfl rfl (by kernel_rfl) (fun _ _ _ h => h) (Or.inl ⟨by rfl, ?_⟩) hHeld ?_ ?_
                rotate_left
                · rintro w' ⟨s0, s1, s2, s3, s4, s5, s6⟩
                  go_simp
                  with_reducible rfl
                rotate_left
                · simp only [P4]; rfl
                refine take_ (i := 6) (N := some 151) (v := ?_) (a' := ?_) (bm 13 1791) rfl rfl (by kernel_rfl) (fun _ _ _ h => h) (Or.inl ⟨by rfl, ?_⟩) hHeld ?_ ?_
                rotate_left
                · rintro w' ⟨s0, s1, s2, s3, s4, s5, s6⟩
                  go_simp
                  with_reducible rfl
                rotate_left
                · simp only [P4]; rfl
                refine one_ (i := 8) (N := some 153) (bm 13 2047) rfl rfl (by kernel_rfl) (by decide) (fun K hK => ?_)
                refine goes_ Try.func49 (by kernel_rfl) rfl #[.int .i64 o, .int .i64 (k : Int)] (by rfl) rfl rfl (by simp only [List.map_toArray, List.map_cons, List.map_nil]; rfl) ?_
                with_reducible refine (os _).mono ?_
                rintro e w3 ⟨rfl, rfl⟩
                refine ⟨_, rfl, ?_⟩
                refine hK.out _ _ ⟨hHeld.1, hHeld.2.1, hHeld.2.2.1, hHeld.2.2.2.1, hHeld.2.2.2.2.1, hHeld.2.2.2.2.2.1, hHeld.2.2.2.2.2.2⟩ (fun hHeld => ?_)
                clear hK K
                refine norm_ (a' := ?_) ?_ ?_
                rotate_left
                · show Act.put _ (some 153) _ = _
                  simp only [P4]
                  rfl
                refine last_ (i := 11) (N := some 156) (bm 13 4095) rfl rfl (by kernel_rfl) (by decide) (fun K hK => ?_)
                refine goes_ Try.func42 (by kernel_rfl) rfl #[.agg #[.int .i64 q.var, .int .i64 q.op, .int .i64 q.imm, .int .i64 q.immVar, .slice A4 q.kids.length c4'], .int .i64 x, .slice (some ⟨g, 0, none⟩) (nv + 1 : Nat) cv, .int .i64 imms] (by rfl) rfl rfl (by simp only [List.map_toArray, List.map_cons, List.map_nil]; rfl) ?_
                with_reducible refine (ihq _ hBD hND).mono ?_
                rintro e w3 ⟨s3, rfl, hN3, hl3, ht3, hB3, hK3⟩
                refine ⟨_, rfl, ?_⟩
                refine hK.out _ _ ?_
                clear hK K
                refine norm_ (a' := ?_) ?_ ?_
                rotate_left
                · show Act.put _ (some 156) _ = _
                  simp only [P4]
                  rfl
                refine pure_ (i := 12) (N := some 157) (v := ?_) (a' := ?_) (bm 13 8191) rfl rfl (by kernel_rfl) (fun _ _ _ h => h) (Or.inl ⟨by rfl, ?_⟩) ?_ ?_
                rotate_left
                · intro w'; go_simp; with_reducible rfl
                rotate_left
                · simp only [P4]; rfl
                refine done_ (by kernel_rfl) ?_
                go_wp2
                go_ret
                exact ⟨s3, rfl, hN3, hl3, (fun h => by cases h), hB3, (keep_drew hKr).trans hK3 (.inl rfl)⟩
              · rw [if_pos rfl] at hE'
                go_wp2
                refine start_ (n := 13) (S := fun w' => w'.cell? ⟨w.heap.size, 4, none⟩ = some (.slice (some ad) ks.length c) ∧ w'.cell? ⟨w.heap.size, 1, none⟩ = some (.int .i64 o) ∧ w'.cell? (ad.add (k * 5)) = some (.int .i64 q.var) ∧ w'.cell? ⟨(ad.add (k * 5)).block, (ad.add (k * 5)).off + 1, none⟩ = some (.int .i64 q.op) ∧ w'.cell? ⟨(ad.add (k * 5)).block, (ad.add (k * 5)).off + 2, none⟩ = some (.int .i64 q.imm) ∧ w'.cell? ⟨(ad.add (k * 5)).block, (ad.add (k * 5)).off + 3, none⟩ = some (.int .i64 q.immVar) ∧ w'.cell? ⟨(ad.add (k * 5)).block, (ad.add (k * 5)).off + 4, none⟩ = some (.slice A4 q.kids.length c4')) (ds := [11]) (bm 13 0) (by kernel_rfl) rfl rfl ⟨d4, d1, q0, q1, q2, q3, q4⟩ (fun hHeld => ?_)
                refine pure_ (i := 0) (N := some 145) (v := ?_) (a' := ?_) (bm 13 1) rfl rfl (by kernel_rfl) (fun _ _ _ h => h) (Or.inl ⟨by rfl, ?_⟩) ?_ ?_
                rotate_left
                · intro w'; go_simp; with_reducible rfl
                rotate_left
                · simp only [P4]; rfl
                refine pure_ (i := 2) (N := some 147) (v := ?_) (a' := ?_) (bm 13 5) rfl rfl (by kernel_rfl) (fun _ _ _ h => h) (Or.inl ⟨by rfl, ?_⟩) ?_ ?_
                rotate_left
                · intro w'; go_simp; with_reducible rfl
                rotate_left
                · simp only [P4]; rfl
                refine pure_ (i := 5) (N := some 150) (v := ?_) (a' := ?_) (bm 13 37) rfl rfl (by kernel_rfl) (fun _ _ _ h => h) (Or.inl ⟨by rfl, ?_⟩) ?_ ?_
                rotate_left
                · intro w'; go_simp; with_reducible rfl
                rotate_left
                · simp only [P4]; rfl
                refine pure_ (i := 7) (N := some 152) (v := ?_) (a' := ?_) (bm 13 165) rfl rfl (by kernel_rfl) (fun _ _ _ h => h) (Or.inl ⟨by rfl, ?_⟩) ?_ ?_
                rotate_left
                · intro w'; go_simp; with_reducible rfl
                rotate_left
                · simp only [P4]; rfl
                refine pure_ (i := 9) (N := some 154) (v := ?_) (a' := ?_) (bm 13 677) rfl rfl (by kernel_rfl) (fun _ _ _ h => h) (Or.inl ⟨by rfl, ?_⟩) ?_ ?_
                rotate_left
                · intro w'; go_simp; with_reducible rfl
                rotate_left
                · simp only [P4]; rfl
                refine pure_ (i := 10) (N := some 155) (v := ?_) (a' := ?_) (bm 13 1701) rfl rfl (by kernel_rfl) (fun _ _ _ h => h) (Or.inl ⟨by rfl, ?_⟩) ?_ ?_
                rotate_left
                · intro w'; go_simp; with_reducible rfl
                rotate_left
                · simp only [P4]; rfl
                refine take_ (i := 1) (N := some 146) (v := ?_) (a' := ?_) (bm 13 1703) rfl rfl (by kernel_rfl) (fun _ _ _ h => h) (Or.inl ⟨by rfl, ?_⟩) hHeld ?_ ?_
                rotate_left
                · rintro w' ⟨s0, s1, s2, s3, s4, s5, s6⟩
                  go_simp
                  with_reducible rfl
                rotate_left
                · simp only [P4]; rfl
                refine pure_ (i := 3) (N := some 148) (v := ?_) (a' := ?_) (bm 13 1711) rfl rfl (by kernel_rfl) (fun _ _ _ h => h) (Or.inl ⟨by rfl, ?_⟩) ?_ ?_
                rotate_left
                · intro w'; go_simp; with_reducible rfl
                rotate_left
                · simp only [P4]; rfl
                refine take_ (i := 4) (N := some 149) (v := ?_) (a' := ?_) (bm 13 1727) rfl rfl (by kernel_rfl) (fun _ _ _ h => h) (Or.inl ⟨by rfl, ?_⟩) hHeld ?_ ?_
                rotate_left
                · rintro w' ⟨s0, s1, s2, s3, s4, s5, s6⟩
                  go_simp
                  with_reducible rfl
                rotate_left
                · simp only [P4]; rfl
                refine take_ (i := 6) (N := some 151) (v := ?_) (a' := ?_) (bm 13 1791) rfl rfl (by kernel_rfl) (fun _ _ _ h => h) (Or.inl ⟨by rfl, ?_⟩) hHeld ?_ ?_
                rotate_left
                · rintro w' ⟨s0, s1, s2, s3, s4, s5, s6⟩
                  go_simp
                  with_reducible rfl
                rotate_left
                · simp only [P4]; rfl
                refine one_ (i := 8) (N := some 153) (bm 13 2047) rfl rfl (by kernel_rfl) (by decide) (fun K hK => ?_)
                refine goes_ Try.func49 (by kernel_rfl) rfl #[.int .i64 o, .int .i64 (k : Int)] (by rfl) rfl rfl (by simp only [List.map_toArray, List.map_cons, List.map_nil]; rfl) ?_
                with_reducible refine (os _).mono ?_
                rintro e w3 ⟨rfl, rfl⟩
                refine ⟨_, rfl, ?_⟩
                refine hK.out _ _ ⟨hHeld.1, hHeld.2.1, hHeld.2.2.1, hHeld.2.2.2.1, hHeld.2.2.2.2.1, hHeld.2.2.2.2.2.1, hHeld.2.2.2.2.2.2⟩ (fun hHeld => ?_)
                clear hK K
                refine norm_ (a' := ?_) ?_ ?_
                rotate_left
                · show Act.put _ (some 153) _ = _
                  simp only [P4]
                  rfl
                refine last_ (i := 11) (N := some 156) (bm 13 4095) rfl rfl (by kernel_rfl) (by decide) (fun K hK => ?_)
                refine goes_ Try.func42 (by kernel_rfl) rfl #[.agg #[.int .i64 q.var, .int .i64 q.op, .int .i64 q.imm, .int .i64 q.immVar, .slice A4 q.kids.length c4'], .int .i64 x, .slice (some ⟨g, 0, none⟩) (nv + 1 : Nat) cv, .int .i64 imms] (by rfl) rfl rfl (by simp only [List.map_toArray, List.map_cons, List.map_nil]; rfl) ?_
                with_reducible refine (ihq _ hBD hND).mono ?_
                rintro e w3 ⟨s3, rfl, hN3, hl3, ht3, hB3, hK3⟩
                refine ⟨_, rfl, ?_⟩
                refine hK.out _ _ ?_
                clear hK K
                refine norm_ (a' := ?_) ?_ ?_
                rotate_left
                · show Act.put _ (some 156) _ = _
                  simp only [P4]
                  rfl
                refine pure_ (i := 12) (N := some 157) (v := ?_) (a' := ?_) (bm 13 8191) rfl rfl (by kernel_rfl) (fun _ _ _ h => h) (Or.inl ⟨by rfl, ?_⟩) ?_ ?_
                rotate_left
                · intro w'; go_simp; with_reducible rfl
                rotate_left
                · simp only [P4]; rfl
                refine done_ (by kernel_rfl) ?_
                go_wp2
                go_roundw
                case rel => exact ⟨k + 1, s3, by omega, by go_num, Lib.hid hl3, Lib.hid (by rw [hE'.out, ht3 rfl]), hN3, hB3, (keep_drew hKr).trans hK3 (.inl rfl), Nat.lt_of_lt_of_le hlw hK3.1, keep_cell hK3 d1 hgw, keep_cell hK3 d4 hgw⟩
                case measure => simp [intOf]; omega
            · go_wp2
              go_ret
              have ek : k = ks.length := by omega
              subst ek
              rw [hE.out, List.drop_length, valids]
              exact ⟨s', rfl, hNr, hsl.out, fun _ => rfl, hBr, hKr⟩
    · rw [if_neg c5] at E
      have e5 := beq_no c5
      by_cases c6 : i = 0
      · subst c6
        rcases hhm : hasImm o with _ | _
        · rw [hN.out false (by rw [E.out, hhm]; rfl), if_pos rfl]
          rw [hhm] at hm
          clear ih c1' hN E
          rcases hpe with rfl | ⟨rfl, ep⟩
          all_goals
            go_enter Try.func42, Try.ntmps42
            go_wp2_with (first
              | (go_at_call 48; refine (ar _).mono ?_; rintro e w' ⟨rfl, rfl⟩)
              | (go_at_call 69; refine (al _).mono ?_; rintro e w' ⟨rfl, rfl⟩)
              | (go_at_call 70; refine (so _).mono ?_; rintro e w' ⟨rfl, rfl⟩)
              | (go_at_call 50; refine (hm _).mono ?_; rintro e w' ⟨rfl, rfl⟩)
              | (go_at_call 71; refine (vi _).mono ?_; rintro e w' ⟨rfl, rfl⟩)
              | fail)
            go_ret
            exact hkf _
        · rw [hN.out true (by rw [E.out, hhm]; rfl), if_neg (by simp)]
          rw [hhm] at hm
          clear c1' hN E hhm
          rcases hpe with rfl | ⟨rfl, ep⟩
          all_goals
            go_enter Try.func42, Try.ntmps42
            go_wp2_with (first
              | (go_at_call 48; refine (ar _).mono ?_; rintro e w' ⟨rfl, rfl⟩)
              | (go_at_call 69; refine (al _).mono ?_; rintro e w' ⟨rfl, rfl⟩)
              | (go_at_call 70; refine (so _).mono ?_; rintro e w' ⟨rfl, rfl⟩)
              | (go_at_call 50; refine (hm _).mono ?_; rintro e w' ⟨rfl, rfl⟩)
              | (go_at_call 71; refine (vi _).mono ?_; rintro e w' ⟨rfl, rfl⟩)
              | fail)
            have hgw : w.heap.size ≠ g := by have := hv.lt; omega
            have b1 := fun x1 x2 x3 x4 x5 => (blk_cell (blk_new w (.cells #[x1, x2, x3, x4, x5] 24)) 1).trans rfl
            have b4 := fun x1 x2 x3 x4 x5 => (blk_cell (blk_new w (.cells #[x1, x2, x3, x4, x5] 24)) 4).trans rfl
            go_loopw [11] (fun v11 wr => ∃ (k : Nat) (s' : List Int), k ≤ ks.length ∧ v11 = .int .i64 k ∧ Hid (s'.length = nv + 1) ∧ Hid (valids imms ks kids s.tail = valids imms (ks.drop k) (kids.drop k) s'.tail) ∧ Nums wr g 3 s' ∧ Below w0.heap.size w0 wr ∧ KeepBut w wr g none ∧ w.heap.size < wr.heap.size ∧ wr.cell? ⟨w.heap.size, 1, none⟩ = some (.int .i64 o) ∧ wr.cell? ⟨w.heap.size, 4, none⟩ = some (.slice A ks.length c))
              (fun v11 _ => ks.length - (intOf v11).toNat)
            case atStart => exact ⟨0, s, Nat.zero_le _, rfl, hnv, Lib.hid rfl, hv.below (hb1 _), hB.alloc hB.size _, keep_alloc (KeepBut.refl _ _ _) _, by simp, b1 _ _ _ _ _, b4 _ _ _ _ _⟩
            case round =>
              obtain ⟨k, s', hk, rfl, hsl, hE, hNr, hBr, hKr, hlw, d1, d4⟩ := hrel
              by_cases hlt : k < ks.length
              · obtain ⟨q, hq⟩ : ∃ q, ks[k]? = some q := ⟨_, List.getElem?_eq_getElem hlt⟩
                obtain ⟨x, hx⟩ : ∃ x, kids[k]? = some x := ⟨_, List.getElem?_eq_getElem (by rw [← hl1.out]; exact hlt)⟩
                obtain ⟨ad, A4, c4', rfl, q0, q1, q2, q3, q4, hl, hCq⟩ := atN_Pat hr hq
                replace q0 := pw_cell_below hBr q0
                replace q1 := pw_cell_below hBr q1
                replace q2 := pw_cell_below hBr q2
                replace q3 := pw_cell_below hBr q3
                replace q4 := pw_cell_below hBr q4
                have hE' := Lib.hid (hE.out.trans (valids_drop imms ks kids s'.tail k q x hq hx))
                have hmq := Lib.hid (List.mem_of_getElem? hq)
                have os := fun W => refOperandSort_calls o k W
                rw [← h4 k x hx] at os
                clear hq hx hE
                rcases hvq : valid imms q x s'.tail with ⟨bq, vs'⟩
                have ihq := fun W h1 h2 => ih q hmq.out A4 c4' cv x s' g w0 W h1 hg h2 nv hsl.out hn hCq hl
                rw [hvq] at ihq hE'
                simp only at hE'
                have hBD := below_drew hBr
                have hND : Nums wr.drew g 3 s' := hNr.below (below_drew (Below.refl _ _))
                rcases bq with _ | _
                · rw [hE'.out, if_neg (by simp)]
                  clear hE'
                  go_wp2
                  refine start_ (n := 13) (S := fun w' => w'.cell? ⟨w.heap.size, 4, none⟩ = some (.slice (some ad) ks.length c) ∧ w'.cell? ⟨w.heap.size, 1, none⟩ = some (.int .i64 o) ∧ w'.cell? (ad.add (k * 5)) = some (.int .i64 q.var) ∧ w'.cell? ⟨(ad.add (k * 5)).block, (ad.add (k * 5)).off + 1, none⟩ = some (.int .i64 q.op) ∧ w'.cell? ⟨(ad.add (k * 5)).block, (ad.add (k * 5)).off + 2, none⟩ = some (.int .i64 q.imm) ∧ w'.cell? ⟨(ad.add (k * 5)).block, (ad.add (k * 5)).off + 3, none⟩ = some (.int .i64 q.immVar) ∧ w'.cell? ⟨(ad.add (k * 5)).block, (ad.add (k * 5)).off + 4, none⟩ = some (.slice A4 q.kids.length c4')) (ds := [11]) (bm 13 0) (by kernel_rfl) rfl rfl ⟨d4, d1, q0, q1, q2, q3, q4⟩ (fun hHeld => ?_)
                  refine pure_ (i := 0) (N := some 145) (v := ?_) (a' := ?_) (bm 13 1) rfl rfl (by kernel_rfl) (fun _ _ _ h => h) (Or.inl ⟨by rfl, ?_⟩) ?_ ?_
                  rotate_left
                  · intro w'; go_simp; with_reducible rfl
                  rotate_left
                  · simp only [P4]; rfl
                  refine pure_ (i := 2) (N := some 147) (v := ?_) (a' := ?_) (bm 13 5) rfl rfl (by kernel_rfl) (fun _ _ _ h => h) (Or.inl ⟨by rfl, ?_⟩) ?_ ?_
                  rotate_left
                  · intro w'; go_simp; with_reducible rfl
                  rotate_left
                  · simp only [P4]; rfl
                  refine pure_ (i := 5) (N := some 150) (v := ?_) (a' := ?_) (bm 13 37) rfl rfl (by kernel_rfl) (fun _ _ _ h => h) (Or.inl ⟨by rfl, ?_⟩) ?_ ?_
                  rotate_left
                  · intro w'; go_simp; with_reducible rfl
                  rotate_left
                  · simp only [P4]; rfl
                  refine pure_ (i := 7) (N := some 152) (v := ?_) (a' := ?_) (bm 13 165) rfl rfl (by kernel_rfl) (fun _ _ _ h => h) (Or.inl ⟨by rfl, ?_⟩) ?_ ?_
                  rotate_left
                  · intro w'; go_simp; with_reducible rfl
                  rotate_left
                  · simp only [P4]; rfl
                  refine pure_ (i := 9) (N := some 154) (v := ?_) (a' := ?_) (bm 13 677) rfl rfl (by kernel_rfl) (fun _ _ _ h => h) (Or.inl ⟨by rfl, ?_⟩) ?_ ?_
                  rotate_left
                  · intro w'; go_simp; with_reducible rfl
                  rotate_left
                  · simp only [P4]; rfl
                  refine pure_ (i := 10) (N := some 155) (v := ?_) (a' := ?_) (bm 13 1701) rfl rfl (by kernel_rfl) (fun _ _ _ h => h) (Or.inl ⟨by rfl, ?_⟩) ?_ ?_
                  rotate_left
                  · intro w'; go_simp; with_reducible rfl
                  rotate_left
                  · simp only [P4]; rfl
                  refine take_ (i := 1) (N := some 146) (v := ?_) (a' := ?_) (bm 13 1703) rfl rfl (by kernel_rfl) (fun _ _ _ h => h) (Or.inl ⟨by rfl, ?_⟩) hHeld ?_ ?_
                  rotate_left
                  · rintro w' ⟨s0, s1, s2, s3, s4, s5, s6⟩
                    go_simp
                    with_reducible rfl
                  rotate_left
                  · simp only [P4]; rfl
                  refine pure_ (i := 3) (N := some 148) (v := ?_) (a' := ?_) (bm 13 1711) rfl rfl (by kernel_rfl) (fun _ _ _ h => h) (Or.inl ⟨by rfl, ?_⟩) ?_ ?_
                  rotate_left
                  · intro w'; go_simp; with_reducible rfl
                  rotate_left
                  · simp only [P4]; rfl
                  refine take_ (i := 4) (N := some 149) (v := ?_) (a' := ?_) (bm 13 1727) rfl rfl (by kernel_rfl) (fun _ _ _ h => h) (Or.inl ⟨by rfl, ?_⟩) hHeld ?_ ?_
                  rotate_left
                  · rintro w' ⟨s0, s1, s2, s3, s4, s5, s6⟩
                    go_simp
                    with_reducible rfl
                  rotate_left
                  · simp only [P4]; rfl
                  refine take_ (i := 6) (N := some 151) (v := ?_) (a' := ?_) (bm 13 1791) rfl rfl (by kernel_rfl) (fun _ _ _ h => h) (Or.inl ⟨by rfl, ?_⟩) hHeld ?_ ?_
                  rotate_left
                  · rintro w' ⟨s0, s1, s2, s3, s4, s5, s6⟩
                    go_simp
                    with_reducible rfl
                  rotate_left
                  · simp only [P4]; rfl
                  refine one_ (i := 8) (N := some 153) (bm 13 2047) rfl rfl (by kernel_rfl) (by decide) (fun K hK => ?_)
                  refine goes_ Try.func49 (by kernel_rfl) rfl #[.int .i64 o, .int .i64 (k : Int)] (by rfl) rfl rfl (by simp only [List.map_toArray, List.map_cons, List.map_nil]; rfl) ?_
                  with_reducible refine (os _).mono ?_
                  rintro e w3 ⟨rfl, rfl⟩
                  refine ⟨_, rfl, ?_⟩
                  refine hK.out _ _ ⟨hHeld.1, hHeld.2.1, hHeld.2.2.1, hHeld.2.2.2.1, hHeld.2.2.2.2.1, hHeld.2.2.2.2.2.1, hHeld.2.2.2.2.2.2⟩ (fun hHeld => ?_)
                  clear hK K
                  refine norm_ (a' := ?_) ?_ ?_
                  rotate_left
                  · show Act.put _ (some 153) _ = _
                    simp only [P4]
                    rfl
                  refine last_ (i := 11) (N := some 156) (bm 13 4095) rfl rfl (by kernel_rfl) (by decide) (fun K hK => ?_)
                  refine goes_ Try.func42 (by kernel_rfl) rfl #[.agg #[.int .i64 q.var, .int .i64 q.op, .int .i64 q.imm, .int .i64 q.immVar, .slice A4 q.kids.length c4'], .int .i64 x, .slice (some ⟨g, 0, none⟩) (nv + 1 : Nat) cv, .int .i64 imms] (by rfl) rfl rfl (by simp only [List.map_toArray, List.map_cons, List.map_nil]; rfl) ?_
                  with_reducible refine (ihq _ hBD hND).mono ?_
                  rintro e w3 ⟨s3, rfl, hN3, hl3, ht3, hB3, hK3⟩
                  refine ⟨_, rfl, ?_⟩
                  refine hK.out _ _ ?_
                  clear hK K
                  refine norm_ (a' := ?_) ?_ ?_
                  rotate_left
                  · show Act.put _ (some 156) _ = _
                    simp only [P4]
                    rfl
                  refine pure_ (i := 12) (N := some 157) (v := ?_) (a' := ?_) (bm 13 8191) rfl rfl (by kernel_rfl) (fun _ _ _ h => h) (Or.inl ⟨by rfl, ?_⟩) ?_ ?_
                  rotate_left
                  · intro w'; go_simp; with_reducible rfl
                  rotate_left
                  · simp only [P4]; rfl
                  refine done_ (by kernel_rfl) ?_
                  go_wp2
                  go_ret
                  exact ⟨s3, rfl, hN3, hl3, (fun h => by cases h), hB3, (keep_drew hKr).trans hK3 (.inl rfl)⟩
                · rw [if_pos rfl] at hE'
                  go_wp2
                  refine start_ (n := 13) (S := fun w' => w'.cell? ⟨w.heap.size, 4, none⟩ = some (.slice (some ad) ks.length c) ∧ w'.cell? ⟨w.heap.size, 1, none⟩ = some (.int .i64 o) ∧ w'.cell? (ad.add (k * 5)) = some (.int .i64 q.var) ∧ w'.cell? ⟨(ad.add (k * 5)).block, (ad.add (k * 5)).off + 1, none⟩ = some (.int .i64 q.op) ∧ w'.cell? ⟨(ad.add (k * 5)).block, (ad.add (k * 5)).off + 2, none⟩ = some (.int .i64 q.imm) ∧ w'.cell? ⟨(ad.add (k * 5)).block, (ad.add (k * 5)).off + 3, none⟩ = some (.int .i64 q.immVar) ∧ w'.cell? ⟨(ad.add (k * 5)).block, (ad.add (k * 5)).off + 4, none⟩ = some (.slice A4 q.kids.length c4')) (ds := [11]) (bm 13 0) (by kernel_rfl) rfl rfl ⟨d4, d1, q0, q1, q2, q3, q4⟩ (fun hHeld => ?_)
                  refine pure_ (i := 0) (N := some 145) (v := ?_) (a' := ?_) (bm 13 1) rfl rfl (by kernel_rfl) (fun _ _ _ h => h) (Or.inl ⟨by rfl, ?_⟩) ?_ ?_
                  rotate_left
                  · intro w'; go_simp; with_reducible rfl
                  rotate_left
                  · simp only [P4]; rfl
                  refine pure_ (i := 2) (N := some 147) (v := ?_) (a' := ?_) (bm 13 5) rfl rfl (by kernel_rfl) (fun _ _ _ h => h) (Or.inl ⟨by rfl, ?_⟩) ?_ ?_
                  rotate_left
                  · intro w'; go_simp; with_reducible rfl
                  rotate_left
                  · simp only [P4]; rfl
                  refine pure_ (i := 5) (N := some 150) (v := ?_) (a' := ?_) (bm 13 37) rfl rfl (by kernel_rfl) (fun _ _ _ h => h) (Or.inl ⟨by rfl, ?_⟩) ?_ ?_
                  rotate_left
                  · intro w'; go_simp; with_reducible rfl
                  rotate_left
                  · simp only [P4]; rfl
                  refine pure_ (i := 7) (N := some 152) (v := ?_) (a' := ?_) (bm 13 165) rfl rfl (by kernel_rfl) (fun _ _ _ h => h) (Or.inl ⟨by rfl, ?_⟩) ?_ ?_
                  rotate_left
                  · intro w'; go_simp; with_reducible rfl
                  rotate_left
                  · simp only [P4]; rfl
                  refine pure_ (i := 9) (N := some 154) (v := ?_) (a' := ?_) (bm 13 677) rfl rfl (by kernel_rfl) (fun _ _ _ h => h) (Or.inl ⟨by rfl, ?_⟩) ?_ ?_
                  rotate_left
                  · intro w'; go_simp; with_reducible rfl
                  rotate_left
                  · simp only [P4]; rfl
                  refine pure_ (i := 10) (N := some 155) (v := ?_) (a' := ?_) (bm 13 1701) rfl rfl (by kernel_rfl) (fun _ _ _ h => h) (Or.inl ⟨by rfl, ?_⟩) ?_ ?_
                  rotate_left
                  · intro w'; go_simp; with_reducible rfl
                  rotate_left
                  · simp only [P4]; rfl
                  refine take_ (i := 1) (N := some 146) (v := ?_) (a' := ?_) (bm 13 1703) rfl rfl (by kernel_rfl) (fun _ _ _ h => h) (Or.inl ⟨by rfl, ?_⟩) hHeld ?_ ?_
                  rotate_left
                  · rintro w' ⟨s0, s1, s2, s3, s4, s5, s6⟩
                    go_simp
                    with_reducible rfl
                  rotate_left
                  · simp only [P4]; rfl
                  refine pure_ (i := 3) (N := some 148) (v := ?_) (a' := ?_) (bm 13 1711) rfl rfl (by kernel_rfl) (fun _ _ _ h => h) (Or.inl ⟨by rfl, ?_⟩) ?_ ?_
                  rotate_left
                  · intro w'; go_simp; with_reducible rfl
                  rotate_left
                  · simp only [P4]; rfl
                  refine take_ (i := 4) (N := some 149) (v := ?_) (a' := ?_) (bm 13 1727) rfl rfl (by kernel_rfl) (fun _ _ _ h => h) (Or.inl ⟨by rfl, ?_⟩) hHeld ?_ ?_
                  rotate_left
                  · rintro w' ⟨s0, s1, s2, s3, s4, s5, s6⟩
                    go_simp
                    with_reducible rfl
                  rotate_left
                  · simp only [P4]; rfl
                  refine take_ (i := 6) (N := some 151) (v := ?_) (a' := ?_) (bm 13 1791) rfl rfl (by kernel_rfl) (fun _ _ _ h => h) (Or.inl ⟨by rfl, ?_⟩) hHeld ?_ ?_
                  rotate_left
                  · rintro w' ⟨s0, s1, s2, s3, s4, s5, s6⟩
                    go_simp
                    with_reducible rfl
                  rotate_left
                  · simp only [P4]; rfl
                  refine one_ (i := 8) (N := some 153) (bm 13 2047) rfl rfl (by kernel_rfl) (by decide) (fun K hK => ?_)
                  refine goes_ Try.func49 (by kernel_rfl) rfl #[.int .i64 o, .int .i64 (k : Int)] (by rfl) rfl rfl (by simp only [List.map_toArray, List.map_cons, List.map_nil]; rfl) ?_
                  with_reducible refine (os _).mono ?_
                  rintro e w3 ⟨rfl, rfl⟩
                  refine ⟨_, rfl, ?_⟩
                  refine hK.out _ _ ⟨hHeld.1, hHeld.2.1, hHeld.2.2.1, hHeld.2.2.2.1, hHeld.2.2.2.2.1, hHeld.2.2.2.2.2.1, hHeld.2.2.2.2.2.2⟩ (fun hHeld => ?_)
                  clear hK K
                  refine norm_ (a' := ?_) ?_ ?_
                  rotate_left
                  · show Act.put _ (some 153) _ = _
                    simp only [P4]
                    rfl
                  refine last_ (i := 11) (N := some 156) (bm 13 4095) rfl rfl (by kernel_rfl) (by decide) (fun K hK => ?_)
                  refine goes_ Try.func42 (by kernel_rfl) rfl #[.agg #[.int .i64 q.var, .int .i64 q.op, .int .i64 q.imm, .int .i64 q.immVar, .slice A4 q.kids.length c4'], .int .i64 x, .slice (some ⟨g, 0, none⟩) (nv + 1 : Nat) cv, .int .i64 imms] (by rfl) rfl rfl (by simp only [List.map_toArray, List.map_cons, List.map_nil]; rfl) ?_
                  with_reducible refine (ihq _ hBD hND).mono ?_
                  rintro e w3 ⟨s3, rfl, hN3, hl3, ht3, hB3, hK3⟩
                  refine ⟨_, rfl, ?_⟩
                  refine hK.out _ _ ?_
                  clear hK K
                  refine norm_ (a' := ?_) ?_ ?_
                  rotate_left
                  · show Act.put _ (some 156) _ = _
                    simp only [P4]
                    rfl
                  refine pure_ (i := 12) (N := some 157) (v := ?_) (a' := ?_) (bm 13 8191) rfl rfl (by kernel_rfl) (fun _ _ _ h => h) (Or.inl ⟨by rfl, ?_⟩) ?_ ?_
                  rotate_left
                  · intro w'; go_simp; with_reducible rfl
                  rotate_left
                  · simp only [P4]; rfl
                  refine done_ (by kernel_rfl) ?_
                  go_wp2
                  go_roundw
                  case rel => exact ⟨k + 1, s3, by omega, by go_num, Lib.hid hl3, Lib.hid (by rw [hE'.out, ht3 rfl]), hN3, hB3, (keep_drew hKr).trans hK3 (.inl rfl), Nat.lt_of_lt_of_le hlw hK3.1, keep_cell hK3 d1 hgw, keep_cell hK3 d4 hgw⟩
                  case measure => simp [intOf]; omega
              · go_wp2
                go_ret
                have ek : k = ks.length := by omega
                subst ek
                rw [hE.out, List.drop_length, valids]
                exact ⟨s', rfl, hNr, hsl.out, fun _ => rfl, hBr, hKr⟩
      · rw [hN.out false (by rw [E.out, decide_eq_false c6]; rfl), if_pos rfl]
        have e6 : (i != 0) = true := bne_iff_ne.2 c6
        clear ih c1' hN E
        rcases hpe with rfl | ⟨rfl, ep⟩
        all_goals
          go_enter Try.func42, Try.ntmps42
          go_wp2_with (first
            | (go_at_call 48; refine (ar _).mono ?_; rintro e w' ⟨rfl, rfl⟩)
            | (go_at_call 69; refine (al _).mono ?_; rintro e w' ⟨rfl, rfl⟩)
            | (go_at_call 70; refine (so _).mono ?_; rintro e w' ⟨rfl, rfl⟩)
            | (go_at_call 50; refine (hm _).mono ?_; rintro e w' ⟨rfl, rfl⟩)
            | (go_at_call 71; refine (vi _).mono ?_; rintro e w' ⟨rfl, rfl⟩)
            | fail)
          go_ret
          exact hkf _
end Go.Proofs.Ytmdahjmkfipdfaa
