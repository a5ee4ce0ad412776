/- walks: fullingref18.normalize at every valid pattern, fullingref18.Normalize -/
import Derived.Test.YtmdahjmkfipdfaaRef6
namespace Go.Proofs.Ytmdahjmkfipdfaa
set_option linter.unusedVariables false
set_option linter.unusedSimpArgs false
open Go.RowKit Go.Proofs.YtmdahjmkfipdfaaW.PrintWords Go.Proofs.YtmdahjmkfipdfaaW.PrintLast Go.Proofs.YtmdahjmkfipdfaaW.PrintMore
theorem pterms_count (v : Nat) : ∀ p : Pat, shape v p → ∀ T, pterms v p = some T → T.length ≤ 2 ^ p.size.toNat := by
  refine Pat.ind ?_
  rintro ⟨var, o, i, iv, ks⟩ ih hs T hT
  have hsz : (⟨var, o, i, iv, ks⟩ : Pat).size = 1 + Pat.sizes ks := by rw [Pat.size_eq]
  have h1' : 1 ≤ 2 ^ (⟨var, o, i, iv, ks⟩ : Pat).size.toNat := Nat.one_le_two_pow
  rw [shape] at hs
  rw [pterms] at hT
  by_cases h0 : var > 0
  · rw [if_pos h0] at hT
    cases hT
    exact h1'
  rw [if_neg h0] at hT
  have hvar : var = 0 := by
    by_cases e : var = 0
    · exact e
    · rw [if_pos e] at hs; omega
  subst hvar
  rw [if_neg (by simp)] at hs
  obtain ⟨⟨kids, s, hos, hlen⟩, hss⟩ := hs
  by_cases h1 : o = 1
  · rw [if_pos h1] at hT
    cases hT
    exact h1'
  rw [if_neg h1] at hT
  by_cases h12 : o = 12
  · rw [if_pos h12] at hT
    match ks, hT with
    | [], hT => simp [shlTerms] at hT
    | [_], hT => simp [shlTerms] at hT
    | a :: b :: r, hT =>
      rw [shlTerms] at hT
      split at hT
      · obtain ⟨A, hA, rfl⟩ := Option.map_eq_some_iff.1 hT
        rw [shapes] at hss
        have h2 := ih a (by simp) hss.1 A hA
        have h3 := size_kid (p := ⟨0, o, i, iv, a :: b :: r⟩) (i := 0) (q := a) rfl
        have h4 : 2 ^ a.size.toNat ≤ 2 ^ (⟨0, o, i, iv, a :: b :: r⟩ : Pat).size.toNat := Nat.pow_le_pow_right (by decide) (by omega)
        simp only [scaleT, List.length_map]
        omega
      · cases hT
  rw [if_neg h12] at hT
  obtain ⟨L, hL, hT⟩ := Option.bind_eq_some_iff.1 hT
  by_cases h2 : kids.length = 2
  · rw [h2] at hlen
    match ks, hlen with
    | [a, b], _ =>
      rw [ptermss, ptermss, ptermss] at hL
      obtain ⟨A, hA, hL⟩ := Option.bind_eq_some_iff.1 hL
      obtain ⟨L', hL', rfl⟩ := Option.map_eq_some_iff.1 hL
      obtain ⟨B, hB, hL'⟩ := Option.bind_eq_some_iff.1 hL'
      cases hL'
      rw [shapes, shapes] at hss
      have z0 := size_pos a
      have z1 := size_pos b
      have e : (⟨0, o, i, iv, [a, b]⟩ : Pat).size.toNat = 1 + a.size.toNat + b.size.toNat := by rw [hsz]; simp [Pat.sizes]; omega
      rw [e]
      exact opTerms_count (ih a (by simp) hss.1 A hA) (ih b (by simp) hss.2.1 B hB) hT
  · by_cases h3 : kids.length = 1
    · rw [h3] at hlen
      match ks, hlen with
      | [a], _ =>
        rw [ptermss, ptermss] at hL
        obtain ⟨A, hA, hL⟩ := Option.bind_eq_some_iff.1 hL
        cases hL
        rw [shapes] at hss
        have z0 := size_pos a
        have e : (⟨0, o, i, iv, [a]⟩ : Pat).size.toNat = 1 + a.size.toNat := by rw [hsz]; simp [Pat.sizes]; omega
        rw [e]
        exact opTerms_count1 (ih a (by simp) hss.1 A hA) hT
    · exfalso
      have h4 : ¬ o = 4 := fun e => by subst e; simp [opSorts] at hos; rw [← hos.1] at h2; exact h2 rfl
      have h5 : ¬ o = 5 := fun e => by subst e; simp [opSorts] at hos; rw [← hos.1] at h2; exact h2 rfl
      have h6 : ¬ o = 6 := fun e => by subst e; simp [opSorts] at hos; rw [← hos.1] at h2; exact h2 rfl
      have h20 : ¬ o = 20 := fun e => by subst e; simp [opSorts] at hos; rw [← hos.1] at h3; exact h3 rfl
      have h21 : ¬ o = 21 := fun e => by subst e; simp [opSorts] at hos; rw [← hos.1] at h3; exact h3 rfl
      simp [opTerms, h4, h5, h6, h20, h21] at hT
theorem rnorm_fine {v : Nat} {p : Pat} (hs : shape v p) (hi : noImm p) (hz : p.size ≤ 24) {l : List Mono} (h : rnorm v p = some l) : Fine v p.size l := by
  rw [rnorm_eq v p hs hi (by omega)] at h
  obtain ⟨T, hT, rfl⟩ := Option.map_eq_some_iff.1 h
  have hv := (poly_val (List.replicate v 0) v (by simp) p hs hi (by omega) T hT).2
  refine ⟨Nat.le_trans (normOut_length T) (pterms_count v p hs T hT), fun m hm => ?_⟩
  obtain ⟨_, k, c, hkc, he⟩ := normOut_mem hm
  obtain ⟨h1, h2⟩ := hv _ hkc
  refine ⟨by rw [he]; simp [expsOf]; exact h1, fun e hme => ?_⟩
  rw [he] at hme
  simp only [expsOf, List.mem_map] at hme
  obtain ⟨b, hb, rfl⟩ := hme
  have := h2 b hb
  omega
theorem noImms_get : ∀ {ks : List Pat} {q : Pat}, noImms ks → q ∈ ks → noImm q
  | [], _, _, h => by cases h
  | k :: ks, q, hs, h => by
    rw [noImms] at hs
    rcases List.mem_cons.1 h with rfl | h
    · exact hs.1
    · exact noImms_get hs.2 h
theorem shapes_mem : ∀ {v : Nat} {ks : List Pat} {q : Pat}, shapes v ks → q ∈ ks → shape v q
  | _, [], _, _, h => by cases h
  | _, k :: ks, q, hs, h => by
    rw [shapes] at hs
    rcases List.mem_cons.1 h with rfl | h
    · exact hs.1
    · exact shapes_mem hs.2 h
theorem refnormalize_calls (v : Nat) (hv : v ≤ 6) : ∀ p : Pat, shape v p → noImm p → p.size ≤ 24 → RefC v p := by
  refine Pat.ind ?_
  intro p ih hs hi hz A c w hr hcl
  by_cases h0 : p.var = 0
  · obtain ⟨⟨kids, own, hos, hkl⟩, hsk⟩ : (∃ kids s, opSorts p.op = some (kids, s) ∧ p.kids.length = kids.length) ∧ shapes v p.kids := by
      obtain ⟨var, op, imm, iv, ks⟩ := p
      simp only at h0
      subst h0
      rw [shape, if_neg (by simp)] at hs
      exact hs
    have hik : noImms p.kids := by
      obtain ⟨var, op, imm, iv, ks⟩ := p
      rw [noImm] at hi
      exact hi.2.2
    have hkz : ∀ q ∈ p.kids, q.size ≤ 24 := fun q hq => by
      obtain ⟨i, hi⟩ := List.getElem?_of_mem hq
      have := size_kid hi
      omega
    exact refnorm_op v hv p A c w h0 kids own hos hkl (fun q hq => ih q hq (shapes_mem hsk hq) (noImms_get hik hq) (hkz q hq)) (fun q hq l hl => rnorm_fine (shapes_mem hsk hq) (noImms_get hik hq) (hkz q hq) hl) hz hr hcl
  · have hs' : 1 ≤ p.var ∧ p.var ≤ v := by
      obtain ⟨var, op, imm, iv, ks⟩ := p
      rw [shape, if_pos h0] at hs
      exact hs
    exact refnorm_var v hv p A c w hs'.1 hs'.2
theorem polyNorm_rnorm {p : Pat} {vars : Int} (hv : patValid p vars 0 = true) (hz : wrap64 p.size = p.size) : polyNorm p vars = rnorm vars.toNat p ∧ shape vars.toNat p ∧ noImm p ∧ p.size ≤ 24 ∧ 0 ≤ vars ∧ vars ≤ 6 := by
  obtain ⟨hs, hw, h0, h6, hvd⟩ := patValid_shape hv
  rw [wrap64'_eq, hz] at hw
  have hi := valid_noImm p _ _ hvd
  exact ⟨by rw [polyNorm, if_pos hv, rnorm_eq _ p hs hi (by omega)], hs, hi, hw, h0, h6⟩
set_option maxHeartbeats 1000000 in
set_option maxRecDepth 100000 in
theorem refNormalize_calls (p : Pat) (vars : Int) (A : Option Addr) (c : Nat) (w : World) (hr : Kd.C kPat w A p.kids.length p.kids) (hcl : p.kids.length ≤ c) (hsz : wrap64 p.size = p.size) :
    Calls Try.prog 23 #[.agg #[.int .i64 p.var, .int .i64 p.op, .int .i64 p.imm, .int .i64 p.immVar, .slice A p.kids.length c], .int .i64 vars] w (NormL w (polyNorm p vars)) := by
  have hW := fun ob => (Below.refl w.heap.size w).alloc (Nat.le_refl _) ob
  have hv := fun W h => refValid_calls p vars 0 A c W h hcl
  rcases hpv : patValid p vars 0 with _ | _
  · rw [hpv] at hv
    have E : Hid (polyNorm p vars = none) := Lib.hid (by rw [polyNorm, hpv]; rfl)
    clear hpv hsz
    go_enter Try.func23, Try.ntmps23
    go_wp2_with fail
    refine (hv _ (Kd.C_alloc hr _)).mono ?_
    rintro e w1 ⟨rfl, hb1⟩
    go_wp2
    go_ret2
    rw [E.out]
    exact ⟨below_then (hW _) (by simp) hb1, rfl⟩
  · rw [hpv] at hv
    obtain ⟨E, hs, hi, hz, h0, h6⟩ := polyNorm_rnorm hpv hsz
    replace E := Lib.hid E
    obtain ⟨n, rfl⟩ := Int.eq_ofNat_of_zero_le h0
    have hn := fun W h => refnormalize_calls n (by omega) p hs hi hz A c W h hcl
    clear hpv hsz hs hi
    go_enter Try.func23, Try.ntmps23
    go_wp2_with fail
    refine (hv _ (Kd.C_alloc hr _)).mono ?_
    rintro e w1 ⟨rfl, hb1⟩
    have hB1 := below_then (hW _) (by simp) hb1
    have hbk := blk_below (blk_new w _) hb1
    have d0 := (blk_cell hbk 0).trans rfl
    have d1 := (blk_cell hbk 1).trans rfl
    have d2 := (blk_cell hbk 2).trans rfl
    have d3 := (blk_cell hbk 3).trans rfl
    have d4 := (blk_cell hbk 4).trans rfl
    go_wp2_with fail
    refine (hn _ (Kd.C_below (Kd.C_alloc hr _) hb1)).mono ?_
    rintro e w2 ⟨hb2, h2⟩
    have E := E.out
    simp only [Int.toNat_natCast] at E
    rcases hrn : rnorm n p with _ | ms
    · rw [hrn] at h2
      subst h2
      rw [hrn] at E
      replace E := Lib.hid E
      clear hrn hn
      go_wp2
      go_ret2
      rw [E.out]
      exact ⟨below_then hB1 hB1.size hb2, rfl⟩
    · rw [hrn] at h2
      obtain ⟨A2, c2, hc2, rfl, hF2⟩ := h2
      rw [hrn] at E
      replace E := Lib.hid E
      clear hrn hn
      go_wp2
      go_ret2
      rw [E.out]
      exact ⟨below_then hB1 hB1.size hb2, A2, c2, hc2, rfl, Kd.F_mono hF2 (fun k hk => Nat.le_trans hB1.size hk)⟩
end Go.Proofs.Ytmdahjmkfipdfaa
