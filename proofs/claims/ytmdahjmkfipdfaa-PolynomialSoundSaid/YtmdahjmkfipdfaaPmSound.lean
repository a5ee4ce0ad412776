/- walk: fullinglaw18.PolynomialSound -/
import Derived.Test.YtmdahjmkfipdfaaPmShift
import Derived.Test.YtmdahjmkfipdfaaPoly6
import Derived.Test.YtmdahjmkfipdfaaPoly7
import Derived.Test.YtmdahjmkfipdfaaEv2
import Derived.Test.YtmdahjmkfipdfaaRf4
namespace Go.Proofs.Ytmdahjmkfipdfaa
set_option linter.unusedVariables false
set_option linter.unusedSimpArgs false
open Go.RowKit Go.Proofs.YtmdahjmkfipdfaaW.PrintWords Go.Proofs.YtmdahjmkfipdfaaW.PrintLast Go.Proofs.YtmdahjmkfipdfaaW.PrintMore
theorem wrap_sum (u x : Int) : IntKind.u64.wrap (u % 18446744073709551616 + x % 18446744073709551616) = (u + x) % 18446744073709551616 := by rw [wrapU64]; omega
/-- What is known of a normal form whose pattern has value n at the words. -/
structure NF (inp : List Int) (ms : List Mono) (n : Int) : Prop where
  val : evalM inp ms % 18446744073709551616 = n % 18446744073709551616
  len : ∀ m ∈ ms, m.exps.length = 3
  nz : ∀ m ∈ ms, m.coef ≠ 0
  small : ∀ m ∈ ms, ∀ e ∈ m.exps, 0 ≤ e ∧ e ≤ 24
  coef : ∀ m ∈ ms, m.coef % 18446744073709551616 = m.coef
  nodup : (ms.map (·.exps)).Nodup
theorem nf_of {p : Pat} {inp : List Int} {ms : List Mono} (h : polyNorm p 3 = some ms) (hz : p.size ≤ 1000) (hi : inp.length = 3) : ∃ n, evalP inp p = some n ∧ NF inp ms n := by
  obtain ⟨n, h1, h2, h3, h4⟩ := norm_value (inp := inp) h hz hi
  exact ⟨n, h1, ⟨h2, fun m hm => (h3 m hm).1, fun m hm => (h3 m hm).2.1, fun m hm => (h3 m hm).2.2, polyNorm_coef h, h4⟩⟩
theorem valid_of_norm {p : Pat} {T : Tm} (hp : pterms 3 p = some T) : patValid p 3 0 = (polyNorm p 3).isSome := by
  unfold polyNorm
  cases patValid p 3 0 with
  | false => rfl
  | true => rw [if_pos rfl, show (3 : Int).toNat = 3 from rfl, hp]; rfl
set_option maxHeartbeats 4000000 in
set_option maxRecDepth 100000 in
theorem sound_walk (A : Option Addr) (l : List Int) (cl : Nat) (B : Option Addr) (m : List Int) (cm : Nat) (a b c : Int) (w : World) (hA : (Kd.int .i64).C w A l.length l) (hcl : l.length ≤ cl) (_hyl : l.length * 8 ≤ 140737488351232) (hwl : ∀ n ∈ l, (Lit.int .i64 n).wf = true)
    (hB : (Kd.int .i64).C w B m.length m) (hcm : m.length ≤ cm) (_hym : m.length * 8 ≤ 140737488351232) (hwm : ∀ n ∈ m, (Lit.int .i64 n).wf = true) (ha : (Lit.int .i64 a).wf = true) (hb : (Lit.int .i64 b).wf = true) (hc : (Lit.int .i64 c).wf = true) :
    Calls Try.prog 4 #[.slice A l.length cl, .slice B m.length cm, .int .i64 a, .int .i64 b, .int .i64 c] w fun e w' => e = .returned (.bool true) ∧ Below w.heap.size w w' := by
  have hw3 : ∀ x ∈ [a, b, c], I64 x := by
    intro x hx
    simp only [List.mem_cons, List.not_mem_nil, or_false] at hx
    rcases hx with rfl | rfl | rfl
    · exact wf_i64 ha
    · exact wf_i64 hb
    · exact wf_i64 hc
  have hwl' : ∀ x ∈ l, I64 x := fun x hx => wf_i64 (hwl x hx)
  have hwm' : ∀ x ∈ m, I64 x := fun x hx => wf_i64 (hwm x hx)
  have hpp := fun W h => Pattern_calls 3 (by decide) (by decide) l A cl W h hcl hwl' _ rfl
  have hpq := fun W h => Pattern_calls 3 (by decide) (by decide) m B cm W h hcm hwm' _ rfl
  have zp := genP_size 3 l
  have zq := genP_size 3 m
  obtain ⟨TA, hTA⟩ : ∃ T, pterms 3 (genP 3 l) = some T := genPat_terms 3 (by decide) 3 4 _
  obtain ⟨TB, hTB⟩ : ∃ T, pterms 3 (genP 3 m) = some T := genPat_terms 3 (by decide) 3 4 _
  have ip := (genPat_imm 3 4 (l.take 20) (fun x hx => hwl' x (List.mem_of_mem_take hx))).1
  have iq := (genPat_imm 3 4 (m.take 20) (fun x hx => hwm' x (List.mem_of_mem_take hx))).1
  obtain ⟨p, hp⟩ : ∃ p, p = genP 3 l := ⟨_, rfl⟩
  obtain ⟨q, hq⟩ : ∃ q, q = genP 3 m := ⟨_, rfl⟩
  rw [← hp] at hpp zp hTA
  rw [← hq] at hpq zq hTB
  rw [show (genPat 3 4 (l.take 20)).1 = p from hp.symm] at ip
  rw [show (genPat 3 4 (m.take 20)).1 = q from hq.symm] at iq
  have hNp := fun (A' : Option Addr) (c' : Nat) W h1 h2 => Normalize_calls p 3 A' c' W h1 h2 (size_of_small (by omega) (by omega))
  have hNq := fun (A' : Option Addr) (c' : Nat) W h1 h2 => Normalize_calls q 3 A' c' W h1 h2 (size_of_small (by omega) (by omega))
  have hVp := fun (A' : Option Addr) (c' : Nat) W h1 h2 => refValid_calls p 3 0 A' c' W h1 h2
  have hVq := fun (A' : Option Addr) (c' : Nat) W h1 h2 => refValid_calls q 3 0 A' c' W h1 h2
  have vp := valid_of_norm hTA
  have vq := valid_of_norm hTB
  obtain ⟨oP, hoP⟩ : ∃ o, o = polyNorm p 3 := ⟨_, rfl⟩
  obtain ⟨oQ, hoQ⟩ : ∃ o, o = polyNorm q 3 := ⟨_, rfl⟩
  rw [← hoP] at hNp vp
  rw [← hoQ] at hNq vq
  rw [vp] at hVp
  rw [vq] at hVq
  have nfp : ∀ x, oP = some x → ∃ n, evalP [a, b, c] p = some n ∧ I64 n ∧ NF [a, b, c] x n ∧ shape 3 p := fun x hx => by
    obtain ⟨n, h1, h2⟩ := nf_of (inp := [a, b, c]) (hoP ▸ hx) (by omega) rfl
    exact ⟨n, h1, evalP_i64 hw3 p ip n h1, h2, (patValid_shape (p := p) (vars := 3) (imms := 0) (by rw [vp, hx]; rfl)).1⟩
  have nfq : ∀ x, oQ = some x → ∃ n, evalP [a, b, c] q = some n ∧ I64 n ∧ NF [a, b, c] x n ∧ shape 3 q := fun x hx => by
    obtain ⟨n, h1, h2⟩ := nf_of (inp := [a, b, c]) (hoQ ▸ hx) (by omega) rfl
    exact ⟨n, h1, evalP_i64 hw3 q iq n h1, h2, (patValid_shape (p := q) (vars := 3) (imms := 0) (by rw [vq, hx]; rfl)).1⟩
  clear hp hq hTA hTB hoP hoQ vp vq ip iq hwl hwm hwl' hwm' hw3 ha hb hc
  obtain ⟨x, hx⟩ : ∃ x, x = oP.getD [] := ⟨_, rfl⟩
  obtain ⟨ok, hok⟩ : ∃ ok, ok = oP.isSome := ⟨_, rfl⟩
  obtain ⟨y, hy⟩ : ∃ y, y = oQ.getD [] := ⟨_, rfl⟩
  obtain ⟨is, his⟩ : ∃ ok, ok = oQ.isSome := ⟨_, rfl⟩
  rw [← hok] at hVp
  rw [← his] at hVq
  replace hx := Lib.hid hx
  replace hok := Lib.hid hok
  replace hy := Lib.hid hy
  replace his := Lib.hid his
  have hWA : ∀ (W : World) ob, Below W.heap.size W (W.alloc ob) := fun W ob => (Below.refl _ _).alloc (Nat.le_refl _) ob
  have hI0 : (Kd.int .i64).C (w.alloc (.cells #[.int .i64 a, .int .i64 b, .int .i64 c] 2)) (some ⟨w.heap.size, 0, none⟩) 3 [a, b, c] := C_ints w [a, b, c] 2 (by simp)
  go_enter Try.func4, Try.ntmps4
  go_wp2_with fail
  refine (hpp _ (Kd.C_below hA (hWA w _))).mono ?_
  rintro e w1 ⟨A1, c1, rfl, hk1, hC1, hb1⟩
  have hB1 := below_then (hWA w _) (by simp) hb1
  have hI1 := Kd.C_below hI0 hb1
  go_wp2_with fail
  refine (hpq _ (Kd.C_below hB hB1)).mono ?_
  rintro e w2 ⟨A2, c2, rfl, hk2, hC2, hb2⟩
  have hB2 := below_then hB1 hB1.size hb2
  have hI2 := Kd.C_below hI1 hb2
  have hC1' := Kd.C_below hC1 hb2
  obtain ⟨w3, hw3⟩ : ∃ w3, w3 = (w2.alloc (.cells #[.int .i64 p.var, .int .i64 p.op, .int .i64 p.imm, .int .i64 p.immVar, .slice A1 p.kids.length c1] 24)).alloc (.cells #[.int .i64 q.var, .int .i64 q.op, .int .i64 q.imm, .int .i64 q.immVar, .slice A2 q.kids.length c2] 24) := ⟨_, rfl⟩
  have hbp := blk_below (blk_new w2 (.cells #[.int .i64 p.var, .int .i64 p.op, .int .i64 p.imm, .int .i64 p.immVar, .slice A1 p.kids.length c1] 24)) (hWA (w2.alloc (.cells #[.int .i64 p.var, .int .i64 p.op, .int .i64 p.imm, .int .i64 p.immVar, .slice A1 p.kids.length c1] 24)) (.cells #[.int .i64 q.var, .int .i64 q.op, .int .i64 q.imm, .int .i64 q.immVar, .slice A2 q.kids.length c2] 24))
  have hbq := blk_new (w2.alloc (.cells #[.int .i64 p.var, .int .i64 p.op, .int .i64 p.imm, .int .i64 p.immVar, .slice A1 p.kids.length c1] 24)) (.cells #[.int .i64 q.var, .int .i64 q.op, .int .i64 q.imm, .int .i64 q.immVar, .slice A2 q.kids.length c2] 24)
  simp only [World.size_alloc] at hbq
  have hb3 : Below w2.heap.size w2 w3 := by rw [hw3]; exact ((Below.refl _ _).alloc (Nat.le_refl _) _).alloc (by simp) _
  rw [← hw3] at hbp hbq
  have hB3 := below_then hB2 hB2.size hb3
  have hI3 := Kd.C_below hI2 hb3
  have hP3 := Kd.C_below hC1' hb3
  have hQ3 := Kd.C_below hC2 hb3
  go_wp2_with fail
  rw [← hw3]
  refine (hNp A1 c1 _ hP3 hk1).mono ?_
  intro e w4 h
  obtain ⟨hb4, A4, c4, hc4, rfl, hC4⟩ := MonosRes.reads' h hx hok
  clear h hw3 hb3
  have hB4 := below_then hB3 hB3.size hb4
  replace hbp := blk_below hbp hb4
  replace hbq := blk_below hbq hb4
  replace hI3 := Kd.C_below hI3 hb4
  replace hP3 := Kd.C_below hP3 hb4
  replace hQ3 := Kd.C_below hQ3 hb4
  have p0 := (blk_cell hbp 0).trans rfl
  have p1 := (blk_cell hbp 1).trans rfl
  have p2 := (blk_cell hbp 2).trans rfl
  have p3 := (blk_cell hbp 3).trans rfl
  have p4 := (blk_cell hbp 4).trans rfl
  have q0 := (blk_cell hbq 0).trans rfl
  have q1 := (blk_cell hbq 1).trans rfl
  have q2 := (blk_cell hbq 2).trans rfl
  have q3 := (blk_cell hbq 3).trans rfl
  have q4 := (blk_cell hbq 4).trans rfl
  go_wp2_with fail
  refine (hNq A2 c2 _ hQ3 hk2).mono ?_
  intro e w5 h
  obtain ⟨hb5, A5, c5, hc5, rfl, hC5⟩ := MonosRes.reads' h hy his
  clear h p0 p1 p2 p3 p4 q0 q1 q2 q3 q4
  have hB5 := below_then hB4 hB4.size hb5
  replace hbp := blk_below hbp hb5
  replace hbq := blk_below hbq hb5
  replace hI3 := Kd.C_below hI3 hb5
  replace hP3 := Kd.C_below hP3 hb5
  replace hQ3 := Kd.C_below hQ3 hb5
  replace hC4 := Kd.C_below hC4 hb5
  have p0 := (blk_cell hbp 0).trans rfl
  have p1 := (blk_cell hbp 1).trans rfl
  have p2 := (blk_cell hbp 2).trans rfl
  have p3 := (blk_cell hbp 3).trans rfl
  have p4 := (blk_cell hbp 4).trans rfl
  have q0 := (blk_cell hbq 0).trans rfl
  have q1 := (blk_cell hbq 1).trans rfl
  have q2 := (blk_cell hbq 2).trans rfl
  have q3 := (blk_cell hbq 3).trans rfl
  have q4 := (blk_cell hbq 4).trans rfl
  clear hNp hNq hb1 hb2 hb4 hb5 hpp hpq hA hB hI0 hI1 hI2 hC1 hC2 hC1' hB1 hB2 hB3 hB4
  cases hokv : ok with
  | false =>
    rw [hokv] at hVp
    subst hokv
    go_wp2_with fail
    refine (hVp A1 c1 _ hP3 hk1).mono ?_
    rintro e w6 ⟨rfl, hb6⟩
    have hB6 := below_then hB5 hB5.size hb6
    go_wp2_with fail
    refine (examples18_calls _).mono ?_
    rintro e w7 ⟨rfl, hb7⟩
    go_wp2
    go_ret
    exact ⟨rfl, below_then hB6 hB6.size hb7⟩
  | true =>
    rw [hokv] at hVp
    subst hokv
    cases hisv : is with
    | false =>
      rw [hisv] at hVq
      subst hisv
      go_wp2_with fail
      refine (hVp A1 c1 _ hP3 hk1).mono ?_
      rintro e w6 ⟨rfl, hb6⟩
      have hB6 := below_then hB5 hB5.size hb6
      replace q0 := pw_cell_below hb6 q0
      replace q1 := pw_cell_below hb6 q1
      replace q2 := pw_cell_below hb6 q2
      replace q3 := pw_cell_below hb6 q3
      replace q4 := pw_cell_below hb6 q4
      go_wp2_with fail
      refine (hVq A2 c2 _ (Kd.C_below hQ3 hb6) hk2).mono ?_
      rintro e w7 ⟨rfl, hb7⟩
      have hB7 := below_then hB6 hB6.size hb7
      go_wp2_with fail
      refine (examples18_calls _).mono ?_
      rintro e w8 ⟨rfl, hb8⟩
      go_wp2
      go_ret
      exact ⟨rfl, below_then hB7 hB7.size hb8⟩
    | true =>
      subst hisv
      clear hVp hVq
      obtain ⟨xs, hxs⟩ : ∃ z, oP = some z := Option.isSome_iff_exists.1 hok.out.symm
      obtain ⟨ys, hys⟩ : ∃ z, oQ = some z := Option.isSome_iff_exists.1 his.out.symm
      obtain rfl : x = xs := by rw [hx.out, hxs]; rfl
      obtain rfl : y = ys := by rw [hy.out, hys]; rfl
      obtain ⟨n, en, in_, nx, sp⟩ := nfp _ hxs
      obtain ⟨k, ek, ik, ny, sq⟩ := nfq _ hys
      have hEp := fun W h1 h2 => Evaluate_calls [a, b, c] 3 (by simp) p sp A1 (some ⟨w.heap.size, 0, none⟩) c1 3 W h1 hk1 h2 (by simp)
      have hEq := fun W h1 h2 => Evaluate_calls [a, b, c] 3 (by simp) q sq A2 (some ⟨w.heap.size, 0, none⟩) c2 3 W h1 hk2 h2 (by simp)
      rw [en] at hEp
      rw [ek] at hEq
      have hnk : Hid (x = y → n = k) := Lib.hid fun e => word_eq in_ ik (by rw [← nx.val, ← ny.val, e])
      have hux : Hid (evalM [a, b, c] x % 18446744073709551616 = IntKind.u64.wrap n) := Lib.hid (by rw [nx.val, wrapU64])
      have huy : Hid (evalM [a, b, c] y % 18446744073709551616 = IntKind.u64.wrap k) := Lib.hid (by rw [ny.val, wrapU64])
      obtain ⟨inp, hinp⟩ : ∃ inp, inp = [a, b, c] := ⟨_, rfl⟩
      have hil : inp.length = 3 := by rw [hinp]; rfl
      rw [← hinp] at hEp hEq hux huy hI3
      have hterm : ∀ (z : Mono) (Z : Option Addr) (dz : Nat) (W : World), z.exps.length = 3 → (Kd.int .i64).C W Z 3 z.exps → 3 ≤ dz → (Kd.int .i64).C W (some ⟨w.heap.size, 0, none⟩) 3 inp → (∀ e ∈ z.exps, 0 ≤ e ∧ e ≤ 24) → z.coef % 18446744073709551616 = z.coef → Calls Try.prog 19 #[.agg #[.slice Z 3 dz, .int .u64 z.coef], .slice (some ⟨w.heap.size, 0, none⟩) 3 3] W fun e w' => e = .returned (.int .u64 (z.coef * evalE inp z.exps % 18446744073709551616)) ∧ Below W.heap.size W w' :=
        fun z Z dz W h4 h1 h2 h3 h5 h6 => by
          have h := term_calls z inp Z (some ⟨w.heap.size, 0, none⟩) dz 3 W (by rw [h4]; exact h1) (by rw [h4]; exact h2) (by rw [hil]; exact h3) (by omega) (by omega) h5 h6
          rw [hil, h4] at h
          exact h
      rw [hil] at hEp hEq
      clear nfp nfq hx hy hok his hxs hys en ek in_ ik sp sq hinp
      have hmax := Kd.C_max hC4
      have hmay := Kd.C_max hC5
      go_wp2
      go_loopw [66, 18] (fun v66 v18 wr => ∃ (i : Nat), i ≤ x.length ∧ v66 = .int .i64 i ∧ v18 = .int .u64 (evalM inp (x.take i) % 18446744073709551616) ∧ Below w5.heap.size w5 wr)
        (fun v66 _ _ => x.length - (intOf v66).toNat)
      case atStart => exact ⟨0, Nat.zero_le _, rfl, rfl, Below.refl _ _⟩
      case round =>
        obtain ⟨i, hi, rfl, rfl, hB⟩ := hrel
        by_cases hlt : i < x.length
        · obtain ⟨t, ht⟩ : ∃ t, x[i]? = some t := ⟨_, List.getElem?_eq_getElem hlt⟩
          have htm := List.mem_of_getElem? ht
          obtain ⟨xd, B0, d0, rfl, a0, a1, al, aC⟩ := atN_Mono hC4 ht
          have ht3 := nx.len t htm
          have hnz : (t.coef == 0) = false := by simpa using nx.nz t htm
          have hts := nx.small t htm
          have htc := nx.coef t htm
          have hs := Lib.hid (evalM_snoc (inp := inp) ht)
          replace a0 := pw_cell_below hB a0
          replace a1 := pw_cell_below hB a1
          have hgt := fun ob => blk_new wr ob
          obtain ⟨U, hU⟩ : ∃ U, U = evalM inp (x.take i) := ⟨_, rfl⟩
          rw [← hU]
          rw [← hU] at hs
          have hne : Hid (∀ (k : Nat) (z : Mono), x[k]? = some z → k < i → t.exps ≠ z.exps) := Lib.hid fun k z hz hki => exps_differ nx.nodup ht hz hki
          clear ht htm hU
          rw [ht3] at al aC
          obtain ⟨e0, e1, e2, het⟩ := len3 ht3
          have aC' := aC
          rw [het] at aC'
          replace het := Lib.hid het
          obtain ⟨ed, rfl, ec0⟩ := atN_int aC' (k := 0) rfl
          obtain ⟨_, hed, ec1⟩ := atN_int aC' (k := 1) rfl
          cases hed
          obtain ⟨_, hed, ec2⟩ := atN_int aC' (k := 2) rfl
          cases hed
          simp only [add0] at ec0
          go_wp2_with fail
          refine (hterm t (some ed) d0 _ ht3 (Kd.C_alloc (Kd.C_below aC hB) _) al (Kd.C_alloc (Kd.C_below hI3 hB) _) hts htc).mono ?_
          rintro e w6 ⟨rfl, hb6⟩
          have hst := Lib.hid (wrap_sum U (t.coef * evalE inp t.exps))
          have hgt6 := blk_below (hgt (.cells #[.slice (some ed) 3 d0, .int .u64 t.coef] 32)) hb6
          have hB6 := below_then (hB.alloc hB.size (.cells #[.slice (some ed) 3 d0, .int .u64 t.coef] 32)) (by simp; have := hB.size; omega) hb6
          clear hgt
          go_wp2
          obtain ⟨wo, rfl⟩ : ∃ wo : World, wo = wr := ⟨_, rfl⟩
          go_loopw [22] (fun v22 wr => ∃ (k : Nat), k ≤ i ∧ v22 = .int .i64 k ∧ Below w6.heap.size w6 wr)
            (fun v22 _ => i - (intOf v22).toNat)
          case atStart => exact ⟨0, Nat.zero_le _, rfl, Below.refl _ _⟩
          case round =>
            obtain ⟨k, hk, rfl, hBk⟩ := hrel
            by_cases hki : k < i
            · have hkx : k < x.length := by omega
              obtain ⟨z, hz⟩ : ∃ z, x[k]? = some z := ⟨_, List.getElem?_eq_getElem hkx⟩
              have hne' := hne.out k z hz hki
              have hz3 := nx.len z (List.mem_of_getElem? hz)
              obtain ⟨f0, f1, f2, hef⟩ := len3 hz3
              obtain ⟨_, D0, dd0, hxd, x0, x1, xl, xC⟩ := atN_Mono hC4 hz
              cases hxd
              rw [hz3] at x0 xl xC
              rw [hef] at xC
              obtain ⟨fd, rfl, fc0⟩ := atN_int xC (k := 0) rfl
              obtain ⟨_, hfd, fc1⟩ := atN_int xC (k := 1) rfl
              cases hfd
              obtain ⟨_, hfd, fc2⟩ := atN_int xC (k := 2) rfl
              cases hfd
              simp only [add0] at fc0
              have hBw := below_then hB6 hB6.size hBk
              have t0 := (blk_cell (blk_below hgt6 hBk) 0).trans rfl
              replace ec0 := pw_cell_below hBw ec0
              replace ec1 := pw_cell_below hBw ec1
              replace ec2 := pw_cell_below hBw ec2
              replace fc0 := pw_cell_below hBw fc0
              replace fc1 := pw_cell_below hBw fc1
              replace fc2 := pw_cell_below hBw fc2
              replace x0 := pw_cell_below hBw x0
              rw [het.out, hef] at hne'
              replace hne' := Lib.hid hne'
              clear hz hef hz3
              by_cases h0 : e0 = f0
              · subst h0
                by_cases h1 : e1 = f1
                · subst h1
                  have h2 : (e2 == f2) = false := beq_no (fun e => hne'.out (by rw [e]))
                  go_wp2
                  refine start_ (n := 40) (S := fun w' => w'.cell? ⟨wo.heap.size, 0, none⟩ = some (.slice (some ed) 3 d0) ∧ w'.cell? ed = some (.int .i64 e0) ∧ w'.cell? ⟨ed.block, ed.off + 1, none⟩ = some (.int .i64 e1) ∧ w'.cell? ⟨ed.block, ed.off + 2, none⟩ = some (.int .i64 e2) ∧ w'.cell? (xd.add (k * 2)) = some (.slice (some fd) 3 dd0) ∧ w'.cell? fd = some (.int .i64 e0) ∧ w'.cell? ⟨fd.block, fd.off + 1, none⟩ = some (.int .i64 e1) ∧ w'.cell? ⟨fd.block, fd.off + 2, none⟩ = some (.int .i64 f2)) (ds := []) (bm 40 0) (by kernel_rfl) rfl rfl ⟨t0, ec0, ec1, ec2, x0, fc0, fc1, fc2⟩ (fun hHeld => ?_)
                  refine pure_ (i := 0) (N := some 90) (v := ?_) (a' := ?_) (bm 40 1) rfl rfl (by kernel_rfl) (fun _ _ _ h => h) (Or.inl ⟨by rfl, ?_⟩) ?_ ?_
                  rotate_left
                  · intro w'; go_simp; with_reducible rfl
                  rotate_left
                  · simp only [P4]; rfl
                  refine pure_ (i := 4) (N := some 94) (v := ?_) (a' := ?_) (bm 40 17) rfl rfl (by kernel_rfl) (fun _ _ _ h => h) (Or.inl ⟨by rfl, ?_⟩) ?_ ?_
                  rotate_left
                  · intro w'; go_simp; with_reducible rfl
                  rotate_left
                  · simp only [P4]; rfl
                  refine pure_ (i := 5) (N := some 95) (v := ?_) (a' := ?_) (bm 40 49) rfl rfl (by kernel_rfl) (fun _ _ _ h => h) (Or.inl ⟨by rfl, ?_⟩) ?_ ?_
                  rotate_left
                  · intro w'; go_simp; with_reducible rfl
                  rotate_left
                  · simp only [P4]; rfl
                  refine pure_ (i := 6) (N := some 96) (v := ?_) (a' := ?_) (bm 40 113) rfl rfl (by kernel_rfl) (fun _ _ _ h => h) (Or.inl ⟨by rfl, ?_⟩) ?_ ?_
                  rotate_left
                  · intro w'; go_simp; with_reducible rfl
                  rotate_left
                  · simp only [P4]; rfl
                  refine pure_ (i := 7) (N := some 97) (v := ?_) (a' := ?_) (bm 40 241) rfl rfl (by kernel_rfl) (fun _ _ _ h => h) (Or.inl ⟨by rfl, ?_⟩) ?_ ?_
                  rotate_left
                  · intro w'; go_simp; with_reducible rfl
                  rotate_left
                  · simp only [P4]; rfl
                  refine take_ (i := 1) (N := some 91) (v := ?_) (a' := ?_) (bm 40 243) rfl rfl (by kernel_rfl) (fun _ _ _ h => h) (Or.inl ⟨by rfl, ?_⟩) hHeld ?_ ?_
                  rotate_left
                  · rintro w' ⟨s0, s1, s2, s3, s4, s5, s6, s7⟩
                    go_simp
                    with_reducible rfl
                  rotate_left
                  · simp only [P4]; rfl
                  refine pure_ (i := 2) (N := some 92) (v := ?_) (a' := ?_) (bm 40 247) rfl rfl (by kernel_rfl) (fun _ _ _ h => h) (Or.inl ⟨by rfl, ?_⟩) ?_ ?_
                  rotate_left
                  · intro w'; go_simp; with_reducible rfl
                  rotate_left
                  · simp only [P4]; rfl
                  refine take_ (i := 3) (N := some 93) (v := ?_) (a' := ?_) (bm 40 255) rfl rfl (by kernel_rfl) (fun _ _ _ h => h) (Or.inl ⟨by rfl, ?_⟩) hHeld ?_ ?_
                  rotate_left
                  · rintro w' ⟨s0, s1, s2, s3, s4, s5, s6, s7⟩
                    go_simp
                    with_reducible rfl
                  rotate_left
                  · simp only [P4]; rfl
                  refine take_ (i := 8) (N := some 98) (v := ?_) (a' := ?_) (bm 40 511) rfl rfl (by kernel_rfl) (fun _ _ _ h => h) (Or.inl ⟨by rfl, ?_⟩) hHeld ?_ ?_
                  rotate_left
                  · rintro w' ⟨s0, s1, s2, s3, s4, s5, s6, s7⟩
                    go_simp
                    with_reducible rfl
                  rotate_left
                  · simp only [P4]; rfl
                  refine pure_ (i := 9) (N := some 99) (v := ?_) (a' := ?_) (bm 40 1023) rfl rfl (by kernel_rfl) (fun _ _ _ h => h) (Or.inl ⟨by rfl, ?_⟩) ?_ ?_
                  rotate_left
                  · intro w'; go_simp; with_reducible rfl
                  rotate_left
                  · simp only [P4]; rfl
                  refine take_ (i := 10) (N := some 100) (v := ?_) (a' := ?_) (bm 40 2047) rfl rfl (by kernel_rfl) (fun _ _ _ h => h) (Or.inl ⟨by rfl, ?_⟩) hHeld ?_ ?_
                  rotate_left
                  · rintro w' ⟨s0, s1, s2, s3, s4, s5, s6, s7⟩
                    go_simp
                    with_reducible rfl
                  rotate_left
                  · simp only [P4]; rfl
                  refine pure_ (i := 11) (N := some 101) (v := ?_) (a' := ?_) (bm 40 4095) rfl rfl (by kernel_rfl) (fun _ _ _ h => h) (Or.inl ⟨by rfl, ?_⟩) ?_ ?_
                  rotate_left
                  · intro w'; go_simp; with_reducible rfl
                  rotate_left
                  · simp only [P4]; rfl
                  refine pure_ (i := 12) (N := some 102) (v := ?_) (a' := ?_) (bm 40 8191) rfl rfl (by kernel_rfl) (fun _ _ _ h => h) (Or.inl ⟨by rfl, ?_⟩) ?_ ?_
                  rotate_left
                  · intro w'; go_simp; with_reducible rfl
                  rotate_left
                  · simp only [P4]; rfl
                  refine pure_ (i := 13) (N := some 103) (v := ?_) (a' := ?_) (bm 40 16383) rfl rfl (by kernel_rfl) (fun _ _ _ h => h) (Or.inl ⟨by rfl, ?_⟩) ?_ ?_
                  rotate_left
                  · intro w'; go_simp; with_reducible rfl
                  rotate_left
                  · simp only [P4]; rfl
                  refine pure_ (i := 17) (N := some 107) (v := ?_) (a' := ?_) (bm 40 147455) rfl rfl (by kernel_rfl) (fun _ _ _ h => h) (Or.inl ⟨by rfl, ?_⟩) ?_ ?_
                  rotate_left
                  · intro w'; go_simp; with_reducible rfl
                  rotate_left
                  · simp only [P4]; rfl
                  refine pure_ (i := 18) (N := some 108) (v := ?_) (a' := ?_) (bm 40 409599) rfl rfl (by kernel_rfl) (fun _ _ _ h => h) (Or.inl ⟨by rfl, ?_⟩) ?_ ?_
                  rotate_left
                  · intro w'; go_simp; with_reducible rfl
                  rotate_left
                  · simp only [P4]; rfl
                  refine pure_ (i := 19) (N := some 109) (v := ?_) (a' := ?_) (bm 40 933887) rfl rfl (by kernel_rfl) (fun _ _ _ h => h) (Or.inl ⟨by rfl, ?_⟩) ?_ ?_
                  rotate_left
                  · intro w'; go_simp; with_reducible rfl
                  rotate_left
                  · simp only [P4]; rfl
                  refine pure_ (i := 20) (N := some 110) (v := ?_) (a' := ?_) (bm 40 1982463) rfl rfl (by kernel_rfl) (fun _ _ _ h => h) (Or.inl ⟨by rfl, ?_⟩) ?_ ?_
                  rotate_left
                  · intro w'; go_simp; with_reducible rfl
                  rotate_left
                  · simp only [P4]; rfl
                  refine take_ (i := 14) (N := some 104) (v := ?_) (a' := ?_) (bm 40 1998847) rfl rfl (by kernel_rfl) (fun _ _ _ h => h) (Or.inl ⟨by rfl, ?_⟩) hHeld ?_ ?_
                  rotate_left
                  · rintro w' ⟨s0, s1, s2, s3, s4, s5, s6, s7⟩
                    go_simp
                    with_reducible rfl
                  rotate_left
                  · simp only [P4]; rfl
                  refine pure_ (i := 15) (N := some 105) (v := ?_) (a' := ?_) (bm 40 2031615) rfl rfl (by kernel_rfl) (fun _ _ _ h => h) (Or.inl ⟨by rfl, ?_⟩) ?_ ?_
                  rotate_left
                  · intro w'; go_simp; with_reducible rfl
                  rotate_left
                  · simp only [P4]; rfl
                  refine take_ (i := 16) (N := some 106) (v := ?_) (a' := ?_) (bm 40 2097151) rfl rfl (by kernel_rfl) (fun _ _ _ h => h) (Or.inl ⟨by rfl, ?_⟩) hHeld ?_ ?_
                  rotate_left
                  · rintro w' ⟨s0, s1, s2, s3, s4, s5, s6, s7⟩
                    go_simp
                    with_reducible rfl
                  rotate_left
                  · simp only [P4]; rfl
                  refine take_ (i := 21) (N := some 111) (v := ?_) (a' := ?_) (bm 40 4194303) rfl rfl (by kernel_rfl) (fun _ _ _ h => h) (Or.inl ⟨by rfl, ?_⟩) hHeld ?_ ?_
                  rotate_left
                  · rintro w' ⟨s0, s1, s2, s3, s4, s5, s6, s7⟩
                    go_simp
                    with_reducible rfl
                  rotate_left
                  · simp only [P4]; rfl
                  refine pure_ (i := 22) (N := some 112) (v := ?_) (a' := ?_) (bm 40 8388607) rfl rfl (by kernel_rfl) (fun _ _ _ h => h) (Or.inl ⟨by rfl, ?_⟩) ?_ ?_
                  rotate_left
                  · intro w'; go_simp; with_reducible rfl
                  rotate_left
                  · simp only [P4]; rfl
                  refine take_ (i := 23) (N := some 113) (v := ?_) (a' := ?_) (bm 40 16777215) rfl rfl (by kernel_rfl) (fun _ _ _ h => h) (Or.inl ⟨by rfl, ?_⟩) hHeld ?_ ?_
                  rotate_left
                  · rintro w' ⟨s0, s1, s2, s3, s4, s5, s6, s7⟩
                    go_simp
                    with_reducible rfl
                  rotate_left
                  · simp only [P4]; rfl
                  refine pure_ (i := 24) (N := some 114) (v := ?_) (a' := ?_) (bm 40 33554431) rfl rfl (by kernel_rfl) (fun _ _ _ h => h) (Or.inl ⟨by rfl, ?_⟩) ?_ ?_
                  rotate_left
                  · intro w'; go_simp; with_reducible rfl
                  rotate_left
                  · simp only [P4]; rfl
                  refine pure_ (i := 25) (N := some 115) (v := ?_) (a' := ?_) (bm 40 67108863) rfl rfl (by kernel_rfl) (fun _ _ _ h => h) (Or.inl ⟨by rfl, ?_⟩) ?_ ?_
                  rotate_left
                  · intro w'; go_simp; with_reducible rfl
                  rotate_left
                  · simp only [P4]; rfl
                  refine pure_ (i := 26) (N := some 116) (v := ?_) (a' := ?_) (bm 40 134217727) rfl rfl (by kernel_rfl) (fun _ _ _ h => h) (Or.inl ⟨by rfl, ?_⟩) ?_ ?_
                  rotate_left
                  · intro w'; go_simp; with_reducible rfl
                  rotate_left
                  · simp only [P4]; rfl
                  refine pure_ (i := 27) (N := some 117) (v := ?_) (a' := ?_) (bm 40 268435455) rfl rfl (by kernel_rfl) (fun _ _ _ h => h) (Or.inl ⟨by rfl, ?_⟩) ?_ ?_
                  rotate_left
                  · intro w'; go_simp; with_reducible rfl
                  rotate_left
                  · simp only [P4]; rfl
                  refine pure_ (i := 31) (N := some 121) (v := ?_) (a' := ?_) (bm 40 2415919103) rfl rfl (by kernel_rfl) (fun _ _ _ h => h) (Or.inl ⟨by rfl, ?_⟩) ?_ ?_
                  rotate_left
                  · intro w'; go_simp; with_reducible rfl
                  rotate_left
                  · simp only [P4]; rfl
                  refine pure_ (i := 32) (N := some 122) (v := ?_) (a' := ?_) (bm 40 6710886399) rfl rfl (by kernel_rfl) (fun _ _ _ h => h) (Or.inl ⟨by rfl, ?_⟩) ?_ ?_
                  rotate_left
                  · intro w'; go_simp; with_reducible rfl
                  rotate_left
                  · simp only [P4]; rfl
                  refine pure_ (i := 33) (N := some 123) (v := ?_) (a' := ?_) (bm 40 15300820991) rfl rfl (by kernel_rfl) (fun _ _ _ h => h) (Or.inl ⟨by rfl, ?_⟩) ?_ ?_
                  rotate_left
                  · intro w'; go_simp; with_reducible rfl
                  rotate_left
                  · simp only [P4]; rfl
                  refine pure_ (i := 34) (N := some 124) (v := ?_) (a' := ?_) (bm 40 32480690175) rfl rfl (by kernel_rfl) (fun _ _ _ h => h) (Or.inl ⟨by rfl, ?_⟩) ?_ ?_
                  rotate_left
                  · intro w'; go_simp; with_reducible rfl
                  rotate_left
                  · simp only [P4]; rfl
                  refine take_ (i := 28) (N := some 118) (v := ?_) (a' := ?_) (bm 40 32749125631) rfl rfl (by kernel_rfl) (fun _ _ _ h => h) (Or.inl ⟨by rfl, ?_⟩) hHeld ?_ ?_
                  rotate_left
                  · rintro w' ⟨s0, s1, s2, s3, s4, s5, s6, s7⟩
                    go_simp
                    with_reducible rfl
                  rotate_left
                  · simp only [P4]; rfl
                  refine pure_ (i := 29) (N := some 119) (v := ?_) (a' := ?_) (bm 40 33285996543) rfl rfl (by kernel_rfl) (fun _ _ _ h => h) (Or.inl ⟨by rfl, ?_⟩) ?_ ?_
                  rotate_left
                  · intro w'; go_simp; with_reducible rfl
                  rotate_left
                  · simp only [P4]; rfl
                  refine take_ (i := 30) (N := some 120) (v := ?_) (a' := ?_) (bm 40 34359738367) rfl rfl (by kernel_rfl) (fun _ _ _ h => h) (Or.inl ⟨by rfl, ?_⟩) hHeld ?_ ?_
                  rotate_left
                  · rintro w' ⟨s0, s1, s2, s3, s4, s5, s6, s7⟩
                    go_simp
                    with_reducible rfl
                  rotate_left
                  · simp only [P4]; rfl
                  refine take_ (i := 35) (N := some 125) (v := ?_) (a' := ?_) (bm 40 68719476735) rfl rfl (by kernel_rfl) (fun _ _ _ h => h) (Or.inl ⟨by rfl, ?_⟩) hHeld ?_ ?_
                  rotate_left
                  · rintro w' ⟨s0, s1, s2, s3, s4, s5, s6, s7⟩
                    go_simp
                    with_reducible rfl
                  rotate_left
                  · simp only [P4]; rfl
                  refine pure_ (i := 36) (N := some 126) (v := ?_) (a' := ?_) (bm 40 137438953471) rfl rfl (by kernel_rfl) (fun _ _ _ h => h) (Or.inl ⟨by rfl, ?_⟩) ?_ ?_
                  rotate_left
                  · intro w'; go_simp; with_reducible rfl
                  rotate_left
                  · simp only [P4]; rfl
                  refine take_ (i := 37) (N := some 127) (v := ?_) (a' := ?_) (bm 40 274877906943) rfl rfl (by kernel_rfl) (fun _ _ _ h => h) (Or.inl ⟨by rfl, ?_⟩) hHeld ?_ ?_
                  rotate_left
                  · rintro w' ⟨s0, s1, s2, s3, s4, s5, s6, s7⟩
                    go_simp
                    with_reducible rfl
                  rotate_left
                  · simp only [P4]; rfl
                  refine pure_ (i := 38) (N := some 128) (v := ?_) (a' := ?_) (bm 40 549755813887) rfl rfl (by kernel_rfl) (fun _ _ _ h => h) (Or.inl ⟨by rfl, ?_⟩) ?_ ?_
                  rotate_left
                  · intro w'; go_simp; with_reducible rfl
                  rotate_left
                  · simp only [P4]; rfl
                  refine pure_ (i := 39) (N := some 129) (v := ?_) (a' := ?_) (bm 40 1099511627775) rfl rfl (by kernel_rfl) (fun _ _ _ h => h) (Or.inl ⟨by rfl, ?_⟩) ?_ ?_
                  rotate_left
                  · intro w'; go_simp; with_reducible rfl
                  rotate_left
                  · simp only [P4]; rfl
                  refine done_ (by kernel_rfl) ?_
                  go_wp2
                  go_roundw
                  case rel => exact ⟨k + 1, by omega, by go_num, below_drew hBk⟩
                  case measure => simp [intOf]; omega
                · have h1' : (e1 == f1) = false := beq_no h1
                  clear h1
                  go_wp2
                  refine start_ (n := 40) (S := fun w' => w'.cell? ⟨wo.heap.size, 0, none⟩ = some (.slice (some ed) 3 d0) ∧ w'.cell? ed = some (.int .i64 e0) ∧ w'.cell? ⟨ed.block, ed.off + 1, none⟩ = some (.int .i64 e1) ∧ w'.cell? ⟨ed.block, ed.off + 2, none⟩ = some (.int .i64 e2) ∧ w'.cell? (xd.add (k * 2)) = some (.slice (some fd) 3 dd0) ∧ w'.cell? fd = some (.int .i64 e0) ∧ w'.cell? ⟨fd.block, fd.off + 1, none⟩ = some (.int .i64 f1) ∧ w'.cell? ⟨fd.block, fd.off + 2, none⟩ = some (.int .i64 f2)) (ds := []) (bm 40 0) (by kernel_rfl) rfl rfl ⟨t0, ec0, ec1, ec2, x0, fc0, fc1, fc2⟩ (fun hHeld => ?_)
                  refine pure_ (i := 0) (N := some 90) (v := ?_) (a' := ?_) (bm 40 1) rfl rfl (by kernel_rfl) (fun _ _ _ h => h) (Or.inl ⟨by rfl, ?_⟩) ?_ ?_
                  rotate_left
                  · intro w'; go_simp; with_reducible rfl
                  rotate_left
                  · simp only [P4]; rfl
                  refine pure_ (i := 4) (N := some 94) (v := ?_) (a' := ?_) (bm 40 17) rfl rfl (by kernel_rfl) (fun _ _ _ h => h) (Or.inl ⟨by rfl, ?_⟩) ?_ ?_
                  rotate_left
                  · intro w'; go_simp; with_reducible rfl
                  rotate_left
                  · simp only [P4]; rfl
                  refine pure_ (i := 5) (N := some 95) (v := ?_) (a' := ?_) (bm 40 49) rfl rfl (by kernel_rfl) (fun _ _ _ h => h) (Or.inl ⟨by rfl, ?_⟩) ?_ ?_
                  rotate_left
                  · intro w'; go_simp; with_reducible rfl
                  rotate_left
                  · simp only [P4]; rfl
                  refine pure_ (i := 6) (N := some 96) (v := ?_) (a' := ?_) (bm 40 113) rfl rfl (by kernel_rfl) (fun _ _ _ h => h) (Or.inl ⟨by rfl, ?_⟩) ?_ ?_
                  rotate_left
                  · intro w'; go_simp; with_reducible rfl
                  rotate_left
                  · simp only [P4]; rfl
                  refine pure_ (i := 7) (N := some 97) (v := ?_) (a' := ?_) (bm 40 241) rfl rfl (by kernel_rfl) (fun _ _ _ h => h) (Or.inl ⟨by rfl, ?_⟩) ?_ ?_
                  rotate_left
                  · intro w'; go_simp; with_reducible rfl
                  rotate_left
                  · simp only [P4]; rfl
                  refine take_ (i := 1) (N := some 91) (v := ?_) (a' := ?_) (bm 40 243) rfl rfl (by kernel_rfl) (fun _ _ _ h => h) (Or.inl ⟨by rfl, ?_⟩) hHeld ?_ ?_
                  rotate_left
                  · rintro w' ⟨s0, s1, s2, s3, s4, s5, s6, s7⟩
                    go_simp
                    with_reducible rfl
                  rotate_left
                  · simp only [P4]; rfl
                  refine pure_ (i := 2) (N := some 92) (v := ?_) (a' := ?_) (bm 40 247) rfl rfl (by kernel_rfl) (fun _ _ _ h => h) (Or.inl ⟨by rfl, ?_⟩) ?_ ?_
                  rotate_left
                  · intro w'; go_simp; with_reducible rfl
                  rotate_left
                  · simp only [P4]; rfl
                  refine take_ (i := 3) (N := some 93) (v := ?_) (a' := ?_) (bm 40 255) rfl rfl (by kernel_rfl) (fun _ _ _ h => h) (Or.inl ⟨by rfl, ?_⟩) hHeld ?_ ?_
                  rotate_left
                  · rintro w' ⟨s0, s1, s2, s3, s4, s5, s6, s7⟩
                    go_simp
                    with_reducible rfl
                  rotate_left
                  · simp only [P4]; rfl
                  refine take_ (i := 8) (N := some 98) (v := ?_) (a' := ?_) (bm 40 511) rfl rfl (by kernel_rfl) (fun _ _ _ h => h) (Or.inl ⟨by rfl, ?_⟩) hHeld ?_ ?_
                  rotate_left
                  · rintro w' ⟨s0, s1, s2, s3, s4, s5, s6, s7⟩
                    go_simp
                    with_reducible rfl
                  rotate_left
                  · simp only [P4]; rfl
                  refine pure_ (i := 9) (N := some 99) (v := ?_) (a' := ?_) (bm 40 1023) rfl rfl (by kernel_rfl) (fun _ _ _ h => h) (Or.inl ⟨by rfl, ?_⟩) ?_ ?_
                  rotate_left
                  · intro w'; go_simp; with_reducible rfl
                  rotate_left
                  · simp only [P4]; rfl
                  refine take_ (i := 10) (N := some 100) (v := ?_) (a' := ?_) (bm 40 2047) rfl rfl (by kernel_rfl) (fun _ _ _ h => h) (Or.inl ⟨by rfl, ?_⟩) hHeld ?_ ?_
                  rotate_left
                  · rintro w' ⟨s0, s1, s2, s3, s4, s5, s6, s7⟩
                    go_simp
                    with_reducible rfl
                  rotate_left
                  · simp only [P4]; rfl
                  refine pure_ (i := 11) (N := some 101) (v := ?_) (a' := ?_) (bm 40 4095) rfl rfl (by kernel_rfl) (fun _ _ _ h => h) (Or.inl ⟨by rfl, ?_⟩) ?_ ?_
                  rotate_left
                  · intro w'; go_simp; with_reducible rfl
                  rotate_left
                  · simp only [P4]; rfl
                  refine pure_ (i := 12) (N := some 102) (v := ?_) (a' := ?_) (bm 40 8191) rfl rfl (by kernel_rfl) (fun _ _ _ h => h) (Or.inl ⟨by rfl, ?_⟩) ?_ ?_
                  rotate_left
                  · intro w'; go_simp; with_reducible rfl
                  rotate_left
                  · simp only [P4]; rfl
                  refine pure_ (i := 13) (N := some 103) (v := ?_) (a' := ?_) (bm 40 16383) rfl rfl (by kernel_rfl) (fun _ _ _ h => h) (Or.inl ⟨by rfl, ?_⟩) ?_ ?_
                  rotate_left
                  · intro w'; go_simp; with_reducible rfl
                  rotate_left
                  · simp only [P4]; rfl
                  refine pure_ (i := 17) (N := some 107) (v := ?_) (a' := ?_) (bm 40 147455) rfl rfl (by kernel_rfl) (fun _ _ _ h => h) (Or.inl ⟨by rfl, ?_⟩) ?_ ?_
                  rotate_left
                  · intro w'; go_simp; with_reducible rfl
                  rotate_left
                  · simp only [P4]; rfl
                  refine pure_ (i := 18) (N := some 108) (v := ?_) (a' := ?_) (bm 40 409599) rfl rfl (by kernel_rfl) (fun _ _ _ h => h) (Or.inl ⟨by rfl, ?_⟩) ?_ ?_
                  rotate_left
                  · intro w'; go_simp; with_reducible rfl
                  rotate_left
                  · simp only [P4]; rfl
                  refine pure_ (i := 19) (N := some 109) (v := ?_) (a' := ?_) (bm 40 933887) rfl rfl (by kernel_rfl) (fun _ _ _ h => h) (Or.inl ⟨by rfl, ?_⟩) ?_ ?_
                  rotate_left
                  · intro w'; go_simp; with_reducible rfl
                  rotate_left
                  · simp only [P4]; rfl
                  refine pure_ (i := 20) (N := some 110) (v := ?_) (a' := ?_) (bm 40 1982463) rfl rfl (by kernel_rfl) (fun _ _ _ h => h) (Or.inl ⟨by rfl, ?_⟩) ?_ ?_
                  rotate_left
                  · intro w'; go_simp; with_reducible rfl
                  rotate_left
                  · simp only [P4]; rfl
                  refine take_ (i := 14) (N := some 104) (v := ?_) (a' := ?_) (bm 40 1998847) rfl rfl (by kernel_rfl) (fun _ _ _ h => h) (Or.inl ⟨by rfl, ?_⟩) hHeld ?_ ?_
                  rotate_left
                  · rintro w' ⟨s0, s1, s2, s3, s4, s5, s6, s7⟩
                    go_simp
                    with_reducible rfl
                  rotate_left
                  · simp only [P4]; rfl
                  refine pure_ (i := 15) (N := some 105) (v := ?_) (a' := ?_) (bm 40 2031615) rfl rfl (by kernel_rfl) (fun _ _ _ h => h) (Or.inl ⟨by rfl, ?_⟩) ?_ ?_
                  rotate_left
                  · intro w'; go_simp; with_reducible rfl
                  rotate_left
                  · simp only [P4]; rfl
                  refine take_ (i := 16) (N := some 106) (v := ?_) (a' := ?_) (bm 40 2097151) rfl rfl (by kernel_rfl) (fun _ _ _ h => h) (Or.inl ⟨by rfl, ?_⟩) hHeld ?_ ?_
                  rotate_left
                  · rintro w' ⟨s0, s1, s2, s3, s4, s5, s6, s7⟩
                    go_simp
                    with_reducible rfl
                  rotate_left
                  · simp only [P4]; rfl
                  refine take_ (i := 21) (N := some 111) (v := ?_) (a' := ?_) (bm 40 4194303) rfl rfl (by kernel_rfl) (fun _ _ _ h => h) (Or.inl ⟨by rfl, ?_⟩) hHeld ?_ ?_
                  rotate_left
                  · rintro w' ⟨s0, s1, s2, s3, s4, s5, s6, s7⟩
                    go_simp
                    with_reducible rfl
                  rotate_left
                  · simp only [P4]; rfl
                  refine pure_ (i := 22) (N := some 112) (v := ?_) (a' := ?_) (bm 40 8388607) rfl rfl (by kernel_rfl) (fun _ _ _ h => h) (Or.inl ⟨by rfl, ?_⟩) ?_ ?_
                  rotate_left
                  · intro w'; go_simp; with_reducible rfl
                  rotate_left
                  · simp only [P4]; rfl
                  refine take_ (i := 23) (N := some 113) (v := ?_) (a' := ?_) (bm 40 16777215) rfl rfl (by kernel_rfl) (fun _ _ _ h => h) (Or.inl ⟨by rfl, ?_⟩) hHeld ?_ ?_
                  rotate_left
                  · rintro w' ⟨s0, s1, s2, s3, s4, s5, s6, s7⟩
                    go_simp
                    with_reducible rfl
                  rotate_left
                  · simp only [P4]; rfl
                  refine pure_ (i := 24) (N := some 114) (v := ?_) (a' := ?_) (bm 40 33554431) rfl rfl (by kernel_rfl) (fun _ _ _ h => h) (Or.inl ⟨by rfl, ?_⟩) ?_ ?_
                  rotate_left
                  · intro w'; go_simp; with_reducible rfl
                  rotate_left
                  · simp only [P4]; rfl
                  refine pure_ (i := 25) (N := some 115) (v := ?_) (a' := ?_) (bm 40 67108863) rfl rfl (by kernel_rfl) (fun _ _ _ h => h) (Or.inl ⟨by rfl, ?_⟩) ?_ ?_
                  rotate_left
                  · intro w'; go_simp; with_reducible rfl
                  rotate_left
                  · simp only [P4]; rfl
                  refine pure_ (i := 26) (N := some 116) (v := ?_) (a' := ?_) (bm 40 134217727) rfl rfl (by kernel_rfl) (fun _ _ _ h => h) (Or.inl ⟨by rfl, ?_⟩) ?_ ?_
                  rotate_left
                  · intro w'; go_simp; with_reducible rfl
                  rotate_left
                  · simp only [P4]; rfl
                  refine pure_ (i := 27) (N := some 117) (v := undef) (a' := ?_) (bm 40 268435455) rfl rfl (by kernel_rfl) (fun _ _ _ h => h) (Or.inr ⟨by rfl, rfl⟩) ?_ ?_
                  rotate_left
                  · simp only [P4]; rfl
                  refine pure_ (i := 28) (N := some 118) (v := undef) (a' := ?_) (bm 40 536870911) rfl rfl (by kernel_rfl) (fun _ _ _ h => h) (Or.inr ⟨by rfl, rfl⟩) ?_ ?_
                  rotate_left
                  · simp only [P4]; rfl
                  refine pure_ (i := 29) (N := some 119) (v := undef) (a' := ?_) (bm 40 1073741823) rfl rfl (by kernel_rfl) (fun _ _ _ h => h) (Or.inr ⟨by rfl, rfl⟩) ?_ ?_
                  rotate_left
                  · simp only [P4]; rfl
                  refine pure_ (i := 30) (N := some 120) (v := undef) (a' := ?_) (bm 40 2147483647) rfl rfl (by kernel_rfl) (fun _ _ _ h => h) (Or.inr ⟨by rfl, rfl⟩) ?_ ?_
                  rotate_left
                  · simp only [P4]; rfl
                  refine pure_ (i := 31) (N := some 121) (v := undef) (a' := ?_) (bm 40 4294967295) rfl rfl (by kernel_rfl) (fun _ _ _ h => h) (Or.inr ⟨by rfl, rfl⟩) ?_ ?_
                  rotate_left
                  · simp only [P4]; rfl
                  refine pure_ (i := 32) (N := some 122) (v := undef) (a' := ?_) (bm 40 8589934591) rfl rfl (by kernel_rfl) (fun _ _ _ h => h) (Or.inr ⟨by rfl, rfl⟩) ?_ ?_
                  rotate_left
                  · simp only [P4]; rfl
                  refine pure_ (i := 33) (N := some 123) (v := undef) (a' := ?_) (bm 40 17179869183) rfl rfl (by kernel_rfl) (fun _ _ _ h => h) (Or.inr ⟨by rfl, rfl⟩) ?_ ?_
                  rotate_left
                  · simp only [P4]; rfl
                  refine pure_ (i := 34) (N := some 124) (v := undef) (a' := ?_) (bm 40 34359738367) rfl rfl (by kernel_rfl) (fun _ _ _ h => h) (Or.inr ⟨by rfl, rfl⟩) ?_ ?_
                  rotate_left
                  · simp only [P4]; rfl
                  refine pure_ (i := 35) (N := some 125) (v := undef) (a' := ?_) (bm 40 68719476735) rfl rfl (by kernel_rfl) (fun _ _ _ h => h) (Or.inr ⟨by rfl, rfl⟩) ?_ ?_
                  rotate_left
                  · simp only [P4]; rfl
                  refine pure_ (i := 36) (N := some 126) (v := undef) (a' := ?_) (bm 40 137438953471) rfl rfl (by kernel_rfl) (fun _ _ _ h => h) (Or.inr ⟨by rfl, rfl⟩) ?_ ?_
                  rotate_left
                  · simp only [P4]; rfl
                  refine pure_ (i := 37) (N := some 127) (v := undef) (a' := ?_) (bm 40 274877906943) rfl rfl (by kernel_rfl) (fun _ _ _ h => h) (Or.inr ⟨by rfl, rfl⟩) ?_ ?_
                  rotate_left
                  · simp only [P4]; rfl
                  refine pure_ (i := 38) (N := some 128) (v := undef) (a' := ?_) (bm 40 549755813887) rfl rfl (by kernel_rfl) (fun _ _ _ h => h) (Or.inr ⟨by rfl, rfl⟩) ?_ ?_
                  rotate_left
                  · simp only [P4]; rfl
                  refine pure_ (i := 39) (N := some 129) (v := ?_) (a' := ?_) (bm 40 1099511627775) rfl rfl (by kernel_rfl) (fun _ _ _ h => h) (Or.inl ⟨by rfl, ?_⟩) ?_ ?_
                  rotate_left
                  · intro w'; go_simp; with_reducible rfl
                  rotate_left
                  · simp only [P4]; rfl
                  refine done_ (by kernel_rfl) ?_
                  go_wp2
                  go_roundw
                  case rel => exact ⟨k + 1, by omega, by go_num, below_drew hBk⟩
                  case measure => simp [intOf]; omega
              · have h0' : (e0 == f0) = false := beq_no h0
                clear h0
                go_wp2
                refine start_ (n := 40) (S := fun w' => w'.cell? ⟨wo.heap.size, 0, none⟩ = some (.slice (some ed) 3 d0) ∧ w'.cell? ed = some (.int .i64 e0) ∧ w'.cell? ⟨ed.block, ed.off + 1, none⟩ = some (.int .i64 e1) ∧ w'.cell? ⟨ed.block, ed.off + 2, none⟩ = some (.int .i64 e2) ∧ w'.cell? (xd.add (k * 2)) = some (.slice (some fd) 3 dd0) ∧ w'.cell? fd = some (.int .i64 f0) ∧ w'.cell? ⟨fd.block, fd.off + 1, none⟩ = some (.int .i64 f1) ∧ w'.cell? ⟨fd.block, fd.off + 2, none⟩ = some (.int .i64 f2)) (ds := []) (bm 40 0) (by kernel_rfl) rfl rfl ⟨t0, ec0, ec1, ec2, x0, fc0, fc1, fc2⟩ (fun hHeld => ?_)
                refine pure_ (i := 0) (N := some 90) (v := ?_) (a' := ?_) (bm 40 1) rfl rfl (by kernel_rfl) (fun _ _ _ h => h) (Or.inl ⟨by rfl, ?_⟩) ?_ ?_
                rotate_left
                · intro w'; go_simp; with_reducible rfl
                rotate_left
                · simp only [P4]; rfl
                refine pure_ (i := 4) (N := some 94) (v := ?_) (a' := ?_) (bm 40 17) rfl rfl (by kernel_rfl) (fun _ _ _ h => h) (Or.inl ⟨by rfl, ?_⟩) ?_ ?_
                rotate_left
                · intro w'; go_simp; with_reducible rfl
                rotate_left
                · simp only [P4]; rfl
                refine pure_ (i := 5) (N := some 95) (v := ?_) (a' := ?_) (bm 40 49) rfl rfl (by kernel_rfl) (fun _ _ _ h => h) (Or.inl ⟨by rfl, ?_⟩) ?_ ?_
                rotate_left
                · intro w'; go_simp; with_reducible rfl
                rotate_left
                · simp only [P4]; rfl
                refine pure_ (i := 6) (N := some 96) (v := ?_) (a' := ?_) (bm 40 113) rfl rfl (by kernel_rfl) (fun _ _ _ h => h) (Or.inl ⟨by rfl, ?_⟩) ?_ ?_
                rotate_left
                · intro w'; go_simp; with_reducible rfl
                rotate_left
                · simp only [P4]; rfl
                refine pure_ (i := 7) (N := some 97) (v := ?_) (a' := ?_) (bm 40 241) rfl rfl (by kernel_rfl) (fun _ _ _ h => h) (Or.inl ⟨by rfl, ?_⟩) ?_ ?_
                rotate_left
                · intro w'; go_simp; with_reducible rfl
                rotate_left
                · simp only [P4]; rfl
                refine take_ (i := 1) (N := some 91) (v := ?_) (a' := ?_) (bm 40 243) rfl rfl (by kernel_rfl) (fun _ _ _ h => h) (Or.inl ⟨by rfl, ?_⟩) hHeld ?_ ?_
                rotate_left
                · rintro w' ⟨s0, s1, s2, s3, s4, s5, s6, s7⟩
                  go_simp
                  with_reducible rfl
                rotate_left
                · simp only [P4]; rfl
                refine pure_ (i := 2) (N := some 92) (v := ?_) (a' := ?_) (bm 40 247) rfl rfl (by kernel_rfl) (fun _ _ _ h => h) (Or.inl ⟨by rfl, ?_⟩) ?_ ?_
                rotate_left
                · intro w'; go_simp; with_reducible rfl
                rotate_left
                · simp only [P4]; rfl
                refine take_ (i := 3) (N := some 93) (v := ?_) (a' := ?_) (bm 40 255) rfl rfl (by kernel_rfl) (fun _ _ _ h => h) (Or.inl ⟨by rfl, ?_⟩) hHeld ?_ ?_
                rotate_left
                · rintro w' ⟨s0, s1, s2, s3, s4, s5, s6, s7⟩
                  go_simp
                  with_reducible rfl
                rotate_left
                · simp only [P4]; rfl
                refine take_ (i := 8) (N := some 98) (v := ?_) (a' := ?_) (bm 40 511) rfl rfl (by kernel_rfl) (fun _ _ _ h => h) (Or.inl ⟨by rfl, ?_⟩) hHeld ?_ ?_
                rotate_left
                · rintro w' ⟨s0, s1, s2, s3, s4, s5, s6, s7⟩
                  go_simp
                  with_reducible rfl
                rotate_left
                · simp only [P4]; rfl
                refine pure_ (i := 9) (N := some 99) (v := ?_) (a' := ?_) (bm 40 1023) rfl rfl (by kernel_rfl) (fun _ _ _ h => h) (Or.inl ⟨by rfl, ?_⟩) ?_ ?_
                rotate_left
                · intro w'; go_simp; with_reducible rfl
                rotate_left
                · simp only [P4]; rfl
                refine take_ (i := 10) (N := some 100) (v := ?_) (a' := ?_) (bm 40 2047) rfl rfl (by kernel_rfl) (fun _ _ _ h => h) (Or.inl ⟨by rfl, ?_⟩) hHeld ?_ ?_
                rotate_left
                · rintro w' ⟨s0, s1, s2, s3, s4, s5, s6, s7⟩
                  go_simp
                  with_reducible rfl
                rotate_left
                · simp only [P4]; rfl
                refine pure_ (i := 11) (N := some 101) (v := ?_) (a' := ?_) (bm 40 4095) rfl rfl (by kernel_rfl) (fun _ _ _ h => h) (Or.inl ⟨by rfl, ?_⟩) ?_ ?_
                rotate_left
                · intro w'; go_simp; with_reducible rfl
                rotate_left
                · simp only [P4]; rfl
                refine pure_ (i := 12) (N := some 102) (v := ?_) (a' := ?_) (bm 40 8191) rfl rfl (by kernel_rfl) (fun _ _ _ h => h) (Or.inl ⟨by rfl, ?_⟩) ?_ ?_
                rotate_left
                · intro w'; go_simp; with_reducible rfl
                rotate_left
                · simp only [P4]; rfl
                refine pure_ (i := 13) (N := some 103) (v := undef) (a' := ?_) (bm 40 16383) rfl rfl (by kernel_rfl) (fun _ _ _ h => h) (Or.inr ⟨by rfl, rfl⟩) ?_ ?_
                rotate_left
                · simp only [P4]; rfl
                refine pure_ (i := 14) (N := some 104) (v := undef) (a' := ?_) (bm 40 32767) rfl rfl (by kernel_rfl) (fun _ _ _ h => h) (Or.inr ⟨by rfl, rfl⟩) ?_ ?_
                rotate_left
                · simp only [P4]; rfl
                refine pure_ (i := 15) (N := some 105) (v := undef) (a' := ?_) (bm 40 65535) rfl rfl (by kernel_rfl) (fun _ _ _ h => h) (Or.inr ⟨by rfl, rfl⟩) ?_ ?_
                rotate_left
                · simp only [P4]; rfl
                refine pure_ (i := 16) (N := some 106) (v := undef) (a' := ?_) (bm 40 131071) rfl rfl (by kernel_rfl) (fun _ _ _ h => h) (Or.inr ⟨by rfl, rfl⟩) ?_ ?_
                rotate_left
                · simp only [P4]; rfl
                refine pure_ (i := 17) (N := some 107) (v := undef) (a' := ?_) (bm 40 262143) rfl rfl (by kernel_rfl) (fun _ _ _ h => h) (Or.inr ⟨by rfl, rfl⟩) ?_ ?_
                rotate_left
                · simp only [P4]; rfl
                refine pure_ (i := 18) (N := some 108) (v := undef) (a' := ?_) (bm 40 524287) rfl rfl (by kernel_rfl) (fun _ _ _ h => h) (Or.inr ⟨by rfl, rfl⟩) ?_ ?_
                rotate_left
                · simp only [P4]; rfl
                refine pure_ (i := 19) (N := some 109) (v := undef) (a' := ?_) (bm 40 1048575) rfl rfl (by kernel_rfl) (fun _ _ _ h => h) (Or.inr ⟨by rfl, rfl⟩) ?_ ?_
                rotate_left
                · simp only [P4]; rfl
                refine pure_ (i := 20) (N := some 110) (v := undef) (a' := ?_) (bm 40 2097151) rfl rfl (by kernel_rfl) (fun _ _ _ h => h) (Or.inr ⟨by rfl, rfl⟩) ?_ ?_
                rotate_left
                · simp only [P4]; rfl
                refine pure_ (i := 21) (N := some 111) (v := undef) (a' := ?_) (bm 40 4194303) rfl rfl (by kernel_rfl) (fun _ _ _ h => h) (Or.inr ⟨by rfl, rfl⟩) ?_ ?_
                rotate_left
                · simp only [P4]; rfl
                refine pure_ (i := 22) (N := some 112) (v := undef) (a' := ?_) (bm 40 8388607) rfl rfl (by kernel_rfl) (fun _ _ _ h => h) (Or.inr ⟨by rfl, rfl⟩) ?_ ?_
                rotate_left
                · simp only [P4]; rfl
                refine pure_ (i := 23) (N := some 113) (v := undef) (a' := ?_) (bm 40 16777215) rfl rfl (by kernel_rfl) (fun _ _ _ h => h) (Or.inr ⟨by rfl, rfl⟩) ?_ ?_
                rotate_left
                · simp only [P4]; rfl
                refine pure_ (i := 24) (N := some 114) (v := undef) (a' := ?_) (bm 40 33554431) rfl rfl (by kernel_rfl) (fun _ _ _ h => h) (Or.inr ⟨by rfl, rfl⟩) ?_ ?_
                rotate_left
                · simp only [P4]; rfl
                refine pure_ (i := 25) (N := some 115) (v := ?_) (a' := ?_) (bm 40 67108863) rfl rfl (by kernel_rfl) (fun _ _ _ h => h) (Or.inl ⟨by rfl, ?_⟩) ?_ ?_
                rotate_left
                · intro w'; go_simp; with_reducible rfl
                rotate_left
                · simp only [P4]; rfl
                refine pure_ (i := 26) (N := some 116) (v := ?_) (a' := ?_) (bm 40 134217727) rfl rfl (by kernel_rfl) (fun _ _ _ h => h) (Or.inl ⟨by rfl, ?_⟩) ?_ ?_
                rotate_left
                · intro w'; go_simp; with_reducible rfl
                rotate_left
                · simp only [P4]; rfl
                refine pure_ (i := 27) (N := some 117) (v := undef) (a' := ?_) (bm 40 268435455) rfl rfl (by kernel_rfl) (fun _ _ _ h => h) (Or.inr ⟨by rfl, rfl⟩) ?_ ?_
                rotate_left
                · simp only [P4]; rfl
                refine pure_ (i := 28) (N := some 118) (v := undef) (a' := ?_) (bm 40 536870911) rfl rfl (by kernel_rfl) (fun _ _ _ h => h) (Or.inr ⟨by rfl, rfl⟩) ?_ ?_
                rotate_left
                · simp only [P4]; rfl
                refine pure_ (i := 29) (N := some 119) (v := undef) (a' := ?_) (bm 40 1073741823) rfl rfl (by kernel_rfl) (fun _ _ _ h => h) (Or.inr ⟨by rfl, rfl⟩) ?_ ?_
                rotate_left
                · simp only [P4]; rfl
                refine pure_ (i := 30) (N := some 120) (v := undef) (a' := ?_) (bm 40 2147483647) rfl rfl (by kernel_rfl) (fun _ _ _ h => h) (Or.inr ⟨by rfl, rfl⟩) ?_ ?_
                rotate_left
                · simp only [P4]; rfl
                refine pure_ (i := 31) (N := some 121) (v := undef) (a' := ?_) (bm 40 4294967295) rfl rfl (by kernel_rfl) (fun _ _ _ h => h) (Or.inr ⟨by rfl, rfl⟩) ?_ ?_
                rotate_left
                · simp only [P4]; rfl
                refine pure_ (i := 32) (N := some 122) (v := undef) (a' := ?_) (bm 40 8589934591) rfl rfl (by kernel_rfl) (fun _ _ _ h => h) (Or.inr ⟨by rfl, rfl⟩) ?_ ?_
                rotate_left
                · simp only [P4]; rfl
                refine pure_ (i := 33) (N := some 123) (v := undef) (a' := ?_) (bm 40 17179869183) rfl rfl (by kernel_rfl) (fun _ _ _ h => h) (Or.inr ⟨by rfl, rfl⟩) ?_ ?_
                rotate_left
                · simp only [P4]; rfl
                refine pure_ (i := 34) (N := some 124) (v := undef) (a' := ?_) (bm 40 34359738367) rfl rfl (by kernel_rfl) (fun _ _ _ h => h) (Or.inr ⟨by rfl, rfl⟩) ?_ ?_
                rotate_left
                · simp only [P4]; rfl
                refine pure_ (i := 35) (N := some 125) (v := undef) (a' := ?_) (bm 40 68719476735) rfl rfl (by kernel_rfl) (fun _ _ _ h => h) (Or.inr ⟨by rfl, rfl⟩) ?_ ?_
                rotate_left
                · simp only [P4]; rfl
                refine pure_ (i := 36) (N := some 126) (v := undef) (a' := ?_) (bm 40 137438953471) rfl rfl (by kernel_rfl) (fun _ _ _ h => h) (Or.inr ⟨by rfl, rfl⟩) ?_ ?_
                rotate_left
                · simp only [P4]; rfl
                refine pure_ (i := 37) (N := some 127) (v := undef) (a' := ?_) (bm 40 274877906943) rfl rfl (by kernel_rfl) (fun _ _ _ h => h) (Or.inr ⟨by rfl, rfl⟩) ?_ ?_
                rotate_left
                · simp only [P4]; rfl
                refine pure_ (i := 38) (N := some 128) (v := undef) (a' := ?_) (bm 40 549755813887) rfl rfl (by kernel_rfl) (fun _ _ _ h => h) (Or.inr ⟨by rfl, rfl⟩) ?_ ?_
                rotate_left
                · simp only [P4]; rfl
                refine pure_ (i := 39) (N := some 129) (v := ?_) (a' := ?_) (bm 40 1099511627775) rfl rfl (by kernel_rfl) (fun _ _ _ h => h) (Or.inl ⟨by rfl, ?_⟩) ?_ ?_
                rotate_left
                · intro w'; go_simp; with_reducible rfl
                rotate_left
                · simp only [P4]; rfl
                refine done_ (by kernel_rfl) ?_
                go_wp2
                go_roundw
                case rel => exact ⟨k + 1, by omega, by go_num, below_drew hBk⟩
                case measure => simp [intOf]; omega
            · have eki : k = i := by omega
              subst eki
              go_wp2
              go_roundw
              case rel => exact ⟨k + 1, by omega, by go_num, by rw [hst.out, hs.out], below_then hB6 hB6.size hBk⟩
              case measure => simp [intOf]; omega
        · have ei : i = x.length := by omega
          subst ei
          rw [List.take_length]
          obtain ⟨UX, hUX⟩ : ∃ UX, UX = evalM inp x % 18446744073709551616 := ⟨_, rfl⟩
          rw [← hUX]
          have hu1 : (UX == IntKind.u64.wrap n) = true := by rw [hUX, hux.out]; simp
          clear hUX hux hlt hi nx
          have hBx := hB
          clear hB
          go_wp2
          obtain ⟨wx, rfl⟩ : ∃ wx : World, wx = wr := ⟨_, rfl⟩
          go_loopw [133, 19] (fun v133 v19 wr => ∃ (i : Nat), i ≤ y.length ∧ v133 = .int .i64 i ∧ v19 = .int .u64 (evalM inp (y.take i) % 18446744073709551616) ∧ Below w5.heap.size w5 wr)
            (fun v133 _ _ => y.length - (intOf v133).toNat)
          case atStart => exact ⟨0, Nat.zero_le _, rfl, rfl, hBx⟩
          case round =>
            obtain ⟨i, hi, rfl, rfl, hB⟩ := hrel
            by_cases hlt : i < y.length
            · obtain ⟨t, ht⟩ : ∃ t, y[i]? = some t := ⟨_, List.getElem?_eq_getElem hlt⟩
              have htm := List.mem_of_getElem? ht
              obtain ⟨yd, B0, d0, rfl, a0, a1, al, aC⟩ := atN_Mono hC5 ht
              have ht3 := ny.len t htm
              have hts := ny.small t htm
              have htc := ny.coef t htm
              have hs := Lib.hid (evalM_snoc (inp := inp) ht)
              replace a0 := pw_cell_below hB a0
              replace a1 := pw_cell_below hB a1
              obtain ⟨U, hU⟩ : ∃ U, U = evalM inp (y.take i) := ⟨_, rfl⟩
              rw [← hU]
              rw [← hU] at hs
              rw [ht3] at al aC
              clear ht htm hU
              go_wp2_with fail
              refine (hterm t B0 d0 _ ht3 (Kd.C_alloc (Kd.C_below aC hB) _) al (Kd.C_alloc (Kd.C_below hI3 hB) _) hts htc).mono ?_
              rintro e w6 ⟨rfl, hb6⟩
              have hst := Lib.hid (wrap_sum U (t.coef * evalE inp t.exps))
              have hB6 := below_then (hB.alloc hB.size (.cells #[.slice B0 3 d0, .int .u64 t.coef] 32)) (by simp; have := hB.size; omega) hb6
              go_wp2
              go_roundw
              case rel => exact ⟨i + 1, by omega, by go_num, by rw [hst.out, hs.out], hB6⟩
              case measure => simp [intOf]; omega
            · have ei : i = y.length := by omega
              subst ei
              rw [List.take_length]
              obtain ⟨UY, hUY⟩ : ∃ UY, UY = evalM inp y % 18446744073709551616 := ⟨_, rfl⟩
              rw [← hUY]
              have hu2 : (UY == IntKind.u64.wrap k) = true := by rw [hUY, huy.out]; simp
              clear hUY huy hlt hi ny hterm
              replace p0 := pw_cell_below hB p0
              replace p1 := pw_cell_below hB p1
              replace p2 := pw_cell_below hB p2
              replace p3 := pw_cell_below hB p3
              replace p4 := pw_cell_below hB p4
              replace q0 := pw_cell_below hB q0
              replace q1 := pw_cell_below hB q1
              replace q2 := pw_cell_below hB q2
              replace q3 := pw_cell_below hB q3
              replace q4 := pw_cell_below hB q4
              have hEp' : ∀ W, kPat.C W A1 p.kids.length p.kids → (Kd.int .i64).C W (some ⟨w.heap.size, 0, none⟩) 3 inp → Calls Try.prog 20 #[.agg #[.int .i64 p.var, .int .i64 p.op, .int .i64 p.imm, .int .i64 p.immVar, .slice A1 p.kids.length c1], .slice (some ⟨w.heap.size, 0, none⟩) 3 3] W fun e w' => e = .returned (.tuple #[.int .i64 n, .bool true]) ∧ Below W.heap.size W w' := fun W h1 h2 => hEp W h1 h2
              have hEq' : ∀ W, kPat.C W A2 q.kids.length q.kids → (Kd.int .i64).C W (some ⟨w.heap.size, 0, none⟩) 3 inp → Calls Try.prog 20 #[.agg #[.int .i64 q.var, .int .i64 q.op, .int .i64 q.imm, .int .i64 q.immVar, .slice A2 q.kids.length c2], .slice (some ⟨w.heap.size, 0, none⟩) 3 3] W fun e w' => e = .returned (.tuple #[.int .i64 k, .bool true]) ∧ Below W.heap.size W w' := fun W h1 h2 => hEq W h1 h2
              clear hEp hEq
              go_wp2_with fail
              refine (hEp' _ (Kd.C_below hP3 hB) (Kd.C_below hI3 hB)).mono ?_
              rintro e w7 ⟨rfl, hb7⟩
              have hB7 := below_then hB hB.size hb7
              replace q0 := pw_cell_below hb7 q0
              replace q1 := pw_cell_below hb7 q1
              replace q2 := pw_cell_below hb7 q2
              replace q3 := pw_cell_below hb7 q3
              replace q4 := pw_cell_below hb7 q4
              go_wp2_with fail
              refine (hEq' _ (Kd.C_below hQ3 hB7) (Kd.C_below hI3 hB7)).mono ?_
              rintro e w8 ⟨rfl, hb8⟩
              have hB8 := below_then hB7 hB7.size hb8
              have hS := same_calls x y A4 A5 c4 c5 w8 (Kd.C_below hC4 hB8) (Kd.C_below hC5 hB8) hc4 hc5
              cases hsm : samePoly x y with
              | false =>
                rw [hsm] at hS
                clear hnk hsm
                go_wp2_with fail
                refine hS.mono ?_
                rintro e w9 ⟨rfl, hb9⟩
                have hB9 := below_then hB8 hB8.size hb9
                go_wp2_with fail
                refine (examples18_calls _).mono ?_
                rintro e w10 ⟨rfl, hb10⟩
                go_wp2
                go_ret
                exact ⟨rfl, below_then (below_then hB5 hB5.size (hB9)) (Nat.le_trans hB5.size hB9.size) hb10⟩
              | true =>
                rw [hsm] at hS
                have hnk' : n = k := hnk.out (samePoly_iff.1 hsm)
                subst hnk'
                clear hnk hsm
                go_wp2_with fail
                refine hS.mono ?_
                rintro e w9 ⟨rfl, hb9⟩
                have hB9 := below_then hB8 hB8.size hb9
                go_wp2_with fail
                refine (examples18_calls _).mono ?_
                rintro e w10 ⟨rfl, hb10⟩
                go_wp2
                go_ret
                exact ⟨rfl, below_then (below_then hB5 hB5.size (hB9)) (Nat.le_trans hB5.size hB9.size) hb10⟩
end Go.Proofs.Ytmdahjmkfipdfaa
