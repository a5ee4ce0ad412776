/- walk: fullingref18.addTerm -/
import Derived.Test.YtmdahjmkfipdfaaRef0
import Derived.Test.YtmdahjmkfipdfaaPmEx
namespace Go.Proofs.Ytmdahjmkfipdfaa
set_option linter.unusedVariables false
set_option linter.unusedSimpArgs false
open Go.RowKit Go.Proofs.YtmdahjmkfipdfaaW.PrintWords Go.Proofs.YtmdahjmkfipdfaaW.PrintLast Go.Proofs.YtmdahjmkfipdfaaW.PrintMore
/-- A row that is read and whose memory lies in ok: its elements' do so too. -/
theorem F_elem {α : Type} {d : Kd α} {W : World} {ok : Nat → Prop} {A : Option Addr} {n j : Nat} {xs : List α} {x : α} (h : Kd.F d W ok A n xs) (hj : xs[j]? = some x) (hsz : 0 < d.sz) :
    ∃ ad cs, A = some ad ∧ cs.length = d.sz ∧ (∀ i u, cs[i]? = some u → W.cell? (ad.add (j * d.sz + i)) = some u) ∧ Kd.FK d W ok x cs := by
  have hC := Kd.F_now h
  have hn : 0 < n := by have h1 := (List.getElem?_eq_some_iff.1 hj).1; have h2 := hC.1; omega
  obtain ⟨ad, hA, hel⟩ := hC.2.2 hn
  obtain ⟨cs, hl, hK, hc⟩ := hel j x hj
  refine ⟨ad, cs, hA, hl, hc, fun W' hW => ?_⟩
  have hok : ok ad.block := Classical.byContradiction fun hno => by
    obtain ⟨W2, h1, h2⟩ := Kd.emptied W ad.block
    have hC2 := h W2 (fun k hk _ => h1 k (fun e => hno (e ▸ hk)))
    obtain ⟨ad2, hA2, hel2⟩ := hC2.2.2 hn
    rw [hA] at hA2
    cases hA2
    obtain ⟨cs2, hl2, _, hc2⟩ := hel2 j x hj
    obtain ⟨u, hu⟩ : ∃ u, cs2[0]? = some u := ⟨_, List.getElem?_eq_getElem (by omega)⟩
    have h3 := hc2 0 u hu
    rw [h2 _ (add_blk _ _)] at h3
    cases h3
  have hlt : ad.block < W.heap.size := by
    obtain ⟨u, hu⟩ : ∃ u, cs[0]? = some u := ⟨_, List.getElem?_eq_getElem (by omega)⟩
    have h3 := World.block_lt_of_cell? W _ (hc 0 u hu)
    rwa [add_blk] at h3
  have hb := hW _ hok hlt
  obtain ⟨ad2, hA2, hel2⟩ := (h W' hW).2.2 hn
  rw [hA] at hA2
  cases hA2
  obtain ⟨cs2, hl2, hK2, hc2⟩ := hel2 j x hj
  have e : cs2 = cs := by
    apply List.ext_getElem?
    intro i
    by_cases hi : i < d.sz
    · obtain ⟨u, hu⟩ : ∃ u, cs[i]? = some u := ⟨_, List.getElem?_eq_getElem (by omega)⟩
      obtain ⟨u2, hu2⟩ : ∃ u, cs2[i]? = some u := ⟨_, List.getElem?_eq_getElem (by omega)⟩
      have h3 := hc i u hu
      have h4 := hc2 i u2 hu2
      rw [World.cell?_of_block (w := W) (by rw [add_blk]; exact hb), h3] at h4
      rw [hu, hu2, h4]
    · rw [List.getElem?_eq_none (by omega), List.getElem?_eq_none (by omega)]
  rw [← e]
  exact hK2
theorem atF_Mono {W : World} {ok : Nat → Prop} {A : Option Addr} {n k : Nat} {xs : List Mono} {x : Mono} (h : Kd.F kMono W ok A n xs) (hx : xs[k]? = some x) :
    ∃ ad A0 c0, A = some ad ∧ W.cell? (ad.add (k * 2)) = some (.slice A0 x.exps.length c0) ∧ W.cell? ⟨(ad.add (k * 2)).block, (ad.add (k * 2)).off + 1, none⟩ = some (.int .u64 x.coef) ∧ x.exps.length ≤ c0 ∧ (Kd.int .i64).C W A0 x.exps.length x.exps ∧ Kd.F (Kd.int .i64) W ok A0 x.exps.length x.exps := by
  obtain ⟨ad, A0, c0, hA, h1, h2, h3, h4⟩ := atN_Mono (Kd.F_now h) hx
  obtain ⟨ad2, cs, hA2, hl, hc, hF⟩ := F_elem h hx (by decide)
  rw [hA] at hA2
  cases hA2
  obtain ⟨A1, c1, rfl, h5, h6⟩ := kMono_openF hF
  have h7 := hc 0 _ rfl
  have e : ad.add (k * kMono.sz + 0) = ad.add (k * 2) := rfl
  rw [e, h1] at h7
  injection h7 with h7
  injection h7 with h7 _ h8
  subst h7
  exact ⟨ad, A0, c0, hA, h1, h2, h3, h4, h6⟩
/-- A list of monomials in the making: its outer row is the call's own, the exponents' rows were there at w, in ok. -/
def OutRow (ok : Nat → Prop) (w wr : World) (v : Value) (out : List Mono) : Prop := ∃ cells, wr.ownsRow w.heap.size 32 2 v out.length cells ∧ Reps (Kd.FK kMono w ok) 2 out cells
theorem OutRow.nil (ok : Nat → Prop) (w wr : World) : OutRow ok w wr (.slice none 0 0) [] := ⟨[], own_nil _ _ _ _, Reps.none _ _⟩
theorem OutRow.below {ok : Nat → Prop} {w wr wr' : World} {v : Value} {out : List Mono} (h : OutRow ok w wr v out) (hb : Below wr.heap.size wr wr') : OutRow ok w wr' v out := by
  obtain ⟨cells, h1, h2⟩ := h
  exact ⟨cells, pw_own_below h1 hb, h2⟩
theorem own_readsK {w W' : World} {v : Value} {out : List Mono} {cells : List Value} (h1 : W'.ownsRow w.heap.size 32 2 v out.length cells) (h2 : Reps (kMono.K W') 2 out cells) : ∃ A c, v = .slice A out.length c ∧ out.length ≤ c ∧ kMono.C W' A out.length out := by
  obtain ⟨A, c, hv, hC⟩ := own_reads_row h1 h2 rfl
  refine ⟨A, c, hv, ?_, hC⟩
  subst hv
  rcases h1.2 with ⟨e, h0⟩ | ⟨g, cap, cur, e, _, _, hn, _⟩
  · injection e with _ _ e3; omega
  · injection e with _ _ e3; rw [e3]; exact hn
theorem OutRow.reads {ok : Nat → Prop} {w wr : World} {v : Value} {out : List Mono} (h : OutRow ok w wr v out) (hb : Below w.heap.size w wr) (hok : ∀ k, w.heap.size ≤ k → ok k) : ∃ A c, v = .slice A out.length c ∧ out.length ≤ c ∧ Kd.F kMono wr ok A out.length out := by
  obtain ⟨cells, h1, h2⟩ := h
  have key : ∀ W', (∀ k, ok k → k < wr.heap.size → W'.heap[k]? = wr.heap[k]?) → ∃ A c, v = .slice A out.length c ∧ out.length ≤ c ∧ kMono.C W' A out.length out := fun W' hW => by
    refine own_readsK (own_move h1 fun k hk => hW k (hok k (own_base h1 k hk)) (own_lt h1 k hk)) ⟨h2.1, fun j x hx => h2.2 j x hx W' fun k hk hlt => ?_⟩
    rw [hW k hk (Nat.lt_of_lt_of_le hlt hb.size), hb.block k hlt]
  obtain ⟨A, c, hv, hc, hC⟩ := key wr (fun _ _ _ => rfl)
  refine ⟨A, c, hv, hc, fun W' hW => ?_⟩
  obtain ⟨A', c', hv', _, hC'⟩ := key W' hW
  rw [hv] at hv'
  injection hv' with e1 _ _
  rw [e1]
  exact hC'
section
variable {ops : Array Oper} {rest : List Oper} {o : Oper} {a : Act} {Q : Exit → Act → World → Prop} {Kc : Act → World → Prop}
theorem out_append {ok : Nat → Prop} {w W : World} (hgd : o.guard = none) (s x : Operand) (ho : o.op = .call { callee := .builtin .append, args := #[s, x], argTypes := #[25, 25] })
    (v : Value) (out : List Mono) (p : Mono) (cs : List Value) (hs : a.eval s = v) (hx : a.eval x = .slice (some ⟨W.heap.size, 0, none⟩) 1 1) (hK : Kd.FK kMono w ok p cs) (HO : OutRow ok w W v out) (HB : Below w.heap.size w W) (hl : out.length ≤ 4000000000)
    (h : ∀ v1 w1, OutRow ok w w1 v1 (out ++ [p]) → Below w.heap.size w w1 → wpList Try.prog ops Q rest (a.put o.dst v1) w1) : wpList Try.prog ops Q (o :: rest) a (W.alloc (.cells cs.toArray 32)) := by
  obtain ⟨cells, h1, h2⟩ := HO
  refine print_append_cells (w0 := w) w.heap.size hgd s x 25 32 (.agg #[.slice none 0 0, .int .u64 0]) 2 32 ho Try.underlying25 infoMono rfl (by decide) (by decide) v out.length cells cs hs hx (kMono.K_len (Kd.FK_now hK)) (kMono.K_one (Kd.FK_now hK)) h1 HB HB.size (by omega) ?_
  intro v1 w1 hown hb hg _
  exact h v1 w1 ⟨cells ++ cs, by rw [List.length_append, List.length_singleton]; exact hown, h2.snoc hK (kMono.K_len (Kd.FK_now hK))⟩ hb
theorem out_append_law {E : Prop} {ok : Nat → Prop} {w W : World} (hgd : o.guard = none) (s x : Operand) (ho : o.op = .call { callee := .builtin .append, args := #[s, x], argTypes := #[25, 25] })
    (v : Value) (out : List Mono) (p : Mono) (cs : List Value) (hs : a.eval s = v) (hx : a.eval x = .slice (some ⟨W.heap.size, 0, none⟩) 1 1) (hK : Kd.FK kMono w ok p cs) (HO : OutRow ok w W v out) (HB : Below w.heap.size w W) (hl : out.length ≤ 4000000000)
    (h : ∀ v1 w1, OutRow ok w w1 v1 (out ++ [p]) → Below w.heap.size w w1 → Kc (a.put o.dst v1) w1) :
    if Region.wanted o (yielded ops a.tmps) = true then Oper.wp Try.prog o a (W.alloc (.cells cs.toArray 32)) Kc Q else E := by
  obtain ⟨cells, h1, h2⟩ := HO
  have hw : Region.wanted o (yielded ops a.tmps) = true := by simp [Region.wanted, hgd]
  have q := step_append_cells (P := Try.prog) (Q := Q) (K := Kc) (w0 := w) w.heap.size hw s x 25 32 (.agg #[.slice none 0 0, .int .u64 0]) 2 32 ho Try.underlying25 infoMono rfl (by decide) (by decide) v out.length cells cs hs hx (kMono.K_len (Kd.FK_now hK)) (kMono.K_one (Kd.FK_now hK)) h1 HB HB.size (by omega)
    (fun v1 w1 hown hb hg _ => h v1 w1 ⟨cells ++ cs, by rw [List.length_append, List.length_singleton]; exact hown, h2.snoc hK (kMono.K_len (Kd.FK_now hK))⟩ hb)
  rw [if_pos hw] at q ⊢
  exact q
end
theorem addT_lt {m x : Mono} {l : List Mono} (h : lessL x.exps m.exps = true) : addT m (x :: l) = x :: addT m l := by rw [addT, if_pos h]
set_option maxHeartbeats 4000000 in
set_option maxRecDepth 100000 in
theorem addTerm_calls (ok : Nat → Prop) (l : List Mono) (m : Mono) (A B : Option Addr) (c d : Nat) (w : World) (hok : ∀ k, w.heap.size ≤ k → ok k) (hlF : Kd.F kMono w ok A l.length l) (hlc : l.length ≤ c) (hlb : l.length ≤ 2000000000) (hmF : Kd.F (Kd.int .i64) w ok B m.exps.length m.exps) (hmd : m.exps.length ≤ d) (v : Nat) (hmv : m.exps.length = v) (hlv : ∀ x ∈ l, x.exps.length = v) :
    Calls Try.prog 101 #[.slice A l.length c, .agg #[.slice B m.exps.length d, .int .u64 m.coef]] w fun e w' => Below w.heap.size w w' ∧ ∃ A' c', (addT m l).length ≤ c' ∧ e = .returned (.slice A' (addT m l).length c') ∧ Kd.F kMono w' ok A' (addT m l).length (addT m l) := by
  have hl := Kd.F_now hlF
  have hm := Kd.F_now hmF
  have hmax := Kd.C_max hl
  replace hmv := Lib.hid hmv
  have hW := fun ob => (Below.refl w.heap.size w).alloc (Nat.le_refl _) ob
  go_enter Try.func101, Try.ntmps101
  go_wp2
  obtain ⟨wb, hwb⟩ : ∃ wb, wb = w.alloc (.cells #[.slice B m.exps.length d, .int .u64 m.coef] 32) := ⟨_, rfl⟩
  have hbk : wb.heap[w.heap.size]? = some (.cells #[.slice B m.exps.length d, .int .u64 m.coef] 32 (0, 0)) := by rw [hwb]; exact blk_new w _
  have hB0 : Below w.heap.size w wb := by rw [hwb]; exact hW _
  replace hwb := Lib.hid hwb
  go_loopw [7, 5, 6] (fun v7 v5 v6 wr => ∃ (k : Nat) (out : List Mono) (dn : Bool), k ≤ l.length ∧ v7 = .int .i64 k ∧ v6 = .bool dn ∧ OutRow ok wb wr v5 out ∧ Hid (out.length ≤ k + 1) ∧ Hid (dn = false → out.length ≤ k) ∧ Hid (addT m l = out ++ if dn = true then l.drop k else addT m (l.drop k)) ∧ Below wb.heap.size wb wr)
    (fun v7 _ _ _ => l.length - (intOf v7).toNat)
  case atStart => exact ⟨0, [], false, Nat.zero_le _, rfl, rfl, OutRow.nil _ _ _, Lib.hid (by simp), Lib.hid (fun _ => by simp), Lib.hid rfl, by rw [← hwb.out]; exact Below.refl _ _⟩
  case round =>
    obtain ⟨k, out, dn, hk, rfl, rfl, hO, hol, hof, hE, hB⟩ := hrel
    have hbx := blk_below hbk hB
    have hBw := below_then hB0 hB0.size hB
    have m0 := (blk_cell hbx 0).trans rfl
    have m1 := (blk_cell hbx 1).trans rfl
    have hlO : out.length ≤ 4000000000 := by have := hol.out; omega
    by_cases hlt : k < l.length
    · obtain ⟨x, hx⟩ : ∃ x, l[k]? = some x := ⟨_, List.getElem?_eq_getElem hlt⟩
      obtain ⟨ad, A0, c0, rfl, a0, a1, al, aC, aF⟩ := atF_Mono hlF hx
      have hKx := kMono_mkF wb ok x al (Kd.F_below aF hB0)
      have aw0 := a0
      have aw1 := a1
      replace a0 := pw_cell_below hBw a0
      replace a1 := pw_cell_below hBw a1
      have hxl : x.exps.length = m.exps.length := by rw [hlv x (List.mem_of_getElem? hx), hmv.out]
      have hdr : Hid (l.drop k = x :: l.drop (k + 1)) := Lib.hid (by
        obtain ⟨h1, e1⟩ := List.getElem?_eq_some_iff.1 hx
        rw [List.drop_eq_getElem_cons h1, e1])
      rw [hdr.out] at hE
      have aC' := Kd.C_below (Kd.C_below aC hBw) (below_drew (Below.refl _ _))
      have mC' := Kd.C_below (Kd.C_below hm hBw) (below_drew (Below.refl _ _))
      clear hx aC
      have l1 := fun W h1 h2 => less_calls x.exps m.exps A0 B c0 d W h1 h2 (by omega)
      have l2 := fun W h1 h2 => less_calls m.exps x.exps B A0 d c0 W h1 h2 (by omega)
      replace hxl := Lib.hid hxl
      cases dn with
      | true =>
        rw [if_pos rfl] at hE
        clear l1 l2 aC' mC'
        have hOd : OutRow ok wb wr.drew u5 out := hO.below (below_drew (Below.refl _ _))
        have hBd : Below wb.heap.size wb wr.drew := below_drew hB
        go_wp2
        go_region
        go_wp2_with (first
          | (at_builtin; (refine out_append (w := wb) rfl _ _ rfl u5 out x [.slice A0 x.exps.length c0, .int .u64 x.coef] rfl rfl hKx hOd hBd hlO ?_); intro v1 w9 hO9 hB9)
          | go_in)
        exact ⟨⟨k + 1, out ++ [x], true, by omega, by go_num, rfl, hO9, Lib.hid (by rw [List.length_append, List.length_singleton]; have := hol.out; omega), Lib.hid (fun h => by cases h), Lib.hid (by rw [hE.out, if_pos rfl, List.append_assoc]; rfl), hB9⟩, by simp [intOf]; omega⟩
      | false =>
        replace hof := Lib.hid (hof.out rfl)
        rw [if_neg (by simp)] at hE
        have hKm := kMono_mkF wb ok m hmd (Kd.F_below hmF hB0)
        by_cases e1 : lessL x.exps m.exps = true
        · rw [e1] at l1
          clear l2
          go_wp2
          refine start_ (n := 13) (S := fun w' => w'.cell? (ad.add (k * 2)) = some (.slice A0 x.exps.length c0) ∧ w'.cell? ⟨w.heap.size, 0, none⟩ = some (.slice B m.exps.length d)) (ds := [10]) (bm 13 0) (by kernel_rfl) rfl rfl ⟨a0, m0⟩ (fun hHeld => ?_)
          refine pure_ (i := 0) (N := some 14) (v := ?_) (a' := ?_) (bm 13 1) rfl rfl (by kernel_rfl) (fun _ _ _ h => h) (Or.inl ⟨by rfl, ?_⟩) ?_ ?_
          rotate_left
          · intro w'; go_simp; with_reducible rfl
          rotate_left
          · simp only [P4]; rfl
          refine pure_ (i := 1) (N := some 15) (v := ?_) (a' := ?_) (bm 13 3) rfl rfl (by kernel_rfl) (fun _ _ _ h => h) (Or.inl ⟨by rfl, ?_⟩) ?_ ?_
          rotate_left
          · intro w'; go_simp; with_reducible rfl
          rotate_left
          · simp only [P4]; rfl
          refine pure_ (i := 2) (N := some 16) (v := ?_) (a' := ?_) (bm 13 7) rfl rfl (by kernel_rfl) (fun _ _ _ h => h) (Or.inl ⟨by rfl, ?_⟩) ?_ ?_
          rotate_left
          · intro w'; go_simp; with_reducible rfl
          rotate_left
          · simp only [P4]; rfl
          refine pure_ (i := 3) (N := some 17) (v := ?_) (a' := ?_) (bm 13 15) rfl rfl (by kernel_rfl) (fun _ _ _ h => h) (Or.inl ⟨by rfl, ?_⟩) ?_ ?_
          rotate_left
          · intro w'; go_simp; with_reducible rfl
          rotate_left
          · simp only [P4]; rfl
          refine pure_ (i := 4) (N := some 18) (v := ?_) (a' := ?_) (bm 13 31) rfl rfl (by kernel_rfl) (fun _ _ _ h => h) (Or.inl ⟨by rfl, ?_⟩) ?_ ?_
          rotate_left
          · intro w'; go_simp; with_reducible rfl
          rotate_left
          · simp only [P4]; rfl
          refine pure_ (i := 5) (N := some 19) (v := ?_) (a' := ?_) (bm 13 63) rfl rfl (by kernel_rfl) (fun _ _ _ h => h) (Or.inl ⟨by rfl, ?_⟩) ?_ ?_
          rotate_left
          · intro w'; go_simp; with_reducible rfl
          rotate_left
          · simp only [P4]; rfl
          refine pure_ (i := 6) (N := some 20) (v := ?_) (a' := ?_) (bm 13 127) rfl rfl (by kernel_rfl) (fun _ _ _ h => h) (Or.inl ⟨by rfl, ?_⟩) ?_ ?_
          rotate_left
          · intro w'; go_simp; with_reducible rfl
          rotate_left
          · simp only [P4]; rfl
          refine pure_ (i := 8) (N := some 22) (v := ?_) (a' := ?_) (bm 13 383) rfl rfl (by kernel_rfl) (fun _ _ _ h => h) (Or.inl ⟨by rfl, ?_⟩) ?_ ?_
          rotate_left
          · intro w'; go_simp; with_reducible rfl
          rotate_left
          · simp only [P4]; rfl
          refine take_ (i := 7) (N := some 21) (v := ?_) (a' := ?_) (bm 13 511) rfl rfl (by kernel_rfl) (fun _ _ _ h => h) (Or.inl ⟨by rfl, ?_⟩) hHeld ?_ ?_
          rotate_left
          · rintro w' ⟨s0, s1⟩
            go_simp
            with_reducible rfl
          rotate_left
          · simp only [P4]; rfl
          refine take_ (i := 9) (N := some 23) (v := ?_) (a' := ?_) (bm 13 1023) rfl rfl (by kernel_rfl) (fun _ _ _ h => h) (Or.inl ⟨by rfl, ?_⟩) hHeld ?_ ?_
          rotate_left
          · rintro w' ⟨s0, s1⟩
            go_simp
            with_reducible rfl
          rotate_left
          · simp only [P4]; rfl
          refine last_ (i := 10) (N := some 24) (bm 13 2047) rfl rfl (by kernel_rfl) (by decide) (fun K hK => ?_)
          refine goes_ Try.func40 (by kernel_rfl) rfl #[.slice A0 x.exps.length c0, .slice B m.exps.length d] (by rfl) rfl rfl (by simp only [List.map_toArray, List.map_cons, List.map_nil]; rfl) ?_
          with_reducible refine (l1 _ aC' mC').mono ?_
          rintro e w3 ⟨rfl, hb3⟩
          refine ⟨_, rfl, ?_⟩
          refine hK.out _ _ ?_
          clear hK K
          refine norm_ (a' := ?_) ?_ ?_
          rotate_left
          · show Act.put _ (some 24) _ = _
            simp only [P4]
            rfl
          refine pure_ (i := 11) (N := some 25) (v := ?_) (a' := ?_) (bm 13 4095) rfl rfl (by kernel_rfl) (fun _ _ _ h => h) (Or.inl ⟨by rfl, ?_⟩) ?_ ?_
          rotate_left
          · intro w'; go_simp; with_reducible rfl
          rotate_left
          · simp only [P4]; rfl
          refine pure_ (i := 12) (N := some 26) (v := ?_) (a' := ?_) (bm 13 8191) rfl rfl (by kernel_rfl) (fun _ _ _ h => h) (Or.inl ⟨by rfl, ?_⟩) ?_ ?_
          rotate_left
          · intro w'; go_simp; with_reducible rfl
          rotate_left
          · simp only [P4]; rfl
          refine done_ (by kernel_rfl) ?_
          have hb3' : Below wr.heap.size wr w3 := (below_drew (Below.refl _ _)).trans (hb3.mono (Nat.le_refl _))
          have hO3 := hO.below hb3'
          have hB3 := below_then hB hB.size hb3'
          have a3 := pw_cell_below hb3' a0
          have x3 := pw_cell_below hb3' a1
          have m3 := pw_cell_below hb3' m0
          have y3 := pw_cell_below hb3' m1
          go_wp2_with (first
            | (at_builtin; (refine out_append (w := wb) rfl _ _ rfl u5 out x [.slice A0 x.exps.length c0, .int .u64 x.coef] rfl rfl hKx hO3 hB3 hlO ?_); intro v1 w9 hO9 hB9)
            | go_in)
          exact ⟨⟨k + 1, out ++ [x], false, by omega, by go_num, rfl, hO9, Lib.hid (by rw [List.length_append, List.length_singleton]; have := hol.out; omega), Lib.hid (fun _ => by rw [List.length_append, List.length_singleton]; have := hof.out; omega), Lib.hid (by rw [hE.out, if_neg (by simp), addT_lt e1, List.append_assoc]; rfl), hB9⟩, by simp [intOf]; omega⟩
        have e1' : lessL x.exps m.exps = false := by simpa using e1
        rw [e1'] at l1
        by_cases e2 : lessL m.exps x.exps = true
        · rw [e2] at l2
          have hA : addT m (x :: l.drop (k + 1)) = if m.coef ≠ 0 then m :: x :: l.drop (k + 1) else x :: l.drop (k + 1) := by rw [addT, if_neg (by rw [e1']; simp), if_pos e2]
          by_cases e3 : m.coef = 0
          · rw [if_neg (by simpa using e3)] at hA
            have e3' : (m.coef != 0) = false := by simpa using e3
            have hA' := Lib.hid hA
            clear hA e3
            go_wp2
            refine start_ (n := 13) (S := fun w' => w'.cell? (ad.add (k * 2)) = some (.slice A0 x.exps.length c0) ∧ w'.cell? ⟨w.heap.size, 0, none⟩ = some (.slice B m.exps.length d)) (ds := [10]) (bm 13 0) (by kernel_rfl) rfl rfl ⟨a0, m0⟩ (fun hHeld => ?_)
            refine pure_ (i := 0) (N := some 14) (v := ?_) (a' := ?_) (bm 13 1) rfl rfl (by kernel_rfl) (fun _ _ _ h => h) (Or.inl ⟨by rfl, ?_⟩) ?_ ?_
            rotate_left
            · intro w'; go_simp; with_reducible rfl
            rotate_left
            · simp only [P4]; rfl
            refine pure_ (i := 1) (N := some 15) (v := ?_) (a' := ?_) (bm 13 3) rfl rfl (by kernel_rfl) (fun _ _ _ h => h) (Or.inl ⟨by rfl, ?_⟩) ?_ ?_
            rotate_left
            · intro w'; go_simp; with_reducible rfl
            rotate_left
            · simp only [P4]; rfl
            refine pure_ (i := 2) (N := some 16) (v := ?_) (a' := ?_) (bm 13 7) rfl rfl (by kernel_rfl) (fun _ _ _ h => h) (Or.inl ⟨by rfl, ?_⟩) ?_ ?_
            rotate_left
            · intro w'; go_simp; with_reducible rfl
            rotate_left
            · simp only [P4]; rfl
            refine pure_ (i := 3) (N := some 17) (v := ?_) (a' := ?_) (bm 13 15) rfl rfl (by kernel_rfl) (fun _ _ _ h => h) (Or.inl ⟨by rfl, ?_⟩) ?_ ?_
            rotate_left
            · intro w'; go_simp; with_reducible rfl
            rotate_left
            · simp only [P4]; rfl
            refine pure_ (i := 4) (N := some 18) (v := ?_) (a' := ?_) (bm 13 31) rfl rfl (by kernel_rfl) (fun _ _ _ h => h) (Or.inl ⟨by rfl, ?_⟩) ?_ ?_
            rotate_left
            · intro w'; go_simp; with_reducible rfl
            rotate_left
            · simp only [P4]; rfl
            refine pure_ (i := 5) (N := some 19) (v := ?_) (a' := ?_) (bm 13 63) rfl rfl (by kernel_rfl) (fun _ _ _ h => h) (Or.inl ⟨by rfl, ?_⟩) ?_ ?_
            rotate_left
            · intro w'; go_simp; with_reducible rfl
            rotate_left
            · simp only [P4]; rfl
            refine pure_ (i := 6) (N := some 20) (v := ?_) (a' := ?_) (bm 13 127) rfl rfl (by kernel_rfl) (fun _ _ _ h => h) (Or.inl ⟨by rfl, ?_⟩) ?_ ?_
            rotate_left
            · intro w'; go_simp; with_reducible rfl
            rotate_left
            · simp only [P4]; rfl
            refine pure_ (i := 8) (N := some 22) (v := ?_) (a' := ?_) (bm 13 383) rfl rfl (by kernel_rfl) (fun _ _ _ h => h) (Or.inl ⟨by rfl, ?_⟩) ?_ ?_
            rotate_left
            · intro w'; go_simp; with_reducible rfl
            rotate_left
            · simp only [P4]; rfl
            refine take_ (i := 7) (N := some 21) (v := ?_) (a' := ?_) (bm 13 511) rfl rfl (by kernel_rfl) (fun _ _ _ h => h) (Or.inl ⟨by rfl, ?_⟩) hHeld ?_ ?_
            rotate_left
            · rintro w' ⟨s0, s1⟩
              go_simp
              with_reducible rfl
            rotate_left
            · simp only [P4]; rfl
            refine take_ (i := 9) (N := some 23) (v := ?_) (a' := ?_) (bm 13 1023) rfl rfl (by kernel_rfl) (fun _ _ _ h => h) (Or.inl ⟨by rfl, ?_⟩) hHeld ?_ ?_
            rotate_left
            · rintro w' ⟨s0, s1⟩
              go_simp
              with_reducible rfl
            rotate_left
            · simp only [P4]; rfl
            refine last_ (i := 10) (N := some 24) (bm 13 2047) rfl rfl (by kernel_rfl) (by decide) (fun K hK => ?_)
            refine goes_ Try.func40 (by kernel_rfl) rfl #[.slice A0 x.exps.length c0, .slice B m.exps.length d] (by rfl) rfl rfl (by simp only [List.map_toArray, List.map_cons, List.map_nil]; rfl) ?_
            with_reducible refine (l1 _ aC' mC').mono ?_
            rintro e w3 ⟨rfl, hb3⟩
            refine ⟨_, rfl, ?_⟩
            refine hK.out _ _ ?_
            clear hK K
            refine norm_ (a' := ?_) ?_ ?_
            rotate_left
            · show Act.put _ (some 24) _ = _
              simp only [P4]
              rfl
            refine pure_ (i := 11) (N := some 25) (v := ?_) (a' := ?_) (bm 13 4095) rfl rfl (by kernel_rfl) (fun _ _ _ h => h) (Or.inl ⟨by rfl, ?_⟩) ?_ ?_
            rotate_left
            · intro w'; go_simp; with_reducible rfl
            rotate_left
            · simp only [P4]; rfl
            refine pure_ (i := 12) (N := some 26) (v := ?_) (a' := ?_) (bm 13 8191) rfl rfl (by kernel_rfl) (fun _ _ _ h => h) (Or.inl ⟨by rfl, ?_⟩) ?_ ?_
            rotate_left
            · intro w'; go_simp; with_reducible rfl
            rotate_left
            · simp only [P4]; rfl
            refine done_ (by kernel_rfl) ?_
            have hb3' : Below wr.heap.size wr w3 := (below_drew (Below.refl _ _)).trans (hb3.mono (Nat.le_refl _))
            have hO3 := hO.below hb3'
            have hB3 := below_then hB hB.size hb3'
            have a3 := pw_cell_below hb3' a0
            have x3 := pw_cell_below hb3' a1
            have m3 := pw_cell_below hb3' m0
            have y3 := pw_cell_below hb3' m1
            have aC3 := Kd.C_below (Kd.C_below aC' hb3) (below_drew (Below.refl _ _))
            have mC3 := Kd.C_below (Kd.C_below mC' hb3) (below_drew (Below.refl _ _))
            go_wp2
            refine start_ (n := 9) (S := fun w' => w'.cell? (ad.add (k * 2)) = some (.slice A0 x.exps.length c0) ∧ w'.cell? ⟨w.heap.size, 0, none⟩ = some (.slice B m.exps.length d)) (ds := [7]) (bm 9 0) (by kernel_rfl) rfl rfl ⟨a3, m3⟩ (fun hHeld => ?_)
            refine pure_ (i := 0) (N := some 27) (v := ?_) (a' := ?_) (bm 9 1) rfl rfl (by kernel_rfl) (fun _ _ _ h => h) (Or.inl ⟨by rfl, ?_⟩) ?_ ?_
            rotate_left
            · intro w'; go_simp; with_reducible rfl
            rotate_left
            · simp only [P4]; rfl
            refine pure_ (i := 2) (N := some 29) (v := ?_) (a' := ?_) (bm 9 5) rfl rfl (by kernel_rfl) (fun _ _ _ h => h) (Or.inl ⟨by rfl, ?_⟩) ?_ ?_
            rotate_left
            · intro w'; go_simp; with_reducible rfl
            rotate_left
            · simp only [P4]; rfl
            refine pure_ (i := 3) (N := some 30) (v := ?_) (a' := ?_) (bm 9 13) rfl rfl (by kernel_rfl) (fun _ _ _ h => h) (Or.inl ⟨by rfl, ?_⟩) ?_ ?_
            rotate_left
            · intro w'; go_simp; with_reducible rfl
            rotate_left
            · simp only [P4]; rfl
            refine pure_ (i := 4) (N := some 31) (v := ?_) (a' := ?_) (bm 9 29) rfl rfl (by kernel_rfl) (fun _ _ _ h => h) (Or.inl ⟨by rfl, ?_⟩) ?_ ?_
            rotate_left
            · intro w'; go_simp; with_reducible rfl
            rotate_left
            · simp only [P4]; rfl
            refine pure_ (i := 5) (N := some 32) (v := ?_) (a' := ?_) (bm 9 61) rfl rfl (by kernel_rfl) (fun _ _ _ h => h) (Or.inl ⟨by rfl, ?_⟩) ?_ ?_
            rotate_left
            · intro w'; go_simp; with_reducible rfl
            rotate_left
            · simp only [P4]; rfl
            refine take_ (i := 1) (N := some 28) (v := ?_) (a' := ?_) (bm 9 63) rfl rfl (by kernel_rfl) (fun _ _ _ h => h) (Or.inl ⟨by rfl, ?_⟩) hHeld ?_ ?_
            rotate_left
            · rintro w' ⟨s0, s1⟩
              go_simp
              with_reducible rfl
            rotate_left
            · simp only [P4]; rfl
            refine take_ (i := 6) (N := some 33) (v := ?_) (a' := ?_) (bm 9 127) rfl rfl (by kernel_rfl) (fun _ _ _ h => h) (Or.inl ⟨by rfl, ?_⟩) hHeld ?_ ?_
            rotate_left
            · rintro w' ⟨s0, s1⟩
              go_simp
              with_reducible rfl
            rotate_left
            · simp only [P4]; rfl
            refine last_ (i := 7) (N := some 34) (bm 9 255) rfl rfl (by kernel_rfl) (by decide) (fun K hK => ?_)
            refine goes_ Try.func40 (by kernel_rfl) rfl #[.slice B m.exps.length d, .slice A0 x.exps.length c0] (by rfl) rfl rfl (by simp only [List.map_toArray, List.map_cons, List.map_nil]; rfl) ?_
            with_reducible refine (l2 _ mC3 aC3).mono ?_
            rintro e w4 ⟨rfl, hb4⟩
            refine ⟨_, rfl, ?_⟩
            refine hK.out _ _ ?_
            clear hK K
            refine norm_ (a' := ?_) ?_ ?_
            rotate_left
            · show Act.put _ (some 34) _ = _
              simp only [P4]
              rfl
            refine pure_ (i := 8) (N := some 35) (v := ?_) (a' := ?_) (bm 9 511) rfl rfl (by kernel_rfl) (fun _ _ _ h => h) (Or.inl ⟨by rfl, ?_⟩) ?_ ?_
            rotate_left
            · intro w'; go_simp; with_reducible rfl
            rotate_left
            · simp only [P4]; rfl
            refine done_ (by kernel_rfl) ?_
            have hb4' : Below w3.heap.size w3 w4 := (below_drew (Below.refl _ _)).trans (hb4.mono (Nat.le_refl _))
            have hO4 := hO3.below hb4'
            have hB4 := below_then hB3 hB3.size hb4'
            have a4 := pw_cell_below hb4' a3
            have x4 := pw_cell_below hb4' x3
            have m4 := pw_cell_below hb4' m3
            have y4 := pw_cell_below hb4' y3
            go_wp2_with (first
              | (at_builtin; (refine out_append (w := wb) rfl _ _ rfl u5 out x [.slice A0 x.exps.length c0, .int .u64 x.coef] rfl rfl hKx hO4 hB4 hlO ?_); intro v1 w9 hO9 hB9)
              | go_in)
            exact ⟨⟨k + 1, out ++ [x], true, by omega, by go_num, rfl, hO9, Lib.hid (by rw [List.length_append, List.length_singleton]; have := hol.out; omega), Lib.hid (fun h => by cases h), Lib.hid (by rw [hE.out, hA'.out, if_pos rfl, List.append_assoc]; rfl), hB9⟩, by simp [intOf]; omega⟩
          · rw [if_pos e3] at hA
            have e3' : (m.coef != 0) = true := by simpa using e3
            have hA' := Lib.hid hA
            clear hA
            have hl1 : (out ++ [m]).length ≤ 4000000000 := by rw [List.length_append, List.length_singleton]; have := hol.out; omega
            go_wp2
            refine start_ (n := 13) (S := fun w' => w'.cell? (ad.add (k * 2)) = some (.slice A0 x.exps.length c0) ∧ w'.cell? ⟨w.heap.size, 0, none⟩ = some (.slice B m.exps.length d)) (ds := [10]) (bm 13 0) (by kernel_rfl) rfl rfl ⟨a0, m0⟩ (fun hHeld => ?_)
            refine pure_ (i := 0) (N := some 14) (v := ?_) (a' := ?_) (bm 13 1) rfl rfl (by kernel_rfl) (fun _ _ _ h => h) (Or.inl ⟨by rfl, ?_⟩) ?_ ?_
            rotate_left
            · intro w'; go_simp; with_reducible rfl
            rotate_left
            · simp only [P4]; rfl
            refine pure_ (i := 1) (N := some 15) (v := ?_) (a' := ?_) (bm 13 3) rfl rfl (by kernel_rfl) (fun _ _ _ h => h) (Or.inl ⟨by rfl, ?_⟩) ?_ ?_
            rotate_left
            · intro w'; go_simp; with_reducible rfl
            rotate_left
            · simp only [P4]; rfl
            refine pure_ (i := 2) (N := some 16) (v := ?_) (a' := ?_) (bm 13 7) rfl rfl (by kernel_rfl) (fun _ _ _ h => h) (Or.inl ⟨by rfl, ?_⟩) ?_ ?_
            rotate_left
            · intro w'; go_simp; with_reducible rfl
            rotate_left
            · simp only [P4]; rfl
            refine pure_ (i := 3) (N := some 17) (v := ?_) (a' := ?_) (bm 13 15) rfl rfl (by kernel_rfl) (fun _ _ _ h => h) (Or.inl ⟨by rfl, ?_⟩) ?_ ?_
            rotate_left
            · intro w'; go_simp; with_reducible rfl
            rotate_left
            · simp only [P4]; rfl
            refine pure_ (i := 4) (N := some 18) (v := ?_) (a' := ?_) (bm 13 31) rfl rfl (by kernel_rfl) (fun _ _ _ h => h) (Or.inl ⟨by rfl, ?_⟩) ?_ ?_
            rotate_left
            · intro w'; go_simp; with_reducible rfl
            rotate_left
            · simp only [P4]; rfl
            refine pure_ (i := 5) (N := some 19) (v := ?_) (a' := ?_) (bm 13 63) rfl rfl (by kernel_rfl) (fun _ _ _ h => h) (Or.inl ⟨by rfl, ?_⟩) ?_ ?_
            rotate_left
            · intro w'; go_simp; with_reducible rfl
            rotate_left
            · simp only [P4]; rfl
            refine pure_ (i := 6) (N := some 20) (v := ?_) (a' := ?_) (bm 13 127) rfl rfl (by kernel_rfl) (fun _ _ _ h => h) (Or.inl ⟨by rfl, ?_⟩) ?_ ?_
            rotate_left
            · intro w'; go_simp; with_reducible rfl
            rotate_left
            · simp only [P4]; rfl
            refine pure_ (i := 8) (N := some 22) (v := ?_) (a' := ?_) (bm 13 383) rfl rfl (by kernel_rfl) (fun _ _ _ h => h) (Or.inl ⟨by rfl, ?_⟩) ?_ ?_
            rotate_left
            · intro w'; go_simp; with_reducible rfl
            rotate_left
            · simp only [P4]; rfl
            refine take_ (i := 7) (N := some 21) (v := ?_) (a' := ?_) (bm 13 511) rfl rfl (by kernel_rfl) (fun _ _ _ h => h) (Or.inl ⟨by rfl, ?_⟩) hHeld ?_ ?_
            rotate_left
            · rintro w' ⟨s0, s1⟩
              go_simp
              with_reducible rfl
            rotate_left
            · simp only [P4]; rfl
            refine take_ (i := 9) (N := some 23) (v := ?_) (a' := ?_) (bm 13 1023) rfl rfl (by kernel_rfl) (fun _ _ _ h => h) (Or.inl ⟨by rfl, ?_⟩) hHeld ?_ ?_
            rotate_left
            · rintro w' ⟨s0, s1⟩
              go_simp
              with_reducible rfl
            rotate_left
            · simp only [P4]; rfl
            refine last_ (i := 10) (N := some 24) (bm 13 2047) rfl rfl (by kernel_rfl) (by decide) (fun K hK => ?_)
            refine goes_ Try.func40 (by kernel_rfl) rfl #[.slice A0 x.exps.length c0, .slice B m.exps.length d] (by rfl) rfl rfl (by simp only [List.map_toArray, List.map_cons, List.map_nil]; rfl) ?_
            with_reducible refine (l1 _ aC' mC').mono ?_
            rintro e w3 ⟨rfl, hb3⟩
            refine ⟨_, rfl, ?_⟩
            refine hK.out _ _ ?_
            clear hK K
            refine norm_ (a' := ?_) ?_ ?_
            rotate_left
            · show Act.put _ (some 24) _ = _
              simp only [P4]
              rfl
            refine pure_ (i := 11) (N := some 25) (v := ?_) (a' := ?_) (bm 13 4095) rfl rfl (by kernel_rfl) (fun _ _ _ h => h) (Or.inl ⟨by rfl, ?_⟩) ?_ ?_
            rotate_left
            · intro w'; go_simp; with_reducible rfl
            rotate_left
            · simp only [P4]; rfl
            refine pure_ (i := 12) (N := some 26) (v := ?_) (a' := ?_) (bm 13 8191) rfl rfl (by kernel_rfl) (fun _ _ _ h => h) (Or.inl ⟨by rfl, ?_⟩) ?_ ?_
            rotate_left
            · intro w'; go_simp; with_reducible rfl
            rotate_left
            · simp only [P4]; rfl
            refine done_ (by kernel_rfl) ?_
            have hb3' : Below wr.heap.size wr w3 := (below_drew (Below.refl _ _)).trans (hb3.mono (Nat.le_refl _))
            have hO3 := hO.below hb3'
            have hB3 := below_then hB hB.size hb3'
            have a3 := pw_cell_below hb3' a0
            have x3 := pw_cell_below hb3' a1
            have m3 := pw_cell_below hb3' m0
            have y3 := pw_cell_below hb3' m1
            have aC3 := Kd.C_below (Kd.C_below aC' hb3) (below_drew (Below.refl _ _))
            have mC3 := Kd.C_below (Kd.C_below mC' hb3) (below_drew (Below.refl _ _))
            go_wp2
            refine start_ (n := 9) (S := fun w' => w'.cell? (ad.add (k * 2)) = some (.slice A0 x.exps.length c0) ∧ w'.cell? ⟨w.heap.size, 0, none⟩ = some (.slice B m.exps.length d)) (ds := [7]) (bm 9 0) (by kernel_rfl) rfl rfl ⟨a3, m3⟩ (fun hHeld => ?_)
            refine pure_ (i := 0) (N := some 27) (v := ?_) (a' := ?_) (bm 9 1) rfl rfl (by kernel_rfl) (fun _ _ _ h => h) (Or.inl ⟨by rfl, ?_⟩) ?_ ?_
            rotate_left
            · intro w'; go_simp; with_reducible rfl
            rotate_left
            · simp only [P4]; rfl
            refine pure_ (i := 2) (N := some 29) (v := ?_) (a' := ?_) (bm 9 5) rfl rfl (by kernel_rfl) (fun _ _ _ h => h) (Or.inl ⟨by rfl, ?_⟩) ?_ ?_
            rotate_left
            · intro w'; go_simp; with_reducible rfl
            rotate_left
            · simp only [P4]; rfl
            refine pure_ (i := 3) (N := some 30) (v := ?_) (a' := ?_) (bm 9 13) rfl rfl (by kernel_rfl) (fun _ _ _ h => h) (Or.inl ⟨by rfl, ?_⟩) ?_ ?_
            rotate_left
            · intro w'; go_simp; with_reducible rfl
            rotate_left
            · simp only [P4]; rfl
            refine pure_ (i := 4) (N := some 31) (v := ?_) (a' := ?_) (bm 9 29) rfl rfl (by kernel_rfl) (fun _ _ _ h => h) (Or.inl ⟨by rfl, ?_⟩) ?_ ?_
            rotate_left
            · intro w'; go_simp; with_reducible rfl
            rotate_left
            · simp only [P4]; rfl
            refine pure_ (i := 5) (N := some 32) (v := ?_) (a' := ?_) (bm 9 61) rfl rfl (by kernel_rfl) (fun _ _ _ h => h) (Or.inl ⟨by rfl, ?_⟩) ?_ ?_
            rotate_left
            · intro w'; go_simp; with_reducible rfl
            rotate_left
            · simp only [P4]; rfl
            refine take_ (i := 1) (N := some 28) (v := ?_) (a' := ?_) (bm 9 63) rfl rfl (by kernel_rfl) (fun _ _ _ h => h) (Or.inl ⟨by rfl, ?_⟩) hHeld ?_ ?_
            rotate_left
            · rintro w' ⟨s0, s1⟩
              go_simp
              with_reducible rfl
            rotate_left
            · simp only [P4]; rfl
            refine take_ (i := 6) (N := some 33) (v := ?_) (a' := ?_) (bm 9 127) rfl rfl (by kernel_rfl) (fun _ _ _ h => h) (Or.inl ⟨by rfl, ?_⟩) hHeld ?_ ?_
            rotate_left
            · rintro w' ⟨s0, s1⟩
              go_simp
              with_reducible rfl
            rotate_left
            · simp only [P4]; rfl
            refine last_ (i := 7) (N := some 34) (bm 9 255) rfl rfl (by kernel_rfl) (by decide) (fun K hK => ?_)
            refine goes_ Try.func40 (by kernel_rfl) rfl #[.slice B m.exps.length d, .slice A0 x.exps.length c0] (by rfl) rfl rfl (by simp only [List.map_toArray, List.map_cons, List.map_nil]; rfl) ?_
            with_reducible refine (l2 _ mC3 aC3).mono ?_
            rintro e w4 ⟨rfl, hb4⟩
            refine ⟨_, rfl, ?_⟩
            refine hK.out _ _ ?_
            clear hK K
            refine norm_ (a' := ?_) ?_ ?_
            rotate_left
            · show Act.put _ (some 34) _ = _
              simp only [P4]
              rfl
            refine pure_ (i := 8) (N := some 35) (v := ?_) (a' := ?_) (bm 9 511) rfl rfl (by kernel_rfl) (fun _ _ _ h => h) (Or.inl ⟨by rfl, ?_⟩) ?_ ?_
            rotate_left
            · intro w'; go_simp; with_reducible rfl
            rotate_left
            · simp only [P4]; rfl
            refine done_ (by kernel_rfl) ?_
            have hb4' : Below w3.heap.size w3 w4 := (below_drew (Below.refl _ _)).trans (hb4.mono (Nat.le_refl _))
            have hO4 := hO3.below hb4'
            have hB4 := below_then hB3 hB3.size hb4'
            have a4 := pw_cell_below hb4' a3
            have x4 := pw_cell_below hb4' x3
            have m4 := pw_cell_below hb4' m3
            have y4 := pw_cell_below hb4' y3
            go_wp2_with (first
              | (at_builtin; (refine out_append (w := wb) rfl _ _ rfl u5 out m [.slice B m.exps.length d, .int .u64 m.coef] rfl rfl hKm hO4 hB4 hlO ?_); intro v1 w8 hO8 hB8; have a8 := pw_cell_below (below_then hB0 hB0.size hB8) aw0; have x8 := pw_cell_below (below_then hB0 hB0.size hB8) aw1)
              | (at_builtin; (refine out_append (w := wb) rfl _ _ rfl v1 (out ++ [m]) x [.slice A0 x.exps.length c0, .int .u64 x.coef] rfl rfl hKx hO8 hB8 hl1 ?_); intro v2 w9 hO9 hB9)
              | go_in)
            exact ⟨⟨k + 1, out ++ [m] ++ [x], true, by omega, by go_num, rfl, hO9, Lib.hid (by rw [List.length_append, List.length_append, List.length_singleton, List.length_singleton]; have := hof.out; omega), Lib.hid (fun h => by cases h), Lib.hid (by rw [hE.out, hA'.out, if_pos rfl, List.append_assoc, List.append_assoc]; rfl), hB9⟩, by simp [intOf]; omega⟩
        have e2' : lessL m.exps x.exps = false := by simpa using e2
        rw [e2'] at l2
        have hzw : IntKind.u64.wrap (x.coef + m.coef) = (x.coef + m.coef) % 18446744073709551616 := wrapU64 _
        have hA : addT m (x :: l.drop (k + 1)) = if IntKind.u64.wrap (x.coef + m.coef) ≠ 0 then ⟨m.exps, IntKind.u64.wrap (x.coef + m.coef)⟩ :: l.drop (k + 1) else l.drop (k + 1) := by rw [addT, if_neg (by rw [e1']; simp), if_neg (by rw [e2']; simp), hzw]
        have hKz := kMono_mkF wb ok ⟨m.exps, IntKind.u64.wrap (x.coef + m.coef)⟩ hmd (Kd.F_below hmF hB0)
        clear hzw
        by_cases e3 : IntKind.u64.wrap (x.coef + m.coef) = 0
        · rw [if_neg (by simpa using e3)] at hA
          have e3' : (IntKind.u64.wrap (x.coef + m.coef) != 0) = false := by simpa using e3
          have hA' := Lib.hid hA
          clear hA e3
          go_wp2
          refine start_ (n := 13) (S := fun w' => w'.cell? (ad.add (k * 2)) = some (.slice A0 x.exps.length c0) ∧ w'.cell? ⟨w.heap.size, 0, none⟩ = some (.slice B m.exps.length d)) (ds := [10]) (bm 13 0) (by kernel_rfl) rfl rfl ⟨a0, m0⟩ (fun hHeld => ?_)
          refine pure_ (i := 0) (N := some 14) (v := ?_) (a' := ?_) (bm 13 1) rfl rfl (by kernel_rfl) (fun _ _ _ h => h) (Or.inl ⟨by rfl, ?_⟩) ?_ ?_
          rotate_left
          · intro w'; go_simp; with_reducible rfl
          rotate_left
          · simp only [P4]; rfl
          refine pure_ (i := 1) (N := some 15) (v := ?_) (a' := ?_) (bm 13 3) rfl rfl (by kernel_rfl) (fun _ _ _ h => h) (Or.inl ⟨by rfl, ?_⟩) ?_ ?_
          rotate_left
          · intro w'; go_simp; with_reducible rfl
          rotate_left
          · simp only [P4]; rfl
          refine pure_ (i := 2) (N := some 16) (v := ?_) (a' := ?_) (bm 13 7) rfl rfl (by kernel_rfl) (fun _ _ _ h => h) (Or.inl ⟨by rfl, ?_⟩) ?_ ?_
          rotate_left
          · intro w'; go_simp; with_reducible rfl
          rotate_left
          · simp only [P4]; rfl
          refine pure_ (i := 3) (N := some 17) (v := ?_) (a' := ?_) (bm 13 15) rfl rfl (by kernel_rfl) (fun _ _ _ h => h) (Or.inl ⟨by rfl, ?_⟩) ?_ ?_
          rotate_left
          · intro w'; go_simp; with_reducible rfl
          rotate_left
          · simp only [P4]; rfl
          refine pure_ (i := 4) (N := some 18) (v := ?_) (a' := ?_) (bm 13 31) rfl rfl (by kernel_rfl) (fun _ _ _ h => h) (Or.inl ⟨by rfl, ?_⟩) ?_ ?_
          rotate_left
          · intro w'; go_simp; with_reducible rfl
          rotate_left
          · simp only [P4]; rfl
          refine pure_ (i := 5) (N := some 19) (v := ?_) (a' := ?_) (bm 13 63) rfl rfl (by kernel_rfl) (fun _ _ _ h => h) (Or.inl ⟨by rfl, ?_⟩) ?_ ?_
          rotate_left
          · intro w'; go_simp; with_reducible rfl
          rotate_left
          · simp only [P4]; rfl
          refine pure_ (i := 6) (N := some 20) (v := ?_) (a' := ?_) (bm 13 127) rfl rfl (by kernel_rfl) (fun _ _ _ h => h) (Or.inl ⟨by rfl, ?_⟩) ?_ ?_
          rotate_left
          · intro w'; go_simp; with_reducible rfl
          rotate_left
          · simp only [P4]; rfl
          refine pure_ (i := 8) (N := some 22) (v := ?_) (a' := ?_) (bm 13 383) rfl rfl (by kernel_rfl) (fun _ _ _ h => h) (Or.inl ⟨by rfl, ?_⟩) ?_ ?_
          rotate_left
          · intro w'; go_simp; with_reducible rfl
          rotate_left
          · simp only [P4]; rfl
          refine take_ (i := 7) (N := some 21) (v := ?_) (a' := ?_) (bm 13 511) rfl rfl (by kernel_rfl) (fun _ _ _ h => h) (Or.inl ⟨by rfl, ?_⟩) hHeld ?_ ?_
          rotate_left
          · rintro w' ⟨s0, s1⟩
            go_simp
            with_reducible rfl
          rotate_left
          · simp only [P4]; rfl
          refine take_ (i := 9) (N := some 23) (v := ?_) (a' := ?_) (bm 13 1023) rfl rfl (by kernel_rfl) (fun _ _ _ h => h) (Or.inl ⟨by rfl, ?_⟩) hHeld ?_ ?_
          rotate_left
          · rintro w' ⟨s0, s1⟩
            go_simp
            with_reducible rfl
          rotate_left
          · simp only [P4]; rfl
          refine last_ (i := 10) (N := some 24) (bm 13 2047) rfl rfl (by kernel_rfl) (by decide) (fun K hK => ?_)
          refine goes_ Try.func40 (by kernel_rfl) rfl #[.slice A0 x.exps.length c0, .slice B m.exps.length d] (by rfl) rfl rfl (by simp only [List.map_toArray, List.map_cons, List.map_nil]; rfl) ?_
          with_reducible refine (l1 _ aC' mC').mono ?_
          rintro e w3 ⟨rfl, hb3⟩
          refine ⟨_, rfl, ?_⟩
          refine hK.out _ _ ?_
          clear hK K
          refine norm_ (a' := ?_) ?_ ?_
          rotate_left
          · show Act.put _ (some 24) _ = _
            simp only [P4]
            rfl
          refine pure_ (i := 11) (N := some 25) (v := ?_) (a' := ?_) (bm 13 4095) rfl rfl (by kernel_rfl) (fun _ _ _ h => h) (Or.inl ⟨by rfl, ?_⟩) ?_ ?_
          rotate_left
          · intro w'; go_simp; with_reducible rfl
          rotate_left
          · simp only [P4]; rfl
          refine pure_ (i := 12) (N := some 26) (v := ?_) (a' := ?_) (bm 13 8191) rfl rfl (by kernel_rfl) (fun _ _ _ h => h) (Or.inl ⟨by rfl, ?_⟩) ?_ ?_
          rotate_left
          · intro w'; go_simp; with_reducible rfl
          rotate_left
          · simp only [P4]; rfl
          refine done_ (by kernel_rfl) ?_
          have hb3' : Below wr.heap.size wr w3 := (below_drew (Below.refl _ _)).trans (hb3.mono (Nat.le_refl _))
          have hO3 := hO.below hb3'
          have hB3 := below_then hB hB.size hb3'
          have a3 := pw_cell_below hb3' a0
          have x3 := pw_cell_below hb3' a1
          have m3 := pw_cell_below hb3' m0
          have y3 := pw_cell_below hb3' m1
          have aC3 := Kd.C_below (Kd.C_below aC' hb3) (below_drew (Below.refl _ _))
          have mC3 := Kd.C_below (Kd.C_below mC' hb3) (below_drew (Below.refl _ _))
          go_wp2
          refine start_ (n := 9) (S := fun w' => w'.cell? (ad.add (k * 2)) = some (.slice A0 x.exps.length c0) ∧ w'.cell? ⟨w.heap.size, 0, none⟩ = some (.slice B m.exps.length d)) (ds := [7]) (bm 9 0) (by kernel_rfl) rfl rfl ⟨a3, m3⟩ (fun hHeld => ?_)
          refine pure_ (i := 0) (N := some 27) (v := ?_) (a' := ?_) (bm 9 1) rfl rfl (by kernel_rfl) (fun _ _ _ h => h) (Or.inl ⟨by rfl, ?_⟩) ?_ ?_
          rotate_left
          · intro w'; go_simp; with_reducible rfl
          rotate_left
          · simp only [P4]; rfl
          refine pure_ (i := 2) (N := some 29) (v := ?_) (a' := ?_) (bm 9 5) rfl rfl (by kernel_rfl) (fun _ _ _ h => h) (Or.inl ⟨by rfl, ?_⟩) ?_ ?_
          rotate_left
          · intro w'; go_simp; with_reducible rfl
          rotate_left
          · simp only [P4]; rfl
          refine pure_ (i := 3) (N := some 30) (v := ?_) (a' := ?_) (bm 9 13) rfl rfl (by kernel_rfl) (fun _ _ _ h => h) (Or.inl ⟨by rfl, ?_⟩) ?_ ?_
          rotate_left
          · intro w'; go_simp; with_reducible rfl
          rotate_left
          · simp only [P4]; rfl
          refine pure_ (i := 4) (N := some 31) (v := ?_) (a' := ?_) (bm 9 29) rfl rfl (by kernel_rfl) (fun _ _ _ h => h) (Or.inl ⟨by rfl, ?_⟩) ?_ ?_
          rotate_left
          · intro w'; go_simp; with_reducible rfl
          rotate_left
          · simp only [P4]; rfl
          refine pure_ (i := 5) (N := some 32) (v := ?_) (a' := ?_) (bm 9 61) rfl rfl (by kernel_rfl) (fun _ _ _ h => h) (Or.inl ⟨by rfl, ?_⟩) ?_ ?_
          rotate_left
          · intro w'; go_simp; with_reducible rfl
          rotate_left
          · simp only [P4]; rfl
          refine take_ (i := 1) (N := some 28) (v := ?_) (a' := ?_) (bm 9 63) rfl rfl (by kernel_rfl) (fun _ _ _ h => h) (Or.inl ⟨by rfl, ?_⟩) hHeld ?_ ?_
          rotate_left
          · rintro w' ⟨s0, s1⟩
            go_simp
            with_reducible rfl
          rotate_left
          · simp only [P4]; rfl
          refine take_ (i := 6) (N := some 33) (v := ?_) (a' := ?_) (bm 9 127) rfl rfl (by kernel_rfl) (fun _ _ _ h => h) (Or.inl ⟨by rfl, ?_⟩) hHeld ?_ ?_
          rotate_left
          · rintro w' ⟨s0, s1⟩
            go_simp
            with_reducible rfl
          rotate_left
          · simp only [P4]; rfl
          refine last_ (i := 7) (N := some 34) (bm 9 255) rfl rfl (by kernel_rfl) (by decide) (fun K hK => ?_)
          refine goes_ Try.func40 (by kernel_rfl) rfl #[.slice B m.exps.length d, .slice A0 x.exps.length c0] (by rfl) rfl rfl (by simp only [List.map_toArray, List.map_cons, List.map_nil]; rfl) ?_
          with_reducible refine (l2 _ mC3 aC3).mono ?_
          rintro e w4 ⟨rfl, hb4⟩
          refine ⟨_, rfl, ?_⟩
          refine hK.out _ _ ?_
          clear hK K
          refine norm_ (a' := ?_) ?_ ?_
          rotate_left
          · show Act.put _ (some 34) _ = _
            simp only [P4]
            rfl
          refine pure_ (i := 8) (N := some 35) (v := ?_) (a' := ?_) (bm 9 511) rfl rfl (by kernel_rfl) (fun _ _ _ h => h) (Or.inl ⟨by rfl, ?_⟩) ?_ ?_
          rotate_left
          · intro w'; go_simp; with_reducible rfl
          rotate_left
          · simp only [P4]; rfl
          refine done_ (by kernel_rfl) ?_
          have hb4' : Below w3.heap.size w3 w4 := (below_drew (Below.refl _ _)).trans (hb4.mono (Nat.le_refl _))
          have hO4 := hO3.below hb4'
          have hB4 := below_then hB3 hB3.size hb4'
          have a4 := pw_cell_below hb4' a3
          have x4 := pw_cell_below hb4' x3
          have m4 := pw_cell_below hb4' m3
          have y4 := pw_cell_below hb4' y3
          go_wp2
          go_region
          go_wp2
          exact ⟨⟨k + 1, out, true, by omega, by go_num, rfl, hO4.below (below_drew (Below.refl _ _)), Lib.hid (by have := hof.out; omega), Lib.hid (fun h => by cases h), Lib.hid (by rw [hE.out, hA'.out, if_pos rfl]), below_drew hB4⟩, by simp [intOf]; omega⟩
        · rw [if_pos e3] at hA
          have e3' : (IntKind.u64.wrap (x.coef + m.coef) != 0) = true := by simpa using e3
          have hA' := Lib.hid hA
          clear hA
          go_wp2
          refine start_ (n := 13) (S := fun w' => w'.cell? (ad.add (k * 2)) = some (.slice A0 x.exps.length c0) ∧ w'.cell? ⟨w.heap.size, 0, none⟩ = some (.slice B m.exps.length d)) (ds := [10]) (bm 13 0) (by kernel_rfl) rfl rfl ⟨a0, m0⟩ (fun hHeld => ?_)
          refine pure_ (i := 0) (N := some 14) (v := ?_) (a' := ?_) (bm 13 1) rfl rfl (by kernel_rfl) (fun _ _ _ h => h) (Or.inl ⟨by rfl, ?_⟩) ?_ ?_
          rotate_left
          · intro w'; go_simp; with_reducible rfl
          rotate_left
          · simp only [P4]; rfl
          refine pure_ (i := 1) (N := some 15) (v := ?_) (a' := ?_) (bm 13 3) rfl rfl (by kernel_rfl) (fun _ _ _ h => h) (Or.inl ⟨by rfl, ?_⟩) ?_ ?_
          rotate_left
          · intro w'; go_simp; with_reducible rfl
          rotate_left
          · simp only [P4]; rfl
          refine pure_ (i := 2) (N := some 16) (v := ?_) (a' := ?_) (bm 13 7) rfl rfl (by kernel_rfl) (fun _ _ _ h => h) (Or.inl ⟨by rfl, ?_⟩) ?_ ?_
          rotate_left
          · intro w'; go_simp; with_reducible rfl
          rotate_left
          · simp only [P4]; rfl
          refine pure_ (i := 3) (N := some 17) (v := ?_) (a' := ?_) (bm 13 15) rfl rfl (by kernel_rfl) (fun _ _ _ h => h) (Or.inl ⟨by rfl, ?_⟩) ?_ ?_
          rotate_left
          · intro w'; go_simp; with_reducible rfl
          rotate_left
          · simp only [P4]; rfl
          refine pure_ (i := 4) (N := some 18) (v := ?_) (a' := ?_) (bm 13 31) rfl rfl (by kernel_rfl) (fun _ _ _ h => h) (Or.inl ⟨by rfl, ?_⟩) ?_ ?_
          rotate_left
          · intro w'; go_simp; with_reducible rfl
          rotate_left
          · simp only [P4]; rfl
          refine pure_ (i := 5) (N := some 19) (v := ?_) (a' := ?_) (bm 13 63) rfl rfl (by kernel_rfl) (fun _ _ _ h => h) (Or.inl ⟨by rfl, ?_⟩) ?_ ?_
          rotate_left
          · intro w'; go_simp; with_reducible rfl
          rotate_left
          · simp only [P4]; rfl
          refine pure_ (i := 6) (N := some 20) (v := ?_) (a' := ?_) (bm 13 127) rfl rfl (by kernel_rfl) (fun _ _ _ h => h) (Or.inl ⟨by rfl, ?_⟩) ?_ ?_
          rotate_left
          · intro w'; go_simp; with_reducible rfl
          rotate_left
          · simp only [P4]; rfl
          refine pure_ (i := 8) (N := some 22) (v := ?_) (a' := ?_) (bm 13 383) rfl rfl (by kernel_rfl) (fun _ _ _ h => h) (Or.inl ⟨by rfl, ?_⟩) ?_ ?_
          rotate_left
          · intro w'; go_simp; with_reducible rfl
          rotate_left
          · simp only [P4]; rfl
          refine take_ (i := 7) (N := some 21) (v := ?_) (a' := ?_) (bm 13 511) rfl rfl (by kernel_rfl) (fun _ _ _ h => h) (Or.inl ⟨by rfl, ?_⟩) hHeld ?_ ?_
          rotate_left
          · rintro w' ⟨s0, s1⟩
            go_simp
            with_reducible rfl
          rotate_left
          · simp only [P4]; rfl
          refine take_ (i := 9) (N := some 23) (v := ?_) (a' := ?_) (bm 13 1023) rfl rfl (by kernel_rfl) (fun _ _ _ h => h) (Or.inl ⟨by rfl, ?_⟩) hHeld ?_ ?_
          rotate_left
          · rintro w' ⟨s0, s1⟩
            go_simp
            with_reducible rfl
          rotate_left
          · simp only [P4]; rfl
          refine last_ (i := 10) (N := some 24) (bm 13 2047) rfl rfl (by kernel_rfl) (by decide) (fun K hK => ?_)
          refine goes_ Try.func40 (by kernel_rfl) rfl #[.slice A0 x.exps.length c0, .slice B m.exps.length d] (by rfl) rfl rfl (by simp only [List.map_toArray, List.map_cons, List.map_nil]; rfl) ?_
          with_reducible refine (l1 _ aC' mC').mono ?_
          rintro e w3 ⟨rfl, hb3⟩
          refine ⟨_, rfl, ?_⟩
          refine hK.out _ _ ?_
          clear hK K
          refine norm_ (a' := ?_) ?_ ?_
          rotate_left
          · show Act.put _ (some 24) _ = _
            simp only [P4]
            rfl
          refine pure_ (i := 11) (N := some 25) (v := ?_) (a' := ?_) (bm 13 4095) rfl rfl (by kernel_rfl) (fun _ _ _ h => h) (Or.inl ⟨by rfl, ?_⟩) ?_ ?_
          rotate_left
          · intro w'; go_simp; with_reducible rfl
          rotate_left
          · simp only [P4]; rfl
          refine pure_ (i := 12) (N := some 26) (v := ?_) (a' := ?_) (bm 13 8191) rfl rfl (by kernel_rfl) (fun _ _ _ h => h) (Or.inl ⟨by rfl, ?_⟩) ?_ ?_
          rotate_left
          · intro w'; go_simp; with_reducible rfl
          rotate_left
          · simp only [P4]; rfl
          refine done_ (by kernel_rfl) ?_
          have hb3' : Below wr.heap.size wr w3 := (below_drew (Below.refl _ _)).trans (hb3.mono (Nat.le_refl _))
          have hO3 := hO.below hb3'
          have hB3 := below_then hB hB.size hb3'
          have a3 := pw_cell_below hb3' a0
          have x3 := pw_cell_below hb3' a1
          have m3 := pw_cell_below hb3' m0
          have y3 := pw_cell_below hb3' m1
          have aC3 := Kd.C_below (Kd.C_below aC' hb3) (below_drew (Below.refl _ _))
          have mC3 := Kd.C_below (Kd.C_below mC' hb3) (below_drew (Below.refl _ _))
          go_wp2
          refine start_ (n := 9) (S := fun w' => w'.cell? (ad.add (k * 2)) = some (.slice A0 x.exps.length c0) ∧ w'.cell? ⟨w.heap.size, 0, none⟩ = some (.slice B m.exps.length d)) (ds := [7]) (bm 9 0) (by kernel_rfl) rfl rfl ⟨a3, m3⟩ (fun hHeld => ?_)
          refine pure_ (i := 0) (N := some 27) (v := ?_) (a' := ?_) (bm 9 1) rfl rfl (by kernel_rfl) (fun _ _ _ h => h) (Or.inl ⟨by rfl, ?_⟩) ?_ ?_
          rotate_left
          · intro w'; go_simp; with_reducible rfl
          rotate_left
          · simp only [P4]; rfl
          refine pure_ (i := 2) (N := some 29) (v := ?_) (a' := ?_) (bm 9 5) rfl rfl (by kernel_rfl) (fun _ _ _ h => h) (Or.inl ⟨by rfl, ?_⟩) ?_ ?_
          rotate_left
          · intro w'; go_simp; with_reducible rfl
          rotate_left
          · simp only [P4]; rfl
          refine pure_ (i := 3) (N := some 30) (v := ?_) (a' := ?_) (bm 9 13) rfl rfl (by kernel_rfl) (fun _ _ _ h => h) (Or.inl ⟨by rfl, ?_⟩) ?_ ?_
          rotate_left
          · intro w'; go_simp; with_reducible rfl
          rotate_left
          · simp only [P4]; rfl
          refine pure_ (i := 4) (N := some 31) (v := ?_) (a' := ?_) (bm 9 29) rfl rfl (by kernel_rfl) (fun _ _ _ h => h) (Or.inl ⟨by rfl, ?_⟩) ?_ ?_
          rotate_left
          · intro w'; go_simp; with_reducible rfl
          rotate_left
          · simp only [P4]; rfl
          refine pure_ (i := 5) (N := some 32) (v := ?_) (a' := ?_) (bm 9 61) rfl rfl (by kernel_rfl) (fun _ _ _ h => h) (Or.inl ⟨by rfl, ?_⟩) ?_ ?_
          rotate_left
          · intro w'; go_simp; with_reducible rfl
          rotate_left
          · simp only [P4]; rfl
          refine take_ (i := 1) (N := some 28) (v := ?_) (a' := ?_) (bm 9 63) rfl rfl (by kernel_rfl) (fun _ _ _ h => h) (Or.inl ⟨by rfl, ?_⟩) hHeld ?_ ?_
          rotate_left
          · rintro w' ⟨s0, s1⟩
            go_simp
            with_reducible rfl
          rotate_left
          · simp only [P4]; rfl
          refine take_ (i := 6) (N := some 33) (v := ?_) (a' := ?_) (bm 9 127) rfl rfl (by kernel_rfl) (fun _ _ _ h => h) (Or.inl ⟨by rfl, ?_⟩) hHeld ?_ ?_
          rotate_left
          · rintro w' ⟨s0, s1⟩
            go_simp
            with_reducible rfl
          rotate_left
          · simp only [P4]; rfl
          refine last_ (i := 7) (N := some 34) (bm 9 255) rfl rfl (by kernel_rfl) (by decide) (fun K hK => ?_)
          refine goes_ Try.func40 (by kernel_rfl) rfl #[.slice B m.exps.length d, .slice A0 x.exps.length c0] (by rfl) rfl rfl (by simp only [List.map_toArray, List.map_cons, List.map_nil]; rfl) ?_
          with_reducible refine (l2 _ mC3 aC3).mono ?_
          rintro e w4 ⟨rfl, hb4⟩
          refine ⟨_, rfl, ?_⟩
          refine hK.out _ _ ?_
          clear hK K
          refine norm_ (a' := ?_) ?_ ?_
          rotate_left
          · show Act.put _ (some 34) _ = _
            simp only [P4]
            rfl
          refine pure_ (i := 8) (N := some 35) (v := ?_) (a' := ?_) (bm 9 511) rfl rfl (by kernel_rfl) (fun _ _ _ h => h) (Or.inl ⟨by rfl, ?_⟩) ?_ ?_
          rotate_left
          · intro w'; go_simp; with_reducible rfl
          rotate_left
          · simp only [P4]; rfl
          refine done_ (by kernel_rfl) ?_
          have hb4' : Below w3.heap.size w3 w4 := (below_drew (Below.refl _ _)).trans (hb4.mono (Nat.le_refl _))
          have hO4 := hO3.below hb4'
          have hB4 := below_then hB3 hB3.size hb4'
          have a4 := pw_cell_below hb4' a3
          have x4 := pw_cell_below hb4' x3
          have m4 := pw_cell_below hb4' m3
          have y4 := pw_cell_below hb4' y3
          have hO5 := hO4.below (below_drew (below_drew (Below.refl w4.heap.size w4)))
          have hB5 := below_drew (below_drew hB4)
          go_wp2
          go_region
          go_wp2
          go_region_law (refine out_append_law (w := wb) rfl _ _ rfl u5 out ⟨m.exps, IntKind.u64.wrap (x.coef + m.coef)⟩ [.slice B m.exps.length d, .int .u64 (IntKind.u64.wrap (x.coef + m.coef))] rfl rfl hKz hO5 hB5 hlO ?_; intro v1 w9 hO9 hB9)
          all_goals
            go_wp2
            exact ⟨⟨k + 1, out ++ [⟨m.exps, IntKind.u64.wrap (x.coef + m.coef)⟩], true, by omega, by go_num, rfl, hO9, Lib.hid (by rw [List.length_append, List.length_singleton]; have := hof.out; omega), Lib.hid (fun h => by cases h), Lib.hid (by rw [hE.out, hA'.out, if_pos rfl, List.append_assoc]; rfl), hB9⟩, by simp [intOf]; omega⟩
    · have ek : k = l.length := by omega
      subst ek
      rw [List.drop_length] at hE
      clear hlt
      cases dn with
      | true =>
        rw [if_pos rfl, List.append_nil] at hE
        obtain ⟨A1, c1, hv1, hc1, hC1⟩ := hO.reads hB (fun k hk => hok k (Nat.le_trans hB0.size hk))
        have hv1' := Lib.hid hv1
        clear hv1
        go_wp2
        go_ret
        rw [hE.out, hv1'.out]
        exact ⟨hBw, A1, c1, hc1, rfl, hC1⟩
      | false =>
        replace hof := Lib.hid (hof.out rfl)
        rw [if_neg (by simp)] at hE
        by_cases e3 : m.coef = 0
        · have e3' : (m.coef != 0) = false := by simpa using e3
          have hE' := Lib.hid (show addT m l = out by rw [hE.out, addT, if_neg (by simpa using e3), List.append_nil])
          obtain ⟨A1, c1, hv1, hc1, hC1⟩ := hO.reads hB (fun k hk => hok k (Nat.le_trans hB0.size hk))
          have hv1' := Lib.hid hv1
          clear hv1 e3
          go_wp2
          go_ret
          rw [hE'.out, hv1'.out]
          exact ⟨hBw, A1, c1, hc1, rfl, hC1⟩
        · have e3' : (m.coef != 0) = true := by simpa using e3
          have hE' := Lib.hid (show addT m l = out ++ [m] by rw [hE.out, addT, if_pos e3])
          have hKm := kMono_mkF wb ok m hmd (Kd.F_below hmF hB0)
          go_wp2_with (first
            | (at_builtin; (refine out_append (w := wb) rfl _ _ rfl u5 out m [.slice B m.exps.length d, .int .u64 m.coef] rfl rfl hKm hO hB hlO ?_); intro v1 w9 hO9 hB9)
            | go_in)
          go_ret
          rw [hE'.out]
          obtain ⟨A1, c1, hv1, hc1, hC1⟩ := hO9.reads hB9 (fun k hk => hok k (Nat.le_trans hB0.size hk))
          rw [hv1]
          exact ⟨below_then hB0 hB0.size hB9, A1, c1, hc1, rfl, hC1⟩
end Go.Proofs.Ytmdahjmkfipdfaa
