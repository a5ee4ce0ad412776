/- walk: fullingref18.product -/
import Derived.Test.YtmdahjmkfipdfaaRef4
namespace Go.Proofs.Ytmdahjmkfipdfaa
set_option linter.unusedVariables false
set_option linter.unusedSimpArgs false
open Go.RowKit Go.Proofs.YtmdahjmkfipdfaaW.PrintWords Go.Proofs.YtmdahjmkfipdfaaW.PrintLast Go.Proofs.YtmdahjmkfipdfaaW.PrintMore
/-- The product with the first i monomials of a. -/
def pl (a b : List Mono) (i : Nat) : List Mono := (a.take i).foldl (fun acc x => prodRow x b acc) []
theorem pl_succ {a b : List Mono} {i : Nat} {x : Mono} (h : a[i]? = some x) : pl a b (i + 1) = prodRow x b (pl a b i) := by unfold pl; rw [take_succ_of h, List.foldl_append]; rfl
theorem pl_all (a b : List Mono) : pl a b a.length = prodL a b := by unfold pl prodL; rw [List.take_length]
theorem pl_length (b : List Mono) : ∀ (a acc : List Mono), (a.foldl (fun acc x => prodRow x b acc) acc).length ≤ acc.length + a.length * b.length
  | [], acc => by simp
  | x :: a, acc => by
    have h1 := pl_length b a (prodRow x b acc)
    have h2 := prodRow_length (x := x) b acc
    rw [List.foldl_cons, List.length_cons, Nat.add_mul]
    omega
theorem pl_lens {v : Nat} {b : List Mono} (hb : ∀ m ∈ b, m.exps.length = v) : ∀ {a acc : List Mono}, (∀ m ∈ a, m.exps.length = v) → (∀ m ∈ acc, m.exps.length = v) → ∀ m ∈ a.foldl (fun acc x => prodRow x b acc) acc, m.exps.length = v
  | [], acc, _, h => h
  | x :: a, acc, ha, h => by
    rw [List.foldl_cons]
    exact pl_lens hb (fun m hm => ha m (by simp [hm])) (prodRow_len (ha x (by simp)) h hb)
theorem prodRow_succ {x y : Mono} {b acc : List Mono} {k : Nat} (h : b[k]? = some y) : prodRow x (b.take (k + 1)) acc = addT (mulMM x y) (prodRow x (b.take k) acc) := by
  unfold prodRow; rw [take_succ_of h, List.foldl_append]; rfl
def Small (x : List Int) : Prop := ∀ e ∈ x, 0 ≤ e ∧ e ≤ 1000
theorem zip_take {x y : List Int} {j : Nat} {d e : Int} (hx : x[j]? = some d) (hy : y[j]? = some e) : (List.zipWith (· + ·) x y).take (j + 1) = (List.zipWith (· + ·) x y).take j ++ [d + e] := by
  refine take_succ_of ?_
  rw [List.getElem?_zipWith, hx, hy]
set_option maxHeartbeats 1000000 in
set_option maxRecDepth 100000 in
theorem product_calls (ok : Nat → Prop) (a b : List Mono) (A B : Option Addr) (c d : Nat) (w : World) (hok : ∀ k, w.heap.size ≤ k → ok k) (ha : kMono.C w A a.length a) (hac : a.length ≤ c) (hb : kMono.C w B b.length b) (hbd : b.length ≤ d) (hab : a.length * b.length ≤ 100000000) (v : Nat) (hv6 : v ≤ 6)
    (hav : ∀ x ∈ a, x.exps.length = v) (hbv : ∀ x ∈ b, x.exps.length = v) (has : ∀ x ∈ a, Small x.exps) (hbs : ∀ x ∈ b, Small x.exps) :
    Calls Try.prog 76 #[.slice A a.length c, .slice B b.length d] w fun e w' => Below w.heap.size w w' ∧ ∃ A' c', (prodL a b).length ≤ c' ∧ e = .returned (.slice A' (prodL a b).length c') ∧ Kd.F kMono w' ok A' (prodL a b).length (prodL a b) := by
  have hmaxa := Kd.C_max ha
  have hmaxb := Kd.C_max hb
  go_enter Try.func76, Try.ntmps76
  go_wp2
  go_loopw [6, 5] (fun v6 v5 wr => ∃ (i : Nat) (A' : Option Addr) (c' : Nat), i ≤ a.length ∧ v6 = .int .i64 i ∧ v5 = .slice A' (pl a b i).length c' ∧ (pl a b i).length ≤ c' ∧ Kd.F kMono wr ok A' (pl a b i).length (pl a b i) ∧ Below w.heap.size w wr)
    (fun v6 _ _ => a.length - (intOf v6).toNat)
  case atStart => exact ⟨0, none, 0, Nat.zero_le _, rfl, rfl, Nat.le_refl _, Kd.F_nil _ _ _, Below.refl _ _⟩
  case round =>
    obtain ⟨i, A', c', hi, rfl, rfl, hc', hC', hB⟩ := hrel
    by_cases hlt : i < a.length
    · obtain ⟨x, hx⟩ : ∃ x, a[i]? = some x := ⟨_, List.getElem?_eq_getElem hlt⟩
      have hxm := List.mem_of_getElem? hx
      obtain ⟨ad, A0, c0, rfl, a0, a1, al, aC⟩ := atN_Mono ha hx
      have hs := Lib.hid (pl_succ (b := b) hx)
      have hxl := hav x hxm
      have hxs := has x hxm
      obtain ⟨acc, hacc⟩ : ∃ acc, acc = pl a b i := ⟨_, rfl⟩
      have hal : acc.length ≤ i * b.length := by
        have := pl_length b (a.take i) []
        rw [hacc]
        unfold pl
        rw [List.length_take, show min i a.length = i by omega] at this
        simpa using this
      have hacl : ∀ m ∈ acc, m.exps.length = v := by
        rw [hacc]
        exact pl_lens hbv (fun m hm => hav m (List.mem_of_mem_take hm)) (fun m hm => by cases hm)
      have hib : i * b.length + b.length ≤ 100000000 := by
        have h1 : (i + 1) * b.length ≤ a.length * b.length := Nat.mul_le_mul_right _ hlt
        rw [Nat.add_mul] at h1
        omega
      generalize i * b.length = ib at hal hib
      rw [← hacc] at hC' hs hc'
      rw [← hacc]
      clear hacc hx hxm
      go_wp2
      obtain ⟨wo, rfl⟩ : ∃ wo : World, wo = wr := ⟨_, rfl⟩
      go_loopw [7, 5] (fun v7 v5 wr => ∃ (k : Nat) (A' : Option Addr) (c' : Nat), k ≤ b.length ∧ v7 = .int .i64 k ∧ v5 = .slice A' (prodRow x (b.take k) acc).length c' ∧ (prodRow x (b.take k) acc).length ≤ c' ∧ Kd.F kMono wr ok A' (prodRow x (b.take k) acc).length (prodRow x (b.take k) acc) ∧ Below w.heap.size w wr)
        (fun v7 _ _ => b.length - (intOf v7).toNat)
      case atStart => exact ⟨0, A', c', Nat.zero_le _, rfl, rfl, hc', hC', hB⟩
      case round =>
        clear hC' hc' hB
        obtain ⟨k, A', c', hk, rfl, rfl, hc', hC', hB⟩ := hrel
        by_cases hlt2 : k < b.length
        · obtain ⟨y, hy⟩ : ∃ y, b[k]? = some y := ⟨_, List.getElem?_eq_getElem hlt2⟩
          have hym := List.mem_of_getElem? hy
          obtain ⟨bd, B0, d0, rfl, b0, b1, bl, bC⟩ := atN_Mono hb hy
          have hyl := hbv y hym
          have hys := hbs y hym
          have hs2 := Lib.hid (prodRow_succ (x := x) (acc := acc) hy)
          obtain ⟨ac2, hac2⟩ : ∃ ac2, ac2 = prodRow x (b.take k) acc := ⟨_, rfl⟩
          have hal2 : ac2.length ≤ 200000000 := by
            have := prodRow_length (x := x) (b.take k) acc
            rw [hac2]
            rw [List.length_take] at this
            omega
          have hacl2 : ∀ m ∈ ac2, m.exps.length = v := by
            rw [hac2]
            exact prodRow_len hxl hacl (fun m hm => hbv m (List.mem_of_mem_take hm))
          rw [← hac2] at hC' hs2 hc'
          rw [← hac2]
          clear hac2 hy hym
          have hbl : b.length ≤ 9223372036854775807 := hmaxb
          go_wp2
          obtain ⟨wm, rfl⟩ : ∃ wm : World, wm = wr := ⟨_, rfl⟩
          replace a0 := pw_cell_below hB a0
          replace a1 := pw_cell_below hB a1
          replace aC := Kd.C_below aC hB
          replace b0 := pw_cell_below hB b0
          replace b1 := pw_cell_below hB b1
          replace bC := Kd.C_below bC hB
          go_loopw [9, 8] (fun v9 v8 wr => ∃ (j : Nat), j ≤ v ∧ v9 = .int .i64 j ∧ (Kd.int .i64).R 3 wr wm.heap.size (fun k => wm.heap.size ≤ k) v8 ((List.zipWith (· + ·) x.exps y.exps).take j) ∧ Below wm.heap.size wm wr)
            (fun v9 _ _ => v - (intOf v9).toNat)
          case atStart => exact ⟨0, Nat.zero_le _, rfl, Kd.R_nil _ _ _ _ _, Below.refl _ _⟩
          case round =>
            obtain ⟨j, hj, rfl, hR, hBm⟩ := hrel
            replace a0 := pw_cell_below hBm a0
            replace a1 := pw_cell_below hBm a1
            replace b0 := pw_cell_below hBm b0
            replace b1 := pw_cell_below hBm b1
            replace aC := Kd.C_below aC hBm
            replace bC := Kd.C_below bC hBm
            by_cases hlt3 : j < v
            · obtain ⟨p, hp⟩ : ∃ p, x.exps[j]? = some p := ⟨_, List.getElem?_eq_getElem (by omega)⟩
              obtain ⟨q, hq⟩ : ∃ q, y.exps[j]? = some q := ⟨_, List.getElem?_eq_getElem (by omega)⟩
              have hp0 := hxs p (List.mem_of_getElem? hp)
              have hq0 := hys q (List.mem_of_getElem? hq)
              obtain ⟨pd, rfl, p0⟩ := atN_int aC hp
              obtain ⟨qd, rfl, q0⟩ := atN_int bC hq
              have hzt := zip_take hp hq
              rw [show p + q = IntKind.i64.wrap (p + q) by rw [IntKind.wrap_i64]; omega] at hzt
              replace hzt := Lib.hid hzt
              have hlx : j < x.exps.length := by omega
              have hly : j < y.exps.length := by omega
              have hle : (((List.zipWith (· + ·) x.exps y.exps).take j).length + 1) * 8 ≤ 140737488355328 := by rw [List.length_take, List.length_zipWith]; omega
              have hgs : wm.heap.size ≤ wr.drew.heap.size := hBm.size
              have hfr : ∀ k, wr.drew.heap.size ≤ k → wm.heap.size ≤ k := fun k hk => Nat.le_trans hgs hk
              clear hp hq
              go_wp2
              go_region_law (refine law_append (Kd.int .i64) (w0 := wr.drew) (W := wr.drew) wm.heap.size rfl (.tmp 32) (.tmp 50) 29 3 (.int .i64 0) 8 rfl Try.underlying29 infoInt' rfl (by decide) (by decide) u8 _ (IntKind.i64.wrap (p + q)) [.int .i64 (IntKind.i64.wrap (p + q))] (fun k => wm.heap.size ≤ k) (fun _ => False) rfl rfl rfl (fun _ h => h.elim) hfr (Kd.R_drew hR) (Below.refl _ _) hgs hle ?_; intro v1 w2 hr2 hb2 hg2 _)
              all_goals go_wp2
              all_goals go_roundw
              all_goals first | (case measure => simp [intOf]; omega) | skip
              all_goals (case rel => exact ⟨j + 1, by omega, by go_num, by rw [hzt.out]; exact hr2, (below_drew hBm).trans hb2⟩)
            · have hzl : (List.zipWith (· + ·) x.exps y.exps).length = v := by rw [List.length_zipWith]; omega
              have hjv : j = v := by omega
              rw [List.take_of_length_le (by omega)] at hR
              obtain ⟨P, cp, hP, hcp, hPC⟩ := Kd.R_reads hR
              subst hP
              have hPF := Kd.F_mono (Kd.R_F hR) (fun k hk => hok k (Nat.le_trans hB.size hk))
              obtain ⟨out, hout⟩ : ∃ out, out = addT (mulMM x y) ac2 := ⟨_, rfl⟩
              obtain ⟨z, hz⟩ : ∃ z, z = List.zipWith (· + ·) x.exps y.exps := ⟨_, rfl⟩
              have hd : ∀ W, (∀ k, W.heap.size ≤ k → ok k) → Kd.F kMono W ok A' ac2.length ac2 → Kd.F (Kd.int .i64) W ok P z.length z → Calls Try.prog 101 #[.slice A' ac2.length c', .agg #[.slice P z.length cp, .int .u64 (IntKind.u64.wrap (x.coef * y.coef))]] W fun e w' => Below W.heap.size W w' ∧ ∃ A' c', out.length ≤ c' ∧ e = .returned (.slice A' out.length c') ∧ Kd.F kMono w' ok A' out.length out := by
                subst hout hz
                exact fun W h0 h1 h2 => addTerm_calls ok ac2 (mulMM x y) A' P c' cp W h0 h1 hc' (by omega) h2 hcp v hzl hacl2
              rw [← hz] at hPF hcp hzl ⊢
              rw [← hout] at hs2
              clear hz hout
              have hCD := Kd.F_drew (Kd.F_below hC' hBm)
              have hPD := Kd.F_drew hPF
              have hjx : ¬ j < x.exps.length := by omega
              have hBw := hB.trans (hBm.mono hB.size)
              have hokD : ∀ k, wr.drew.heap.size ≤ k → ok k := fun k hk => hok k (Nat.le_trans hBw.size hk)
              clear hR hzl
              go_wp2
              refine start_ (n := 16) (S := fun w' => w'.cell? ⟨(ad.add (i * 2)).block, (ad.add (i * 2)).off + 1, none⟩ = some (.int .u64 x.coef) ∧ w'.cell? ⟨(bd.add (k * 2)).block, (bd.add (k * 2)).off + 1, none⟩ = some (.int .u64 y.coef)) (ds := [14]) (bm 16 0) (by kernel_rfl) rfl rfl ⟨a1, b1⟩ (fun hHeld => ?_)
              refine pure_ (i := 0) (N := some 52) (v := ?_) (a' := ?_) (bm 16 1) rfl rfl (by kernel_rfl) (fun _ _ _ h => h) (Or.inl ⟨by rfl, ?_⟩) ?_ ?_
              rotate_left
              · intro w'; go_simp; with_reducible rfl
              rotate_left
              · simp only [P4]; rfl
              refine pure_ (i := 1) (N := some 53) (v := ?_) (a' := ?_) (bm 16 3) rfl rfl (by kernel_rfl) (fun _ _ _ h => h) (Or.inl ⟨by rfl, ?_⟩) ?_ ?_
              rotate_left
              · intro w'; go_simp; with_reducible rfl
              rotate_left
              · simp only [P4]; rfl
              refine pure_ (i := 2) (N := some 54) (v := ?_) (a' := ?_) (bm 16 7) rfl rfl (by kernel_rfl) (fun _ _ _ h => h) (Or.inl ⟨by rfl, ?_⟩) ?_ ?_
              rotate_left
              · intro w'; go_simp; with_reducible rfl
              rotate_left
              · simp only [P4]; rfl
              refine pure_ (i := 3) (N := some 55) (v := ?_) (a' := ?_) (bm 16 15) rfl rfl (by kernel_rfl) (fun _ _ _ h => h) (Or.inl ⟨by rfl, ?_⟩) ?_ ?_
              rotate_left
              · intro w'; go_simp; with_reducible rfl
              rotate_left
              · simp only [P4]; rfl
              refine pure_ (i := 4) (N := some 56) (v := ?_) (a' := ?_) (bm 16 31) rfl rfl (by kernel_rfl) (fun _ _ _ h => h) (Or.inl ⟨by rfl, ?_⟩) ?_ ?_
              rotate_left
              · intro w'; go_simp; with_reducible rfl
              rotate_left
              · simp only [P4]; rfl
              refine pure_ (i := 5) (N := some 57) (v := ?_) (a' := ?_) (bm 16 63) rfl rfl (by kernel_rfl) (fun _ _ _ h => h) (Or.inl ⟨by rfl, ?_⟩) ?_ ?_
              rotate_left
              · intro w'; go_simp; with_reducible rfl
              rotate_left
              · simp only [P4]; rfl
              refine pure_ (i := 7) (N := some 59) (v := ?_) (a' := ?_) (bm 16 191) rfl rfl (by kernel_rfl) (fun _ _ _ h => h) (Or.inl ⟨by rfl, ?_⟩) ?_ ?_
              rotate_left
              · intro w'; go_simp; with_reducible rfl
              rotate_left
              · simp only [P4]; rfl
              refine pure_ (i := 8) (N := some 60) (v := ?_) (a' := ?_) (bm 16 447) rfl rfl (by kernel_rfl) (fun _ _ _ h => h) (Or.inl ⟨by rfl, ?_⟩) ?_ ?_
              rotate_left
              · intro w'; go_simp; with_reducible rfl
              rotate_left
              · simp only [P4]; rfl
              refine pure_ (i := 9) (N := some 61) (v := ?_) (a' := ?_) (bm 16 959) rfl rfl (by kernel_rfl) (fun _ _ _ h => h) (Or.inl ⟨by rfl, ?_⟩) ?_ ?_
              rotate_left
              · intro w'; go_simp; with_reducible rfl
              rotate_left
              · simp only [P4]; rfl
              refine pure_ (i := 10) (N := some 62) (v := ?_) (a' := ?_) (bm 16 1983) rfl rfl (by kernel_rfl) (fun _ _ _ h => h) (Or.inl ⟨by rfl, ?_⟩) ?_ ?_
              rotate_left
              · intro w'; go_simp; with_reducible rfl
              rotate_left
              · simp only [P4]; rfl
              refine take_ (i := 6) (N := some 58) (v := ?_) (a' := ?_) (bm 16 2047) rfl rfl (by kernel_rfl) (fun _ _ _ h => h) (Or.inl ⟨by rfl, ?_⟩) hHeld ?_ ?_
              rotate_left
              · rintro w' ⟨s0, s1⟩
                go_simp
                with_reducible rfl
              rotate_left
              · simp only [P4]; rfl
              refine take_ (i := 11) (N := some 63) (v := ?_) (a' := ?_) (bm 16 4095) rfl rfl (by kernel_rfl) (fun _ _ _ h => h) (Or.inl ⟨by rfl, ?_⟩) hHeld ?_ ?_
              rotate_left
              · rintro w' ⟨s0, s1⟩
                go_simp
                with_reducible rfl
              rotate_left
              · simp only [P4]; rfl
              refine pure_ (i := 12) (N := some 64) (v := ?_) (a' := ?_) (bm 16 8191) rfl rfl (by kernel_rfl) (fun _ _ _ h => h) (Or.inl ⟨by rfl, ?_⟩) ?_ ?_
              rotate_left
              · intro w'; go_simp; with_reducible rfl
              rotate_left
              · simp only [P4]; rfl
              refine pure_ (i := 13) (N := some 65) (v := ?_) (a' := ?_) (bm 16 16383) rfl rfl (by kernel_rfl) (fun _ _ _ h => h) (Or.inl ⟨by rfl, ?_⟩) ?_ ?_
              rotate_left
              · intro w'; go_simp; with_reducible rfl
              rotate_left
              · simp only [P4]; rfl
              refine last_ (i := 14) (N := some 66) (bm 16 32767) rfl rfl (by kernel_rfl) (by decide) (fun K hK => ?_)
              refine goes_ Try.func101 (by kernel_rfl) rfl #[.slice A' ac2.length c', .agg #[.slice P z.length cp, .int .u64 (IntKind.u64.wrap (x.coef * y.coef))]] (by rfl) rfl rfl (by simp only [List.map_toArray, List.map_cons, List.map_nil]; rfl) ?_
              with_reducible refine (hd _ hokD hCD hPD).mono ?_
              rintro e w3 ⟨hb3, A3, c3, hc3, rfl, hC3⟩
              refine ⟨_, rfl, ?_⟩
              refine hK.out _ _ ?_
              clear hK K
              refine norm_ (a' := ?_) ?_ ?_
              rotate_left
              · show Act.put _ (some 66) _ = _
                simp only [P4]
                rfl
              refine pure_ (i := 15) (N := some 5) (v := ?_) (a' := ?_) (bm 16 65535) rfl rfl (by kernel_rfl) (fun _ _ _ h => h) (Or.inl ⟨by rfl, ?_⟩) ?_ ?_
              rotate_left
              · intro w'; go_simp; with_reducible rfl
              rotate_left
              · simp only [P4]; rfl
              refine done_ (by kernel_rfl) ?_
              · go_wp2
                go_roundw
                case rel => exact ⟨k + 1, A3, c3, by omega, by go_num, by rw [hs2.out], by rw [hs2.out]; exact hc3, by rw [hs2.out]; exact hC3, (below_drew hBw).trans (hb3.mono (below_drew hBw).size)⟩
                case measure => simp [intOf]; omega
        · have ek : k = b.length := by omega
          subst ek
          rw [List.take_length] at hc' hC'
          rw [List.take_length]
          go_wp2
          go_roundw
          case rel => exact ⟨i + 1, A', c', by omega, by go_num, by rw [hs.out], by rw [hs.out]; exact hc', by rw [hs.out]; exact hC', hB⟩
          case measure => simp [intOf]; omega
    · have ei : i = a.length := by omega
      subst ei
      rw [pl_all] at hc' hC'
      rw [pl_all]
      go_wp2
      go_ret
      exact ⟨hB, A', c', hc', rfl, hC'⟩
end Go.Proofs.Ytmdahjmkfipdfaa
