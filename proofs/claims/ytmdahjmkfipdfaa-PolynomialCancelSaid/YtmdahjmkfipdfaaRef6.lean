/- walks: fullingref18.normalize, Normalize -/
import Derived.Test.YtmdahjmkfipdfaaRef5
import Derived.Test.YtmdahjmkfipdfaaRf4
import Derived.Test.YtmdahjmkfipdfaaGen2
namespace Go.Proofs.Ytmdahjmkfipdfaa
set_option linter.unusedVariables false
set_option linter.unusedSimpArgs false
open Go.RowKit Go.Proofs.YtmdahjmkfipdfaaW.PrintWords Go.Proofs.YtmdahjmkfipdfaaW.PrintLast Go.Proofs.YtmdahjmkfipdfaaW.PrintMore
/-! ### how many terms -/
theorem prodT_length (A B : Tm) : (prodT A B).length = A.length * B.length := by
  induction A with
  | nil => simp [prodT]
  | cons p A ih =>
    have : prodT (p :: A) B = (B.map fun q => (addK p.1 q.1, p.2 * q.2)) ++ prodT A B := by simp [prodT]
    rw [this, List.length_append, ih, List.length_map, List.length_cons, Nat.succ_mul, Nat.add_comm]
def count (n : Nat) (T : Tm) : Prop := T.length ≤ 2 ^ n
theorem opTerms_count {v : Nat} {op : Int} {p q : Pat} {A B T : Tm} (hA : A.length ≤ 2 ^ p.size.toNat) (hB : B.length ≤ 2 ^ q.size.toNat) (h : opTerms v op [A, B] = some T) : T.length ≤ 2 ^ (1 + p.size.toNat + q.size.toNat) := by
  have h1 := two_pow_add p.size.toNat q.size.toNat
  have h2 : 2 ^ p.size.toNat * 2 ^ q.size.toNat ≤ 2 ^ (1 + p.size.toNat + q.size.toNat) := by rw [← Nat.pow_add]; exact Nat.pow_le_pow_right (by decide) (by omega)
  have h3 := Nat.mul_le_mul hA hB
  have h4 : 1 ≤ 2 ^ q.size.toNat := Nat.one_le_two_pow
  unfold opTerms at h
  simp only [List.getD_cons_zero, List.getD_cons_succ] at h
  repeat' split at h
  all_goals first
    | (cases h; simp [scaleT]; omega)
    | (cases h; rw [prodT_length]; omega)
    | cases h
theorem opTerms_count1 {v : Nat} {op : Int} {p : Pat} {A T : Tm} (hA : A.length ≤ 2 ^ p.size.toNat) (h : opTerms v op [A] = some T) : T.length ≤ 2 ^ (1 + p.size.toNat) := by
  have h1 : 1 ≤ 2 ^ p.size.toNat := Nat.one_le_two_pow
  have h2 : 2 ^ (1 + p.size.toNat) = 2 * 2 ^ p.size.toNat := by rw [Nat.pow_add]
  unfold opTerms at h
  simp only [List.getD_cons_zero, List.getD_cons_succ] at h
  repeat' split at h
  all_goals first
    | (cases h; simp [scaleT]; omega)
    | (cases h; rw [prodT_length]; simp)
    | cases h
theorem eraseDups_length {α : Type} [BEq α] [LawfulBEq α] : ∀ (n : Nat) (l : List α), l.length ≤ n → l.eraseDups.length ≤ l.length
  | _, [], _ => by simp
  | 0, _ :: _, h => by simp at h
  | n + 1, a :: l, h => by
    rw [List.eraseDups_cons]
    have h1 := List.length_filter_le (fun b => !b == a) l
    have h2 := eraseDups_length n (l.filter fun b => !b == a) (by simp at h; omega)
    simp only [List.length_cons]
    omega
theorem normOut_length (T : Tm) : (normOut T).length ≤ T.length := by
  unfold normOut nzKeys
  rw [List.length_map, List.length_mergeSort]
  refine Nat.le_trans (List.length_filter_le _ _) ?_
  have := eraseDups_length _ (T.map (·.1)) (Nat.le_refl _)
  simpa using this
/-! ### normalize -/
theorem infoMonos : (Try.prog.info? 25).map (fun i => (i.zero, i.size, i.bytes)) = some (some (.slice none 0 0), 1, 24) := by kernel_rfl
abbrev Sum3 := Option Addr × Nat × List Mono
/-- What normalize hands back. -/
def NormL (w : World) (o : Option (List Mono)) (e : Ending) (w' : World) : Prop := Below w.heap.size w w' ∧ match o with
  | none => e = .returned (.tuple #[.slice none 0 0, .bool false])
  | some ms => ∃ A c, ms.length ≤ c ∧ e = .returned (.tuple #[.slice A ms.length c, .bool true]) ∧ Kd.F kMono w' (fun k => w.heap.size ≤ k) A ms.length ms
def RefC (v : Nat) (p : Pat) : Prop := ∀ (A : Option Addr) (c : Nat) (w : World), Kd.C kPat w A p.kids.length p.kids → p.kids.length ≤ c →
  Calls Try.prog 46 #[.agg #[.int .i64 p.var, .int .i64 p.op, .int .i64 p.imm, .int .i64 p.immVar, .slice A p.kids.length c], .int .i64 v] w (NormL w (rnorm v p))
def sumCells (ds : List Sum3) : List Value := ds.map fun d => .slice d.1 d.2.2.length d.2.1
def SumsAt (n0 : Nat) (w : World) (v : Value) (ds : List Sum3) : Prop := ∀ d ∈ ds, Kd.F kMono w (fun k => n0 ≤ k ∧ some k ≠ v.ownBlock) d.1 d.2.2.length d.2.2 ∧ d.2.2.length ≤ d.2.1
theorem SumsAt.below {n0 : Nat} {w w' : World} {v : Value} {ds : List Sum3} (h : SumsAt n0 w v ds) (hb : Below w.heap.size w w') : SumsAt n0 w' v ds := fun d hd => ⟨Kd.F_below (h d hd).1 hb, (h d hd).2⟩
theorem rnorms_snoc {v : Nat} : ∀ {ps : List Pat} {Ls : List (List Mono)} {q : Pat} {L : List Mono}, rnorms v ps = some Ls → rnorm v q = some L → rnorms v (ps ++ [q]) = some (Ls ++ [L])
  | [], Ls, q, L, h, hq => by
    rw [rnorms] at h
    injection h with h
    subst h
    simp [rnorms, hq]
  | p :: ps, Ls, q, L, h, hq => by
    rw [rnorms] at h
    rcases hp : rnorm v p with _ | t
    · rw [hp] at h; cases h
    · rw [hp] at h
      rcases hs : rnorms v ps with _ | ts
      · rw [hs] at h; cases h
      · rw [hs] at h
        simp at h
        subst h
        have := rnorms_snoc hs hq
        rw [List.cons_append, rnorms, hp, this]
        rfl
theorem rnorms_none {v : Nat} : ∀ {ks : List Pat} {k : Nat} {q : Pat}, ks[k]? = some q → rnorm v q = none → rnorms v ks = none
  | [], _, _, h, _ => by simp at h
  | p :: ks, 0, q, h, hq => by simp at h; subst h; rw [rnorms, hq]; rfl
  | p :: ks, k + 1, q, h, hq => by
    rw [rnorms, rnorms_none (ks := ks) (k := k) (by simpa using h) hq]
    cases rnorm v p <;> rfl
theorem two_sums {w : World} {base : Nat} {u : Value} {ds : List Sum3} (hl : ds.length = 2) (ho : w.ownsRow base 25 1 u (sumCells ds).length (sumCells ds)) :
    ∃ d0 d1 g cap, ds = [d0, d1] ∧ u = .slice (some ⟨g, 0, none⟩) 2 cap ∧ w.cell? ⟨g, 0, none⟩ = some (.slice d0.1 d0.2.2.length d0.2.1) ∧ w.cell? ⟨g, 1, none⟩ = some (.slice d1.1 d1.2.2.length d1.2.1) := by
  match ds, hl with
  | [d0, d1], _ =>
    obtain ⟨g, cap, hu, hgb, hgl⟩ := ho.form (by simp [sumCells])
    have hb : u.ownBlock = some g := by rw [hu]; rfl
    exact ⟨d0, d1, g, cap, rfl, hu, ho.cells hb 0 _ rfl, ho.cells hb 1 _ rfl⟩
theorem one_sum {w : World} {base : Nat} {u : Value} {ds : List Sum3} (hl : ds.length = 1) (ho : w.ownsRow base 25 1 u (sumCells ds).length (sumCells ds)) :
    ∃ d0 g cap, ds = [d0] ∧ u = .slice (some ⟨g, 0, none⟩) 1 cap ∧ w.cell? ⟨g, 0, none⟩ = some (.slice d0.1 d0.2.2.length d0.2.1) := by
  match ds, hl with
  | [d0], _ =>
    obtain ⟨g, cap, hu, hgb, hgl⟩ := ho.form (by simp [sumCells])
    have hb : u.ownBlock = some g := by rw [hu]; rfl
    exact ⟨d0, g, cap, rfl, hu, ho.cells hb 0 _ rfl⟩
/-- What is known of an operand's sum. -/
def Fine (v : Nat) (n : Int) (l : List Mono) : Prop := l.length ≤ 2 ^ n.toNat ∧ ∀ m ∈ l, m.exps.length = v ∧ Small m.exps
theorem made_set_int (v n : Nat) : (madeCells #[Value.int .i64 0] v).setIfInBounds n (.int .i64 1) = (nums .i64 ((List.replicate v 0).set n 1)).toArray := by
  have e : madeCells #[Value.int .i64 0] v = (nums .i64 (List.replicate v 0)).toArray := by
    apply Array.ext'
    apply List.ext_getElem
    · simp [nums, madeCells]
    · intro i h1 h2
      simp [nums, madeCells, Nat.mod_one]
  rw [e]
  simp only [nums, List.setIfInBounds_toArray, List.map_set]
set_option maxHeartbeats 1000000 in
set_option maxRecDepth 100000 in
theorem refnorm_var (v : Nat) (hv : v ≤ 6) (p : Pat) (A : Option Addr) (c : Nat) (w : World) (h0 : 1 ≤ p.var) (h1 : p.var ≤ v) :
    Calls Try.prog 46 #[.agg #[.int .i64 p.var, .int .i64 p.op, .int .i64 p.imm, .int .i64 p.immVar, .slice A p.kids.length c], .int .i64 v] w (NormL w (rnorm v p)) := by
  obtain ⟨var, op, imm, iv, ks⟩ := p
  simp only at h0 h1 ⊢
  have hmk := print_make (P := Try.prog) 29 3 .i64 8 Try.underlying29 infoInt (by decide) v (by omega)
  obtain ⟨n, rfl⟩ : ∃ n : Nat, var = (n : Int) + 1 := ⟨(var - 1).toNat, by omega⟩
  have hn : n < v := by omega
  have E : Hid (rnorm v ⟨(n : Int) + 1, op, imm, iv, ks⟩ = some [⟨(List.replicate v 0).set n 1, 1⟩]) := Lib.hid (by rw [rnorm, if_pos (by omega), show ((n : Int) + 1 - 1).toNat = n by omega])
  rw [E.out]
  clear E
  have hN := fun ob => made_nums 3 (w.alloc ob) v
  simp only [World.size_alloc] at hN
  have hc1 := fun ob => (hN ob).cell (i := n) (x := 0) (by simp [hn])
  have hf1 := fun ob => (hN ob).free n
  have hms := made_set_int v n
  have HBw : ∀ o1 o2 o3, Below w.heap.size w (((w.alloc o1).alloc o2).alloc o3) := fun o1 o2 o3 => (((Below.refl _ _).alloc (Nat.le_refl _) _).alloc (by simp) _).alloc (by simp; omega) _
  have hC2 : ∀ ob, Kd.F kMono (((w.alloc ob).alloc (.cells (nums .i64 ((List.replicate v (0 : Int)).set n 1)).toArray 3)).alloc (.cells #[.slice (some ⟨(w.alloc ob).heap.size, 0, none⟩) ((List.replicate v (0 : Int)).set n 1).length ((List.replicate v (0 : Int)).set n 1).length, .int .u64 1] 32)) (fun k => w.heap.size ≤ k) (some ⟨((w.alloc ob).alloc (.cells (nums .i64 ((List.replicate v (0 : Int)).set n 1)).toArray 3)).heap.size, 0, none⟩) 1 [⟨(List.replicate v (0 : Int)).set n 1, 1⟩] := fun ob => by
    have hF : Kd.F (Kd.int .i64) ((w.alloc ob).alloc (.cells (nums .i64 ((List.replicate v (0 : Int)).set n 1)).toArray 3)) (fun k => w.heap.size ≤ k) (some ⟨(w.alloc ob).heap.size, 0, none⟩) ((List.replicate v (0 : Int)).set n 1).length ((List.replicate v (0 : Int)).set n 1) :=
      Kd.F_mono (Kd.R_F (Kd.R_bound (R_lit' .i64 (w.alloc ob) ((List.replicate v (0 : Int)).set n 1) 3 (by simp; omega)))) (fun k hk => by have := hk.2.1; simp at this; omega)
    exact F_new kMono _ (fun k => w.heap.size ≤ k) [⟨(List.replicate v (0 : Int)).set n 1, 1⟩] _ 32 (Reps.c2 (kMono_mkF _ _ ⟨(List.replicate v (0 : Int)).set n 1, 1⟩ (Nat.le_refl _) hF) (Reps.none _ _)) (by simp) (by simp; omega)
  simp only [World.size_alloc, List.length_set, List.length_replicate] at hC2
  clear hN
  replace hC2 := Lib.hid hC2
  go_enter Try.func46, Try.ntmps46
  go_wp2
  go_ret2
  exact ⟨HBw _ _ _, _, 1, Nat.le_refl _, rfl, hC2.out _⟩
theorem rnorms_two {v : Nat} {p q : Pat} {a b : List Mono} (h : rnorms v [p, q] = some [a, b]) : rnorm v p = some a ∧ rnorm v q = some b := by
  rw [rnorms, rnorms, rnorms] at h
  cases hp : rnorm v p with
  | none => rw [hp] at h; cases h
  | some a' =>
    rw [hp] at h
    cases hq : rnorm v q with
    | none => rw [hq] at h; cases h
    | some b' =>
      rw [hq] at h
      simp at h
      exact ⟨by rw [h.1], by rw [h.2]⟩
theorem rnorms_one {v : Nat} {p : Pat} {a : List Mono} (h : rnorms v [p] = some [a]) : rnorm v p = some a := by
  rw [rnorms, rnorms] at h
  cases hp : rnorm v p with
  | none => rw [hp] at h; cases h
  | some a' =>
    rw [hp] at h
    simp at h
    rw [h]
theorem fine_two {v : Nat} {p q : Pat} {a b : List Mono} (hf : ∀ q' ∈ [p, q], ∀ l, rnorm v q' = some l → Fine v q'.size l) (h : rnorms v [p, q] = some [a, b]) : Fine v p.size a ∧ Fine v q.size b :=
  ⟨hf p (by simp) a (rnorms_two h).1, hf q (by simp) b (rnorms_two h).2⟩
theorem two_small {a b : Int} {l0 l1 : List Mono} (h : a + b ≤ 24) (ha : 1 ≤ a) (hb : 1 ≤ b) (h0 : l0.length ≤ 2 ^ a.toNat) (h1 : l1.length ≤ 2 ^ b.toNat) : l0.length + l1.length ≤ 1000000000 := by
  have h2 := two_pow_add a.toNat b.toNat
  have h3 : 2 ^ (1 + a.toNat + b.toNat) ≤ 2 ^ 25 := Nat.pow_le_pow_right (by decide) (by omega)
  omega
theorem two_prod {a b : Int} {l0 l1 : List Mono} (h : a + b ≤ 24) (ha : 1 ≤ a) (hb : 1 ≤ b) (h0 : l0.length ≤ 2 ^ a.toNat) (h1 : l1.length ≤ 2 ^ b.toNat) : l0.length * l1.length ≤ 100000000 := by
  refine Nat.le_trans (Nat.mul_le_mul h0 h1) ?_
  rw [← Nat.pow_add]
  exact Nat.le_trans (Nat.pow_le_pow_right (by decide) (show a.toNat + b.toNat ≤ 24 by omega)) (by decide)
theorem one_small {a : Int} {l0 : List Mono} (h : a ≤ 24) (h0 : l0.length ≤ 2 ^ a.toNat) : l0.length ≤ 100000000 :=
  Nat.le_trans h0 (Nat.le_trans (Nat.pow_le_pow_right (by decide) (show a.toNat ≤ 24 by omega)) (by decide))
set_option maxHeartbeats 4000000 in
set_option maxRecDepth 100000 in
theorem refnorm_op (v : Nat) (hv : v ≤ 6) (p : Pat) (A : Option Addr) (c : Nat) (w : World) (h0 : p.var = 0) (kids : List Int) (own : Int) (hos : opSorts p.op = some (kids, own)) (hkl : p.kids.length = kids.length)
    (ih : ∀ q ∈ p.kids, RefC v q) (hfine : ∀ q ∈ p.kids, ∀ l, rnorm v q = some l → Fine v q.size l) (hsz : p.size ≤ 24) (hr : Kd.C kPat w A p.kids.length p.kids) (hcl : p.kids.length ≤ c) :
    Calls Try.prog 46 #[.agg #[.int .i64 p.var, .int .i64 p.op, .int .i64 p.imm, .int .i64 p.immVar, .slice A p.kids.length c], .int .i64 v] w (NormL w (rnorm v p)) := by
  have hk3 := opSorts_kids hos
  obtain ⟨var, op, imm, iv, ks⟩ := p
  simp only at h0 hos hkl ih hfine hr hcl ⊢
  subst h0
  have E : Hid (rnorm v ⟨0, op, imm, iv, ks⟩ = (rnorms v ks).bind (rop v op imm ks)) := Lib.hid (by rw [rnorm, if_neg (by omega)])
  have hmax := Kd.C_max hr
  replace hkl := Lib.hid hkl
  replace hos := Lib.hid hos
  go_enter Try.func46, Try.ntmps46
  go_wp2
  obtain ⟨wb, hwb⟩ : ∃ wb, wb = w.alloc (.cells #[.int .i64 0, .int .i64 op, .int .i64 imm, .int .i64 iv, .slice A ks.length c] 24) := ⟨_, rfl⟩
  have hwb' := Lib.hid hwb
  clear hwb
  have hBw : Below w.heap.size w wb := by rw [hwb'.out]; exact (Below.refl _ _).alloc (Nat.le_refl _) _
  have hbk : wb.heap[w.heap.size]? = some (.cells #[.int .i64 0, .int .i64 op, .int .i64 imm, .int .i64 iv, .slice A ks.length c] 24 (0, 0)) := by rw [hwb'.out]; exact blk_new w _
  go_loopw [8, 7] (fun v8 v7 wr => ∃ (k : Nat) (ds : List Sum3), k ≤ ks.length ∧ v8 = .int .i64 k ∧ wr.ownsRow wb.heap.size 25 1 v7 (sumCells ds).length (sumCells ds) ∧ Hid (ds.length = k) ∧ Hid (rnorms v (ks.take k) = some (ds.map (·.2.2))) ∧ SumsAt w.heap.size wr v7 ds ∧ Below wb.heap.size wb wr)
    (fun v8 _ _ => ks.length - (intOf v8).toNat)
  case atStart => exact ⟨0, [], Nat.zero_le _, rfl, own_nil _ _ _ _, Lib.hid rfl, Lib.hid rfl, (fun d hd => by cases hd), by rw [hwb'.out]; exact Below.refl _ _⟩
  case round =>
    obtain ⟨k, ds, hk, rfl, hown, hdl, hpt, hSm, hB⟩ := hrel
    have hBr := below_then hBw hBw.size hB
    have hb0 := fun j => (blk_cell (blk_below hbk hB) j)
    have b1 := (hb0 1).trans rfl
    have b2 := (hb0 2).trans rfl
    have b4 := (hb0 4).trans rfl
    clear hb0
    by_cases hlt : k < ks.length
    · obtain ⟨q, hq⟩ : ∃ q, ks[k]? = some q := ⟨_, List.getElem?_eq_getElem hlt⟩
      obtain ⟨ad, A4, c4, rfl, a0, a1, a2, a3, a4, hl, hC⟩ := atN_Pat hr hq
      replace a0 := pw_cell_below hBr a0
      replace a1 := pw_cell_below hBr a1
      replace a2 := pw_cell_below hBr a2
      replace a3 := pw_cell_below hBr a3
      replace a4 := pw_cell_below hBr a4
      have hq' := Lib.hid hq
      have ihq := fun W h => ih q (List.mem_of_getElem? hq) A4 c4 W h hl
      clear hq
      rcases hpq : rnorm v q with _ | L
      · rw [hpq] at ihq
        rw [E.out, rnorms_none hq'.out hpq]
        clear E hpq
        go_wp2_with fail
        refine (ihq _ (Kd.C_below hC hBr)).mono ?_
        rintro e w1 ⟨hb, rfl⟩
        go_wp2
        go_ret2
        exact ⟨below_then hBr hBr.size hb, rfl⟩
      · rw [hpq] at ihq
        go_wp2_with fail
        refine (ihq _ (Kd.C_below hC hBr)).mono ?_
        rintro e w1 ⟨hb, A1, c1, hc1, rfl, hC1⟩
        have hB1 := below_then hB hB.size hb
        have hown1 := pw_own_below hown hb
        have hSm1 := hSm.below hb
        have hlen : (sumCells ds).length ≤ 3 := by simp [sumCells]; have := hdl.out; have := hkl.out; omega
        go_wp2_with (first
          | (at_builtin; (refine print_append wb.heap.size rfl _ _ 123 25 (.slice none 0 0) 24 rfl Try.underlying123 infoMonos rfl (by decide) u7 (sumCells ds) (.slice A1 L.length c1) rfl rfl rfl hown1 hB1 hB1.size (by omega) ?_); intro v1 w2 hown2 hB2 hg2 hat2)
          | go_in)
        refine ⟨⟨k + 1, ds ++ [(A1, c1, L)], by omega, by go_num, ?_, Lib.hid (by simp [hdl.out]), Lib.hid ?_, ?_, hB2⟩, by simp [intOf]; omega⟩
        · have em : sumCells (ds ++ [(A1, c1, L)]) = sumCells ds ++ [.slice A1 L.length c1] := by simp [sumCells]
          rw [em]; exact hown2
        · rw [take_succ_of hq'.out, List.map_append]; exact rnorms_snoc hpt.out hpq
        · intro d hd
          rcases List.mem_append.1 hd with hd | hd
          · exact ⟨Kd.F_after (hSm1 d hd).1 hg2 hat2, (hSm1 d hd).2⟩
          · simp at hd
            subst hd
            exact ⟨Kd.F_after (Kd.F_mono hC1 (fun k hk => ⟨Nat.le_trans hBr.size hk, fun e => by have := own_lt hown k e.symm; omega⟩)) hg2 hat2, hc1⟩
    · have ek : k = ks.length := by omega
      subst ek
      have hdl' : ds.length = ks.length := hdl.out
      rw [List.take_length] at hpt
      have E2 : Hid (rnorm v ⟨0, op, imm, iv, ks⟩ = rop v op imm ks (ds.map (·.2.2))) := Lib.hid (by rw [E.out, hpt.out]; rfl)
      have hszs : Hid ((⟨0, op, imm, iv, ks⟩ : Pat).size = 1 + Pat.sizes ks) := Lib.hid (Pat.size_eq _)
      rw [hszs.out] at hsz
      clear E ih
      by_cases o4 : op = 4
      · subst o4
        obtain ⟨rfl, rfl⟩ : kids = [1, 1] ∧ own = 1 := by have h := hos.out; simp [opSorts] at h; exact ⟨h.1.symm, h.2.symm⟩
        obtain ⟨p0, p1, rfl⟩ : ∃ p0 p1, ks = [p0, p1] := by have h := hkl.out; match ks, h with | [a, b], _ => exact ⟨a, b, rfl⟩
        obtain ⟨⟨A0, e0, l0⟩, ⟨A1, e1, l1⟩, g, cap, rfl, rfl, c0, c1⟩ := two_sums hdl' hown
        obtain ⟨hC0, hl0⟩ := hSm ⟨A0, e0, l0⟩ (by simp)
        obtain ⟨hC1, hl1⟩ := hSm ⟨A1, e1, l1⟩ (by simp)
        simp only at hC0 hC1 hl0 hl1 c0 c1
        obtain ⟨f0, f1⟩ : Fine v p0.size l0 ∧ Fine v p1.size l1 := fine_two hfine hpt.out
        have z0 := size_pos p0
        have z1 := size_pos p1
        have hz2 : p0.size + p1.size ≤ 24 := by simp [Pat.sizes] at hsz; omega
        have hE3 : Hid (rnorm v ⟨0, 4, imm, iv, [p0, p1]⟩ = some (addMul 1 l0 l1)) := Lib.hid (by rw [E2.out]; rfl)
        obtain ⟨out, hout⟩ : ∃ out, out = addMul 1 l0 l1 := ⟨_, rfl⟩
        have hd : ∀ W, (∀ k, W.heap.size ≤ k → w.heap.size ≤ k) → Kd.F kMono W (fun k => w.heap.size ≤ k) A0 l0.length l0 → Kd.F kMono W (fun k => w.heap.size ≤ k) A1 l1.length l1 → Calls Try.prog 75 #[.slice A0 l0.length e0, .slice A1 l1.length e1, .int .u64 1] W fun e w' => Below W.heap.size W w' ∧ ∃ A' c', out.length ≤ c' ∧ e = .returned (.slice A' out.length c') ∧ Kd.F kMono w' (fun k => w.heap.size ≤ k) A' out.length out := by
          subst hout
          exact fun W h0 h1 h2 => addMultiple_calls _ l0 l1 1 A0 A1 e0 e1 W h0 h1 hl0 h2 hl1 (two_small hz2 z0 z1 f0.1 f1.1) v (fun x hx => (f0.2 x hx).1) (fun x hx => (f1.2 x hx).1)
        rw [← hout] at hE3
        clear hout E2 hos hkl hfine hSm hown hpt hdl' f0 f1 hszs
        have hC0' := Kd.F_mono (Kd.F_drew hC0) (fun k hk => hk.1)
        have hC1' := Kd.F_mono (Kd.F_drew hC1) (fun k hk => hk.1)
        have hokD : ∀ k, wr.drew.heap.size ≤ k → w.heap.size ≤ k := fun k hk => Nat.le_trans hBr.size hk
        go_wp2
        refine start_ (n := 9) (S := fun w' => w'.cell? ⟨g, 0, none⟩ = some (.slice A0 l0.length e0) ∧ w'.cell? ⟨g, 1, none⟩ = some (.slice A1 l1.length e1)) (ds := [6]) (bm 9 0) (by kernel_rfl) rfl rfl ⟨c0, c1⟩ (fun hHeld => ?_)
        refine pure_ (i := 0) (N := some 58) (v := ?_) (a' := ?_) (bm 9 1) rfl rfl (by kernel_rfl) (fun _ _ _ h => h) (Or.inl ⟨by rfl, ?_⟩) ?_ ?_
        rotate_left
        · intro w'; go_simp; with_reducible rfl
        rotate_left
        · simp only [P4]; rfl
        refine pure_ (i := 1) (N := some 59) (v := ?_) (a' := ?_) (bm 9 3) rfl rfl (by kernel_rfl) (fun _ _ _ h => h) (Or.inl ⟨by rfl, ?_⟩) ?_ ?_
        rotate_left
        · intro w'; go_simp; with_reducible rfl
        rotate_left
        · simp only [P4]; rfl
        refine pure_ (i := 3) (N := some 61) (v := ?_) (a' := ?_) (bm 9 11) rfl rfl (by kernel_rfl) (fun _ _ _ h => h) (Or.inl ⟨by rfl, ?_⟩) ?_ ?_
        rotate_left
        · intro w'; go_simp; with_reducible rfl
        rotate_left
        · simp only [P4]; rfl
        refine pure_ (i := 4) (N := some 62) (v := ?_) (a' := ?_) (bm 9 27) rfl rfl (by kernel_rfl) (fun _ _ _ h => h) (Or.inl ⟨by rfl, ?_⟩) ?_ ?_
        rotate_left
        · intro w'; go_simp; with_reducible rfl
        rotate_left
        · simp only [P4]; rfl
        refine take_ (i := 2) (N := some 60) (v := ?_) (a' := ?_) (bm 9 31) rfl rfl (by kernel_rfl) (fun _ _ _ h => h) (Or.inl ⟨by rfl, ?_⟩) hHeld ?_ ?_
        rotate_left
        · rintro w' ⟨s0, s1⟩
          go_simp
          with_reducible rfl
        rotate_left
        · simp only [P4]; rfl
        refine take_ (i := 5) (N := some 63) (v := ?_) (a' := ?_) (bm 9 63) rfl rfl (by kernel_rfl) (fun _ _ _ h => h) (Or.inl ⟨by rfl, ?_⟩) hHeld ?_ ?_
        rotate_left
        · rintro w' ⟨s0, s1⟩
          go_simp
          with_reducible rfl
        rotate_left
        · simp only [P4]; rfl
        refine last_ (i := 6) (N := some 64) (bm 9 127) rfl rfl (by kernel_rfl) (by decide) (fun K hK => ?_)
        refine goes_ Try.func75 (by kernel_rfl) rfl #[.slice A0 l0.length e0, .slice A1 l1.length e1, .int .u64 1] (by rfl) rfl rfl (by simp only [List.map_toArray, List.map_cons, List.map_nil]; rfl) ?_
        with_reducible refine (hd _ hokD hC0' hC1').mono ?_
        rintro e w3 ⟨hb3, A3, c3, hc3, rfl, hC3⟩
        refine ⟨_, rfl, ?_⟩
        refine hK.out _ _ ?_
        clear hK K
        refine norm_ (a' := ?_) ?_ ?_
        rotate_left
        · show Act.put _ (some 64) _ = _
          simp only [P4]
          rfl
        refine pure_ (i := 7) (N := some 4) (v := ?_) (a' := ?_) (bm 9 255) rfl rfl (by kernel_rfl) (fun _ _ _ h => h) (Or.inl ⟨by rfl, ?_⟩) ?_ ?_
        rotate_left
        · intro w'; go_simp; with_reducible rfl
        rotate_left
        · simp only [P4]; rfl
        refine pure_ (i := 8) (N := some 5) (v := ?_) (a' := ?_) (bm 9 511) rfl rfl (by kernel_rfl) (fun _ _ _ h => h) (Or.inl ⟨by rfl, ?_⟩) ?_ ?_
        rotate_left
        · intro w'; go_simp; with_reducible rfl
        rotate_left
        · simp only [P4]; rfl
        refine done_ (by kernel_rfl) ?_
        go_wp2
        go_ret2
        rw [hE3.out]
        exact ⟨below_then (below_drew hBr) (below_drew hBr).size hb3, A3, c3, hc3, rfl, hC3⟩
      by_cases o5 : op = 5
      · subst o5
        obtain ⟨rfl, rfl⟩ : kids = [1, 1] ∧ own = 1 := by have h := hos.out; simp [opSorts] at h; exact ⟨h.1.symm, h.2.symm⟩
        obtain ⟨p0, p1, rfl⟩ : ∃ p0 p1, ks = [p0, p1] := by have h := hkl.out; match ks, h with | [a, b], _ => exact ⟨a, b, rfl⟩
        obtain ⟨⟨A0, e0, l0⟩, ⟨A1, e1, l1⟩, g, cap, rfl, rfl, c0, c1⟩ := two_sums hdl' hown
        obtain ⟨hC0, hl0⟩ := hSm ⟨A0, e0, l0⟩ (by simp)
        obtain ⟨hC1, hl1⟩ := hSm ⟨A1, e1, l1⟩ (by simp)
        simp only at hC0 hC1 hl0 hl1 c0 c1
        obtain ⟨f0, f1⟩ : Fine v p0.size l0 ∧ Fine v p1.size l1 := fine_two hfine hpt.out
        have z0 := size_pos p0
        have z1 := size_pos p1
        have hz2 : p0.size + p1.size ≤ 24 := by simp [Pat.sizes] at hsz; omega
        have hE3 : Hid (rnorm v ⟨0, 5, imm, iv, [p0, p1]⟩ = some (addMul 18446744073709551615 l0 l1)) := Lib.hid (by rw [E2.out]; rfl)
        obtain ⟨out, hout⟩ : ∃ out, out = addMul 18446744073709551615 l0 l1 := ⟨_, rfl⟩
        have hd : ∀ W, (∀ k, W.heap.size ≤ k → w.heap.size ≤ k) → Kd.F kMono W (fun k => w.heap.size ≤ k) A0 l0.length l0 → Kd.F kMono W (fun k => w.heap.size ≤ k) A1 l1.length l1 → Calls Try.prog 75 #[.slice A0 l0.length e0, .slice A1 l1.length e1, .int .u64 18446744073709551615] W fun e w' => Below W.heap.size W w' ∧ ∃ A' c', out.length ≤ c' ∧ e = .returned (.slice A' out.length c') ∧ Kd.F kMono w' (fun k => w.heap.size ≤ k) A' out.length out := by
          subst hout
          exact fun W h0 h1 h2 => addMultiple_calls _ l0 l1 18446744073709551615 A0 A1 e0 e1 W h0 h1 hl0 h2 hl1 (two_small hz2 z0 z1 f0.1 f1.1) v (fun x hx => (f0.2 x hx).1) (fun x hx => (f1.2 x hx).1)
        rw [← hout] at hE3
        clear hout E2 hos hkl hfine hSm hown hpt hdl' f0 f1 hszs
        have hC0' := Kd.F_mono (Kd.F_drew hC0) (fun k hk => hk.1)
        have hC1' := Kd.F_mono (Kd.F_drew hC1) (fun k hk => hk.1)
        have hokD : ∀ k, wr.drew.heap.size ≤ k → w.heap.size ≤ k := fun k hk => Nat.le_trans hBr.size hk
        go_wp2
        refine start_ (n := 9) (S := fun w' => w'.cell? ⟨g, 0, none⟩ = some (.slice A0 l0.length e0) ∧ w'.cell? ⟨g, 1, none⟩ = some (.slice A1 l1.length e1)) (ds := [6]) (bm 9 0) (by kernel_rfl) rfl rfl ⟨c0, c1⟩ (fun hHeld => ?_)
        refine pure_ (i := 0) (N := some 67) (v := ?_) (a' := ?_) (bm 9 1) rfl rfl (by kernel_rfl) (fun _ _ _ h => h) (Or.inl ⟨by rfl, ?_⟩) ?_ ?_
        rotate_left
        · intro w'; go_simp; with_reducible rfl
        rotate_left
        · simp only [P4]; rfl
        refine pure_ (i := 1) (N := some 68) (v := ?_) (a' := ?_) (bm 9 3) rfl rfl (by kernel_rfl) (fun _ _ _ h => h) (Or.inl ⟨by rfl, ?_⟩) ?_ ?_
        rotate_left
        · intro w'; go_simp; with_reducible rfl
        rotate_left
        · simp only [P4]; rfl
        refine pure_ (i := 3) (N := some 70) (v := ?_) (a' := ?_) (bm 9 11) rfl rfl (by kernel_rfl) (fun _ _ _ h => h) (Or.inl ⟨by rfl, ?_⟩) ?_ ?_
        rotate_left
        · intro w'; go_simp; with_reducible rfl
        rotate_left
        · simp only [P4]; rfl
        refine pure_ (i := 4) (N := some 71) (v := ?_) (a' := ?_) (bm 9 27) rfl rfl (by kernel_rfl) (fun _ _ _ h => h) (Or.inl ⟨by rfl, ?_⟩) ?_ ?_
        rotate_left
        · intro w'; go_simp; with_reducible rfl
        rotate_left
        · simp only [P4]; rfl
        refine take_ (i := 2) (N := some 69) (v := ?_) (a' := ?_) (bm 9 31) rfl rfl (by kernel_rfl) (fun _ _ _ h => h) (Or.inl ⟨by rfl, ?_⟩) hHeld ?_ ?_
        rotate_left
        · rintro w' ⟨s0, s1⟩
          go_simp
          with_reducible rfl
        rotate_left
        · simp only [P4]; rfl
        refine take_ (i := 5) (N := some 72) (v := ?_) (a' := ?_) (bm 9 63) rfl rfl (by kernel_rfl) (fun _ _ _ h => h) (Or.inl ⟨by rfl, ?_⟩) hHeld ?_ ?_
        rotate_left
        · rintro w' ⟨s0, s1⟩
          go_simp
          with_reducible rfl
        rotate_left
        · simp only [P4]; rfl
        refine last_ (i := 6) (N := some 73) (bm 9 127) rfl rfl (by kernel_rfl) (by decide) (fun K hK => ?_)
        refine goes_ Try.func75 (by kernel_rfl) rfl #[.slice A0 l0.length e0, .slice A1 l1.length e1, .int .u64 18446744073709551615] (by rfl) rfl rfl (by simp only [List.map_toArray, List.map_cons, List.map_nil]; rfl) ?_
        with_reducible refine (hd _ hokD hC0' hC1').mono ?_
        rintro e w3 ⟨hb3, A3, c3, hc3, rfl, hC3⟩
        refine ⟨_, rfl, ?_⟩
        refine hK.out _ _ ?_
        clear hK K
        refine norm_ (a' := ?_) ?_ ?_
        rotate_left
        · show Act.put _ (some 73) _ = _
          simp only [P4]
          rfl
        refine pure_ (i := 7) (N := some 4) (v := ?_) (a' := ?_) (bm 9 255) rfl rfl (by kernel_rfl) (fun _ _ _ h => h) (Or.inl ⟨by rfl, ?_⟩) ?_ ?_
        rotate_left
        · intro w'; go_simp; with_reducible rfl
        rotate_left
        · simp only [P4]; rfl
        refine pure_ (i := 8) (N := some 5) (v := ?_) (a' := ?_) (bm 9 511) rfl rfl (by kernel_rfl) (fun _ _ _ h => h) (Or.inl ⟨by rfl, ?_⟩) ?_ ?_
        rotate_left
        · intro w'; go_simp; with_reducible rfl
        rotate_left
        · simp only [P4]; rfl
        refine done_ (by kernel_rfl) ?_
        go_wp2
        go_ret2
        rw [hE3.out]
        exact ⟨below_then (below_drew hBr) (below_drew hBr).size hb3, A3, c3, hc3, rfl, hC3⟩
      by_cases o6 : op = 6
      · subst o6
        obtain ⟨rfl, rfl⟩ : kids = [1, 1] ∧ own = 1 := by have h := hos.out; simp [opSorts] at h; exact ⟨h.1.symm, h.2.symm⟩
        obtain ⟨p0, p1, rfl⟩ : ∃ p0 p1, ks = [p0, p1] := by have h := hkl.out; match ks, h with | [a, b], _ => exact ⟨a, b, rfl⟩
        obtain ⟨⟨A0, e0, l0⟩, ⟨A1, e1, l1⟩, g, cap, rfl, rfl, c0, c1⟩ := two_sums hdl' hown
        obtain ⟨hC0, hl0⟩ := hSm ⟨A0, e0, l0⟩ (by simp)
        obtain ⟨hC1, hl1⟩ := hSm ⟨A1, e1, l1⟩ (by simp)
        simp only at hC0 hC1 hl0 hl1 c0 c1
        obtain ⟨f0, f1⟩ : Fine v p0.size l0 ∧ Fine v p1.size l1 := fine_two hfine hpt.out
        have z0 := size_pos p0
        have z1 := size_pos p1
        have hz2 : p0.size + p1.size ≤ 24 := by simp [Pat.sizes] at hsz; omega
        have hE3 : Hid (rnorm v ⟨0, 6, imm, iv, [p0, p1]⟩ = some (prodL l0 l1)) := Lib.hid (by rw [E2.out]; rfl)
        obtain ⟨out, hout⟩ : ∃ out, out = prodL l0 l1 := ⟨_, rfl⟩
        have hd : ∀ W, (∀ k, W.heap.size ≤ k → w.heap.size ≤ k) → Kd.F kMono W (fun k => w.heap.size ≤ k) A0 l0.length l0 → Kd.F kMono W (fun k => w.heap.size ≤ k) A1 l1.length l1 → Calls Try.prog 76 #[.slice A0 l0.length e0, .slice A1 l1.length e1] W fun e w' => Below W.heap.size W w' ∧ ∃ A' c', out.length ≤ c' ∧ e = .returned (.slice A' out.length c') ∧ Kd.F kMono w' (fun k => w.heap.size ≤ k) A' out.length out := by
          subst hout
          exact fun W h0 h1 h2 => product_calls _ l0 l1 A0 A1 e0 e1 W h0 (Kd.F_now h1) hl0 (Kd.F_now h2) hl1 (two_prod hz2 z0 z1 f0.1 f1.1) v hv (fun x hx => (f0.2 x hx).1) (fun x hx => (f1.2 x hx).1) (fun x hx => (f0.2 x hx).2) (fun x hx => (f1.2 x hx).2)
        rw [← hout] at hE3
        clear hout E2 hos hkl hfine hSm hown hpt hdl' f0 f1 hszs
        have hC0' := Kd.F_mono (Kd.F_drew hC0) (fun k hk => hk.1)
        have hC1' := Kd.F_mono (Kd.F_drew hC1) (fun k hk => hk.1)
        have hokD : ∀ k, wr.drew.heap.size ≤ k → w.heap.size ≤ k := fun k hk => Nat.le_trans hBr.size hk
        go_wp2
        refine start_ (n := 9) (S := fun w' => w'.cell? ⟨g, 0, none⟩ = some (.slice A0 l0.length e0) ∧ w'.cell? ⟨g, 1, none⟩ = some (.slice A1 l1.length e1)) (ds := [6]) (bm 9 0) (by kernel_rfl) rfl rfl ⟨c0, c1⟩ (fun hHeld => ?_)
        refine pure_ (i := 0) (N := some 90) (v := ?_) (a' := ?_) (bm 9 1) rfl rfl (by kernel_rfl) (fun _ _ _ h => h) (Or.inl ⟨by rfl, ?_⟩) ?_ ?_
        rotate_left
        · intro w'; go_simp; with_reducible rfl
        rotate_left
        · simp only [P4]; rfl
        refine pure_ (i := 1) (N := some 91) (v := ?_) (a' := ?_) (bm 9 3) rfl rfl (by kernel_rfl) (fun _ _ _ h => h) (Or.inl ⟨by rfl, ?_⟩) ?_ ?_
        rotate_left
        · intro w'; go_simp; with_reducible rfl
        rotate_left
        · simp only [P4]; rfl
        refine pure_ (i := 3) (N := some 93) (v := ?_) (a' := ?_) (bm 9 11) rfl rfl (by kernel_rfl) (fun _ _ _ h => h) (Or.inl ⟨by rfl, ?_⟩) ?_ ?_
        rotate_left
        · intro w'; go_simp; with_reducible rfl
        rotate_left
        · simp only [P4]; rfl
        refine pure_ (i := 4) (N := some 94) (v := ?_) (a' := ?_) (bm 9 27) rfl rfl (by kernel_rfl) (fun _ _ _ h => h) (Or.inl ⟨by rfl, ?_⟩) ?_ ?_
        rotate_left
        · intro w'; go_simp; with_reducible rfl
        rotate_left
        · simp only [P4]; rfl
        refine take_ (i := 2) (N := some 92) (v := ?_) (a' := ?_) (bm 9 31) rfl rfl (by kernel_rfl) (fun _ _ _ h => h) (Or.inl ⟨by rfl, ?_⟩) hHeld ?_ ?_
        rotate_left
        · rintro w' ⟨s0, s1⟩
          go_simp
          with_reducible rfl
        rotate_left
        · simp only [P4]; rfl
        refine take_ (i := 5) (N := some 95) (v := ?_) (a' := ?_) (bm 9 63) rfl rfl (by kernel_rfl) (fun _ _ _ h => h) (Or.inl ⟨by rfl, ?_⟩) hHeld ?_ ?_
        rotate_left
        · rintro w' ⟨s0, s1⟩
          go_simp
          with_reducible rfl
        rotate_left
        · simp only [P4]; rfl
        refine last_ (i := 6) (N := some 96) (bm 9 127) rfl rfl (by kernel_rfl) (by decide) (fun K hK => ?_)
        refine goes_ Try.func76 (by kernel_rfl) rfl #[.slice A0 l0.length e0, .slice A1 l1.length e1] (by rfl) rfl rfl (by simp only [List.map_toArray, List.map_cons, List.map_nil]; rfl) ?_
        with_reducible refine (hd _ hokD hC0' hC1').mono ?_
        rintro e w3 ⟨hb3, A3, c3, hc3, rfl, hC3⟩
        refine ⟨_, rfl, ?_⟩
        refine hK.out _ _ ?_
        clear hK K
        refine norm_ (a' := ?_) ?_ ?_
        rotate_left
        · show Act.put _ (some 96) _ = _
          simp only [P4]
          rfl
        refine pure_ (i := 7) (N := some 4) (v := ?_) (a' := ?_) (bm 9 255) rfl rfl (by kernel_rfl) (fun _ _ _ h => h) (Or.inl ⟨by rfl, ?_⟩) ?_ ?_
        rotate_left
        · intro w'; go_simp; with_reducible rfl
        rotate_left
        · simp only [P4]; rfl
        refine pure_ (i := 8) (N := some 5) (v := ?_) (a' := ?_) (bm 9 511) rfl rfl (by kernel_rfl) (fun _ _ _ h => h) (Or.inl ⟨by rfl, ?_⟩) ?_ ?_
        rotate_left
        · intro w'; go_simp; with_reducible rfl
        rotate_left
        · simp only [P4]; rfl
        refine done_ (by kernel_rfl) ?_
        go_wp2
        go_ret2
        rw [hE3.out]
        exact ⟨below_then (below_drew hBr) (below_drew hBr).size hb3, A3, c3, hc3, rfl, hC3⟩
      by_cases o20 : op = 20
      · subst o20
        obtain ⟨rfl, rfl⟩ : kids = [1] ∧ own = 1 := by have h := hos.out; simp [opSorts] at h; exact ⟨h.1.symm, h.2.symm⟩
        obtain ⟨p0, rfl⟩ : ∃ p0, ks = [p0] := by have h := hkl.out; match ks, h with | [a], _ => exact ⟨a, rfl⟩
        obtain ⟨⟨A0, e0, l0⟩, g, cap, rfl, rfl, c0⟩ := one_sum hdl' hown
        obtain ⟨hC0, hl0⟩ := hSm ⟨A0, e0, l0⟩ (by simp)
        simp only at hC0 hl0 c0
        have f0 : Fine v p0.size l0 := hfine p0 (by simp) l0 (rnorms_one hpt.out)
        have hz2 : p0.size ≤ 24 := by simp [Pat.sizes] at hsz; omega
        have hE3 : Hid (rnorm v ⟨0, 20, imm, iv, [p0]⟩ = some (addMul 18446744073709551615 [] l0)) := Lib.hid (by rw [E2.out]; rfl)
        obtain ⟨out, hout⟩ : ∃ out, out = addMul 18446744073709551615 [] l0 := ⟨_, rfl⟩
        have hd : ∀ W, (∀ k, W.heap.size ≤ k → w.heap.size ≤ k) → Kd.F kMono W (fun k => w.heap.size ≤ k) A0 l0.length l0 → Calls Try.prog 75 #[.slice none 0 0, .slice A0 l0.length e0, .int .u64 18446744073709551615] W fun e w' => Below W.heap.size W w' ∧ ∃ A' c', out.length ≤ c' ∧ e = .returned (.slice A' out.length c') ∧ Kd.F kMono w' (fun k => w.heap.size ≤ k) A' out.length out := by
          subst hout
          exact fun W h0 h2 => addMultiple_calls _ [] l0 18446744073709551615 none A0 0 e0 W h0 (Kd.F_nil _ _ _) (Nat.le_refl _) h2 hl0 (by have := one_small hz2 f0.1; simp; omega) v (by simp) (fun x hx => (f0.2 x hx).1)
        rw [← hout] at hE3
        clear hout E2 hos hkl hfine hSm hown hpt hdl' f0 hszs
        have hC0' := Kd.F_mono hC0 (fun k hk => hk.1)
        have hokD : ∀ k, wr.heap.size ≤ k → w.heap.size ≤ k := fun k hk => Nat.le_trans hBr.size hk
        go_wp2_with fail
        refine (hd _ hokD hC0').mono ?_
        rintro e w3 ⟨hb3, A3, c3, hc3, rfl, hC3⟩
        go_wp2
        go_ret2
        rw [hE3.out]
        exact ⟨below_then hBr hBr.size hb3, A3, c3, hc3, rfl, hC3⟩
      by_cases o21 : op = 21
      · subst o21
        obtain ⟨rfl, rfl⟩ : kids = [1] ∧ own = 1 := by have h := hos.out; simp [opSorts] at h; exact ⟨h.1.symm, h.2.symm⟩
        obtain ⟨p0, rfl⟩ : ∃ p0, ks = [p0] := by have h := hkl.out; match ks, h with | [a], _ => exact ⟨a, rfl⟩
        obtain ⟨⟨A0, e0, l0⟩, g, cap, rfl, rfl, c0⟩ := one_sum hdl' hown
        obtain ⟨hC0, hl0⟩ := hSm ⟨A0, e0, l0⟩ (by simp)
        simp only at hC0 hl0 c0
        have f0 : Fine v p0.size l0 := hfine p0 (by simp) l0 (rnorms_one hpt.out)
        have hz2 : p0.size ≤ 24 := by simp [Pat.sizes] at hsz; omega
        obtain ⟨one, hone⟩ : ∃ one, one = addT ⟨List.replicate v 0, 18446744073709551615⟩ [] := ⟨_, rfl⟩
        have hE3 : Hid (rnorm v ⟨0, 21, imm, iv, [p0]⟩ = some (addMul 18446744073709551615 one l0)) := Lib.hid (by rw [E2.out, hone]; rfl)
        have h1l : one.length ≤ 1 := by rw [hone]; exact addT_length _ []
        have h1v : ∀ x ∈ one, x.exps.length = v := by rw [hone]; exact fun x hx => (mem_addT hx).elim (fun e => by rw [e]; simp) (fun h => by cases h)
        obtain ⟨out, hout⟩ : ∃ out, out = addMul 18446744073709551615 one l0 := ⟨_, rfl⟩
        have cst : ∀ W, (∀ k, W.heap.size ≤ k → w.heap.size ≤ k) → Calls Try.prog 74 #[.int .u64 18446744073709551615, .int .i64 v] W fun e w' => Below W.heap.size W w' ∧ ∃ A' c', one.length ≤ c' ∧ e = .returned (.slice A' one.length c') ∧ Kd.F kMono w' (fun k => w.heap.size ≤ k) A' one.length one := by
          subst hone
          exact fun W h0 => refConstant_calls _ 18446744073709551615 v hv W h0
        have hd : ∀ W A1 e1, one.length ≤ e1 → (∀ k, W.heap.size ≤ k → w.heap.size ≤ k) → Kd.F kMono W (fun k => w.heap.size ≤ k) A1 one.length one → Kd.F kMono W (fun k => w.heap.size ≤ k) A0 l0.length l0 → Calls Try.prog 75 #[.slice A1 one.length e1, .slice A0 l0.length e0, .int .u64 18446744073709551615] W fun e w' => Below W.heap.size W w' ∧ ∃ A' c', out.length ≤ c' ∧ e = .returned (.slice A' out.length c') ∧ Kd.F kMono w' (fun k => w.heap.size ≤ k) A' out.length out := by
          subst hout
          exact fun W A1 e1 hle h0 h1 h2 => addMultiple_calls _ one l0 18446744073709551615 A1 A0 e1 e0 W h0 h1 hle h2 hl0 (by have := one_small hz2 f0.1; omega) v h1v (fun x hx => (f0.2 x hx).1)
        rw [← hout] at hE3
        clear hout hone E2 hos hkl hfine hSm hown hpt hdl' f0 hszs
        have hC0' := Kd.F_mono (Kd.F_drew hC0) (fun k hk => hk.1)
        have hokD : ∀ k, wr.drew.heap.size ≤ k → w.heap.size ≤ k := fun k hk => Nat.le_trans hBr.size hk
        go_wp2
        refine start_ (n := 8) (S := fun w' => w'.cell? ⟨g, 0, none⟩ = some (.slice A0 l0.length e0)) (ds := [5]) (bm 8 0) (by kernel_rfl) rfl rfl (c0) (fun hHeld => ?_)
        refine pure_ (i := 0) (N := some 82) (v := ?_) (a' := ?_) (bm 8 1) rfl rfl (by kernel_rfl) (fun _ _ _ h => h) (Or.inl ⟨by rfl, ?_⟩) ?_ ?_
        rotate_left
        · intro w'; go_simp; with_reducible rfl
        rotate_left
        · simp only [P4]; rfl
        refine pure_ (i := 2) (N := some 84) (v := ?_) (a' := ?_) (bm 8 5) rfl rfl (by kernel_rfl) (fun _ _ _ h => h) (Or.inl ⟨by rfl, ?_⟩) ?_ ?_
        rotate_left
        · intro w'; go_simp; with_reducible rfl
        rotate_left
        · simp only [P4]; rfl
        refine pure_ (i := 3) (N := some 85) (v := ?_) (a' := ?_) (bm 8 13) rfl rfl (by kernel_rfl) (fun _ _ _ h => h) (Or.inl ⟨by rfl, ?_⟩) ?_ ?_
        rotate_left
        · intro w'; go_simp; with_reducible rfl
        rotate_left
        · simp only [P4]; rfl
        refine take_ (i := 4) (N := some 86) (v := ?_) (a' := ?_) (bm 8 29) rfl rfl (by kernel_rfl) (fun _ _ _ h => h) (Or.inl ⟨by rfl, ?_⟩) hHeld ?_ ?_
        rotate_left
        · intro w' s0
          go_simp
          with_reducible rfl
        rotate_left
        · simp only [P4]; rfl
        refine one_ (i := 1) (N := some 83) (bm 8 31) rfl rfl (by kernel_rfl) (by decide) (fun K hK => ?_)
        refine goes_ Try.func74 (by kernel_rfl) rfl #[.int .u64 18446744073709551615, .int .i64 v] (by rfl) rfl rfl (by simp only [List.map_toArray, List.map_cons, List.map_nil]; rfl) ?_
        with_reducible refine (cst _ hokD).mono ?_
        rintro e w2 ⟨hb2, A2, c2, hc2, rfl, hC2⟩
        refine ⟨_, rfl, ?_⟩
        refine hK.out _ _ (pw_cell_below hb2 c0) (fun hHeld => ?_)
        clear hK K
        refine norm_ (a' := ?_) ?_ ?_
        rotate_left
        · show Act.put _ (some 83) _ = _
          simp only [P4]
          rfl
        refine last_ (i := 5) (N := some 87) (bm 8 63) rfl rfl (by kernel_rfl) (by decide) (fun K hK => ?_)
        refine goes_ Try.func75 (by kernel_rfl) rfl #[.slice A2 one.length c2, .slice A0 l0.length e0, .int .u64 18446744073709551615] (by rfl) rfl rfl (by simp only [List.map_toArray, List.map_cons, List.map_nil]; rfl) ?_
        with_reducible refine (hd _ A2 c2 hc2 (fun k hk => hokD k (Nat.le_trans hb2.size hk)) hC2 (Kd.F_below hC0' hb2)).mono ?_
        rintro e w3 ⟨hb3, A3, c3, hc3, rfl, hC3⟩
        refine ⟨_, rfl, ?_⟩
        refine hK.out _ _ ?_
        clear hK K
        refine norm_ (a' := ?_) ?_ ?_
        rotate_left
        · show Act.put _ (some 87) _ = _
          simp only [P4]
          rfl
        refine pure_ (i := 6) (N := some 4) (v := ?_) (a' := ?_) (bm 8 127) rfl rfl (by kernel_rfl) (fun _ _ _ h => h) (Or.inl ⟨by rfl, ?_⟩) ?_ ?_
        rotate_left
        · intro w'; go_simp; with_reducible rfl
        rotate_left
        · simp only [P4]; rfl
        refine pure_ (i := 7) (N := some 5) (v := ?_) (a' := ?_) (bm 8 255) rfl rfl (by kernel_rfl) (fun _ _ _ h => h) (Or.inl ⟨by rfl, ?_⟩) ?_ ?_
        rotate_left
        · intro w'; go_simp; with_reducible rfl
        rotate_left
        · simp only [P4]; rfl
        refine done_ (by kernel_rfl) ?_
        go_wp2
        go_ret2
        rw [hE3.out]
        have hB2 := below_then (below_drew hBr) (below_drew hBr).size hb2
        exact ⟨below_then hB2 hB2.size hb3, A3, c3, hc3, rfl, hC3⟩
      by_cases o1 : op = 1
      · subst o1
        obtain ⟨rfl, rfl⟩ : kids = [] ∧ own = 1 := by have h := hos.out; simp [opSorts] at h; exact ⟨h.1, h.2.symm⟩
        obtain rfl : ks = [] := List.length_eq_zero_iff.1 hkl.out
        have hE3 : Hid (rnorm v ⟨0, 1, imm, iv, []⟩ = some (addT ⟨List.replicate v 0, IntKind.u64.wrap imm⟩ [])) := Lib.hid (by rw [E2.out, modwrap]; rfl)
        obtain ⟨out, hout⟩ : ∃ out, out = addT ⟨List.replicate v 0, IntKind.u64.wrap imm⟩ [] := ⟨_, rfl⟩
        have cst : ∀ W, (∀ k, W.heap.size ≤ k → w.heap.size ≤ k) → Calls Try.prog 74 #[.int .u64 (IntKind.u64.wrap imm), .int .i64 v] W fun e w' => Below W.heap.size W w' ∧ ∃ A' c', out.length ≤ c' ∧ e = .returned (.slice A' out.length c') ∧ Kd.F kMono w' (fun k => w.heap.size ≤ k) A' out.length out := by
          subst hout
          exact fun W h0 => refConstant_calls _ (IntKind.u64.wrap imm) v hv W h0
        rw [← hout] at hE3
        have hokD : ∀ k, wr.heap.size ≤ k → w.heap.size ≤ k := fun k hk => Nat.le_trans hBr.size hk
        clear hout E2 hos hkl hfine hSm hown hpt hdl' hszs
        go_wp2_with fail
        refine (cst _ hokD).mono ?_
        rintro e w3 ⟨hb3, A3, c3, hc3, rfl, hC3⟩
        go_wp2
        go_ret2
        rw [hE3.out]
        exact ⟨below_then hBr hBr.size hb3, A3, c3, hc3, rfl, hC3⟩
      by_cases o12 : op = 12
      · subst o12
        obtain ⟨rfl, rfl⟩ : kids = [1, 1] ∧ own = 1 := by have h := hos.out; simp [opSorts] at h; exact ⟨h.1.symm, h.2.symm⟩
        obtain ⟨p0, p1, rfl⟩ : ∃ p0 p1, ks = [p0, p1] := by have h := hkl.out; match ks, h with | [a, b], _ => exact ⟨a, b, rfl⟩
        obtain ⟨⟨A0, e0, l0⟩, ⟨A1, e1, l1⟩, g, cap, rfl, rfl, c0, c1⟩ := two_sums hdl' hown
        obtain ⟨hC0, hl0⟩ := hSm ⟨A0, e0, l0⟩ (by simp)
        simp only at hC0 hl0 c0 c1
        obtain ⟨f0, f1⟩ : Fine v p0.size l0 ∧ Fine v p1.size l1 := fine_two hfine hpt.out
        have z1 := size_pos p1
        have hz2 : p0.size ≤ 24 := by simp [Pat.sizes] at hsz; omega
        obtain ⟨ad, A5, c5, rfl, q0, q1, q2, q3, q4, hlb, hCb⟩ := atN_Pat hr (k := 1) (x := p1) rfl
        simp only [Nat.one_mul, add_blk, add_off] at q1 q2
        replace q1 := pw_cell_below hBr q1
        replace q2 := pw_cell_below hBr q2
        have hbt := bits_and63 p1.imm
        have hb64 : 0 ≤ p1.imm % 64 ∧ p1.imm % 64 < 64 := by omega
        clear q0 q3 q4 hCb
        by_cases hb1 : p1.op = 1
        · have hE3 : Hid (rnorm v ⟨0, 12, imm, iv, [p0, p1]⟩ = some (addMul (2 ^ (p1.imm % 64).toNat) [] l0)) := Lib.hid (by rw [E2.out]; simp [rop, hb1])
          obtain ⟨out, hout⟩ : ∃ out, out = addMul (2 ^ (p1.imm % 64).toNat) [] l0 := ⟨_, rfl⟩
          have hd : ∀ W, (∀ k, W.heap.size ≤ k → w.heap.size ≤ k) → Kd.F kMono W (fun k => w.heap.size ≤ k) A0 l0.length l0 → Calls Try.prog 75 #[.slice none 0 0, .slice A0 l0.length e0, .int .u64 (IntKind.u64.wrap (2 ^ min (IntKind.u64.wrap (p1.imm % 64)).toNat 64))] W fun e w' => Below W.heap.size W w' ∧ ∃ A' c', out.length ≤ c' ∧ e = .returned (.slice A' out.length c') ∧ Kd.F kMono w' (fun k => w.heap.size ≤ k) A' out.length out := by
            subst hout
            have hsh : IntKind.u64.wrap (2 ^ min (IntKind.u64.wrap (p1.imm % 64)).toNat 64) = 2 ^ (p1.imm % 64).toNat := by
              have h1 : IntKind.u64.wrap (p1.imm % 64) = p1.imm % 64 := by rw [modwrap]; omega
              rw [h1, show min (p1.imm % 64).toNat 64 = (p1.imm % 64).toNat by omega, wrap_pow _ (by omega)]
            rw [hsh]
            exact fun W h0 h2 => addMultiple_calls _ [] l0 _ none A0 0 e0 W h0 (Kd.F_nil _ _ _) (Nat.le_refl _) h2 hl0 (by have := one_small hz2 f0.1; simp; omega) v (by simp) (fun x hx => (f0.2 x hx).1)
          rw [← hout] at hE3
          have e1' : (p1.op == 1) = true := by simp [hb1]
          clear hout E2 hos hkl hfine hSm hown hpt hdl' f0 f1 hszs hb1
          have hC0' := Kd.F_mono (Kd.F_drew hC0) (fun k hk => hk.1)
          have hokD : ∀ k, wr.drew.heap.size ≤ k → w.heap.size ≤ k := fun k hk => Nat.le_trans hBr.size hk
          go_wp2
          refine start_ (n := 14) (S := fun w' => w'.cell? ⟨g, 0, none⟩ = some (.slice A0 l0.length e0) ∧ w'.cell? ⟨w.heap.size, 4, none⟩ = some (.slice (some ad) 2 c) ∧ w'.cell? ⟨ad.block, ad.off + 5 + 2, none⟩ = some (.int .i64 p1.imm)) (ds := [11]) (bm 14 0) (by kernel_rfl) rfl rfl ⟨c0, b4, q2⟩ (fun hHeld => ?_)
          refine pure_ (i := 0) (N := some 105) (v := ?_) (a' := ?_) (bm 14 1) rfl rfl (by kernel_rfl) (fun _ _ _ h => h) (Or.inl ⟨by rfl, ?_⟩) ?_ ?_
          rotate_left
          · intro w'; go_simp; with_reducible rfl
          rotate_left
          · simp only [P4]; rfl
          refine pure_ (i := 1) (N := some 106) (v := ?_) (a' := ?_) (bm 14 3) rfl rfl (by kernel_rfl) (fun _ _ _ h => h) (Or.inl ⟨by rfl, ?_⟩) ?_ ?_
          rotate_left
          · intro w'; go_simp; with_reducible rfl
          rotate_left
          · simp only [P4]; rfl
          refine pure_ (i := 3) (N := some 108) (v := ?_) (a' := ?_) (bm 14 11) rfl rfl (by kernel_rfl) (fun _ _ _ h => h) (Or.inl ⟨by rfl, ?_⟩) ?_ ?_
          rotate_left
          · intro w'; go_simp; with_reducible rfl
          rotate_left
          · simp only [P4]; rfl
          refine take_ (i := 2) (N := some 107) (v := ?_) (a' := ?_) (bm 14 15) rfl rfl (by kernel_rfl) (fun _ _ _ h => h) (Or.inl ⟨by rfl, ?_⟩) hHeld ?_ ?_
          rotate_left
          · rintro w' ⟨s0, s1, s2⟩
            go_simp
            with_reducible rfl
          rotate_left
          · simp only [P4]; rfl
          refine take_ (i := 4) (N := some 109) (v := ?_) (a' := ?_) (bm 14 31) rfl rfl (by kernel_rfl) (fun _ _ _ h => h) (Or.inl ⟨by rfl, ?_⟩) hHeld ?_ ?_
          rotate_left
          · rintro w' ⟨s0, s1, s2⟩
            go_simp
            with_reducible rfl
          rotate_left
          · simp only [P4]; rfl
          refine pure_ (i := 5) (N := some 110) (v := ?_) (a' := ?_) (bm 14 63) rfl rfl (by kernel_rfl) (fun _ _ _ h => h) (Or.inl ⟨by rfl, ?_⟩) ?_ ?_
          rotate_left
          · intro w'; go_simp; with_reducible rfl
          rotate_left
          · simp only [P4]; rfl
          refine pure_ (i := 6) (N := some 111) (v := ?_) (a' := ?_) (bm 14 127) rfl rfl (by kernel_rfl) (fun _ _ _ h => h) (Or.inl ⟨by rfl, ?_⟩) ?_ ?_
          rotate_left
          · intro w'; go_simp; with_reducible rfl
          rotate_left
          · simp only [P4]; rfl
          refine take_ (i := 7) (N := some 112) (v := ?_) (a' := ?_) (bm 14 255) rfl rfl (by kernel_rfl) (fun _ _ _ h => h) (Or.inl ⟨by rfl, ?_⟩) hHeld ?_ ?_
          rotate_left
          · rintro w' ⟨s0, s1, s2⟩
            go_simp
            with_reducible rfl
          rotate_left
          · simp only [P4]; rfl
          refine pure_ (i := 8) (N := some 113) (v := ?_) (a' := ?_) (bm 14 511) rfl rfl (by kernel_rfl) (fun _ _ _ h => h) (Or.inl ⟨by rfl, ?_⟩) ?_ ?_
          rotate_left
          · intro w'; go_simp; with_reducible rfl
          rotate_left
          · simp only [P4]; rfl
          refine pure_ (i := 9) (N := some 114) (v := ?_) (a' := ?_) (bm 14 1023) rfl rfl (by kernel_rfl) (fun _ _ _ h => h) (Or.inl ⟨by rfl, ?_⟩) ?_ ?_
          rotate_left
          · intro w'; go_simp; with_reducible rfl
          rotate_left
          · simp only [P4]; rfl
          refine pure_ (i := 10) (N := some 115) (v := ?_) (a' := ?_) (bm 14 2047) rfl rfl (by kernel_rfl) (fun _ _ _ h => h) (Or.inl ⟨by rfl, ?_⟩) ?_ ?_
          rotate_left
          · intro w'; go_simp; with_reducible rfl
          rotate_left
          · simp only [P4]; rfl
          refine last_ (i := 11) (N := some 116) (bm 14 4095) rfl rfl (by kernel_rfl) (by decide) (fun K hK => ?_)
          refine goes_ Try.func75 (by kernel_rfl) rfl #[.slice none 0 0, .slice A0 l0.length e0, .int .u64 (IntKind.u64.wrap (2 ^ min (IntKind.u64.wrap (p1.imm % 64)).toNat 64))] (by rfl) rfl rfl (by simp only [List.map_toArray, List.map_cons, List.map_nil]; rfl) ?_
          with_reducible refine (hd _ hokD hC0').mono ?_
          rintro e w3 ⟨hb3, A3, c3, hc3, rfl, hC3⟩
          refine ⟨_, rfl, ?_⟩
          refine hK.out _ _ ?_
          clear hK K
          refine norm_ (a' := ?_) ?_ ?_
          rotate_left
          · show Act.put _ (some 116) _ = _
            simp only [P4]
            rfl
          refine pure_ (i := 12) (N := some 4) (v := ?_) (a' := ?_) (bm 14 8191) rfl rfl (by kernel_rfl) (fun _ _ _ h => h) (Or.inl ⟨by rfl, ?_⟩) ?_ ?_
          rotate_left
          · intro w'; go_simp; with_reducible rfl
          rotate_left
          · simp only [P4]; rfl
          refine pure_ (i := 13) (N := some 5) (v := ?_) (a' := ?_) (bm 14 16383) rfl rfl (by kernel_rfl) (fun _ _ _ h => h) (Or.inl ⟨by rfl, ?_⟩) ?_ ?_
          rotate_left
          · intro w'; go_simp; with_reducible rfl
          rotate_left
          · simp only [P4]; rfl
          refine done_ (by kernel_rfl) ?_
          go_wp2
          go_ret2
          rw [hE3.out]
          exact ⟨below_then (below_drew hBr) (below_drew hBr).size hb3, A3, c3, hc3, rfl, hC3⟩
        · have hE3 : Hid (rnorm v ⟨0, 12, imm, iv, [p0, p1]⟩ = none) := Lib.hid (by rw [E2.out]; simp [rop, hb1])
          have e1' := beq_no hb1
          clear E2 hos hkl hfine hSm hown hpt hdl' f0 f1 hszs hb1
          go_wp2
          go_ret2
          rw [hE3.out]
          exact ⟨hBr, rfl⟩
      have o1' := beq_no o1
      have o4' := beq_no o4
      have o5' := beq_no o5
      have o6' := beq_no o6
      have o12' := beq_no o12
      have o20' := beq_no o20
      have o21' := beq_no o21
      have hE3 : Hid (rnorm v ⟨0, op, imm, iv, ks⟩ = none) := Lib.hid (by rw [E2.out]; simp [rop, o1, o4, o5, o6, o12, o20, o21])
      clear o1 o4 o5 o6 o12 o20 o21
      go_wp2
      go_ret2
      rw [hE3.out]
      exact ⟨hBr, rfl⟩
end Go.Proofs.Ytmdahjmkfipdfaa
