/- walks: fullingref18.Evaluate, fullinglaw18.term -/
import Derived.Test.YtmdahjmkfipdfaaEv1
import Derived.Test.YtmdahjmkfipdfaaRef1
namespace Go.Proofs.Ytmdahjmkfipdfaa
set_option linter.unusedVariables false
set_option linter.unusedSimpArgs false
open Go.RowKit Go.Proofs.YtmdahjmkfipdfaaW.PrintWords Go.Proofs.YtmdahjmkfipdfaaW.PrintLast Go.Proofs.YtmdahjmkfipdfaaW.PrintMore
theorem infoI64 : (Try.prog.info? 2).map (fun i => (i.zero, i.size, i.bytes)) = some (some (.int .i64 0), 1, 8) := by kernel_rfl
theorem evalPs_snoc {inp : List Int} : ∀ {ps : List Pat} {ns : List Int} {q : Pat} {n : Int}, evalPs inp ps = some ns → evalP inp q = some n → evalPs inp (ps ++ [q]) = some (ns ++ [n])
  | [], ns, q, n, h, hq => by
    rw [evalPs] at h
    injection h with h
    subst h
    simp [evalPs, hq]
  | p :: ps, ns, q, n, h, hq => by
    rw [evalPs] at h
    rcases hp : evalP inp p with _ | t
    · rw [hp] at h; cases h
    · rw [hp] at h
      rcases hs : evalPs inp ps with _ | ts
      · rw [hs] at h; cases h
      · rw [hs] at h
        simp at h
        subst h
        have := evalPs_snoc hs hq
        rw [List.cons_append, evalPs, hp, this]
        rfl
theorem evalPs_none {inp : List Int} : ∀ {ks : List Pat} {k : Nat} {q : Pat}, ks[k]? = some q → evalP inp q = none → evalPs inp ks = none
  | [], _, _, h, _ => by simp at h
  | p :: ks, 0, q, h, hq => by simp at h; subst h; rw [evalPs, hq]; rfl
  | p :: ks, k + 1, q, h, hq => by
    rw [evalPs, evalPs_none (ks := ks) (k := k) (by simpa using h) hq]
    cases evalP inp p <;> rfl
theorem list1 {α : Type} {l : List α} (h : l.length = 1) : ∃ a, l = [a] := by match l, h with | [a], _ => exact ⟨a, rfl⟩
theorem list2 {α : Type} {l : List α} (h : l.length = 2) : ∃ a b, l = [a, b] := by match l, h with | [a, b], _ => exact ⟨a, b, rfl⟩
theorem list3 {α : Type} {l : List α} (h : l.length = 3) : ∃ a b c, l = [a, b, c] := by match l, h with | [a, b, c], _ => exact ⟨a, b, c, rfl⟩
def EvalR (w : World) (o : Option Int) (e : Ending) (w' : World) : Prop := e = .returned (.tuple #[.int .i64 (o.getD 0), .bool o.isSome]) ∧ Below w.heap.size w w'
def EvalC (inp : List Int) (p : Pat) : Prop := ∀ (A I : Option Addr) (c ci : Nat) (w : World), Kd.C kPat w A p.kids.length p.kids → p.kids.length ≤ c → (Kd.int .i64).C w I inp.length inp → inp.length ≤ ci →
  Calls Try.prog 20 #[.agg #[.int .i64 p.var, .int .i64 p.op, .int .i64 p.imm, .int .i64 p.immVar, .slice A p.kids.length c], .slice I inp.length ci] w (EvalR w (evalP inp p))
theorem nums_at {w : World} {base : Nat} {u : Value} {ns : List Int} (hp : 0 < ns.length) (ho : w.ownsRow base 2 1 u (nums .i64 ns).length (nums .i64 ns)) :
    ∃ g cap, u = .slice (some ⟨g, 0, none⟩) ns.length cap ∧ ∀ j n, ns[j]? = some n → w.cell? ⟨g, j, none⟩ = some (.int .i64 n) := by
  obtain ⟨g, cap, hu, hgb, hgl⟩ := ho.form (by simpa [nums] using hp)
  have hb : u.ownBlock = some g := by rw [hu]; rfl
  refine ⟨g, cap, by rw [hu]; simp [nums], fun j n hj => ?_⟩
  have e : (⟨g, 0, none⟩ : Addr).add j = ⟨g, j, none⟩ := by
    unfold Addr.add
    by_cases hj0 : j = 0
    · subst hj0; rfl
    · simp [hj0]
  rw [← e]
  exact ho.cells hb j (.int .i64 n) (by simp [nums, hj])
set_option maxHeartbeats 1000000 in
set_option maxRecDepth 100000 in
theorem eval_var (inp : List Int) (p : Pat) (h0 : 1 ≤ p.var) (h1 : p.var ≤ inp.length) : EvalC inp p := by
  intro A I c ci w hr hcl hI hic
  obtain ⟨var, op, imm, iv, ks⟩ := p
  simp only at h0 h1 hr hcl ⊢
  obtain ⟨n, rfl⟩ : ∃ n : Nat, var = (n : Int) + 1 := ⟨(var - 1).toNat, by omega⟩
  have hn : n < inp.length := by omega
  obtain ⟨x, hx⟩ : ∃ x, inp[n]? = some x := ⟨_, List.getElem?_eq_getElem hn⟩
  have E : Hid (evalP inp ⟨(n : Int) + 1, op, imm, iv, ks⟩ = some x) := Lib.hid (by
    rw [evalP, if_pos (by omega), show ((n : Int) + 1 - 1).toNat = n by omega, List.getD_eq_getElem?_getD, hx]; rfl)
  obtain ⟨ad, rfl, c0⟩ := atN_int hI hx
  have hmax := Kd.C_max hI
  have hW := fun ob => (Below.refl w.heap.size w).alloc (Nat.le_refl _) ob
  have c0' := fun ob => pw_cell_below (hW ob) c0
  clear hx
  go_enter Try.func20, Try.ntmps20
  go_wp2
  go_ret2
  rw [E.out]
  exact ⟨rfl, hW _⟩
set_option maxHeartbeats 4000000 in
set_option maxRecDepth 100000 in
theorem eval_op (inp : List Int) (p : Pat) (h0 : p.var = 0) (kids : List Int) (own : Int) (hos : opSorts p.op = some (kids, own)) (hkl : p.kids.length = kids.length) (ih : ∀ q ∈ p.kids, EvalC inp q) : EvalC inp p := by
  intro A I c ci w hr hcl hI hic
  have hk3 := opSorts_kids hos
  obtain ⟨var, op, imm, iv, ks⟩ := p
  simp only at h0 hos hkl ih hr hcl ⊢
  subst h0
  have E : Hid (evalP inp ⟨0, op, imm, iv, ks⟩ = (evalPs inp ks).bind (evalOp op imm iv)) := Lib.hid (by rw [evalP, if_neg (by omega)])
  have hmax := Kd.C_max hr
  replace hkl := Lib.hid hkl
  replace hos := Lib.hid hos
  go_enter Try.func20, Try.ntmps20
  go_wp2
  obtain ⟨wb, hwb⟩ : ∃ wb, wb = w.alloc (.cells #[.int .i64 0, .int .i64 op, .int .i64 imm, .int .i64 iv, .slice A ks.length c] 24) := ⟨_, rfl⟩
  have hwb' := Lib.hid hwb
  clear hwb
  have hBw : Below w.heap.size w wb := by rw [hwb'.out]; exact (Below.refl _ _).alloc (Nat.le_refl _) _
  have hbk : wb.heap[w.heap.size]? = some (.cells #[.int .i64 0, .int .i64 op, .int .i64 imm, .int .i64 iv, .slice A ks.length c] 24 (0, 0)) := by rw [hwb'.out]; exact blk_new w _
  go_loopw [7, 6] (fun v7 v6 wr => ∃ (k : Nat) (ns : List Int), k ≤ ks.length ∧ v7 = .int .i64 k ∧ wr.ownsRow wb.heap.size 2 1 v6 (nums .i64 ns).length (nums .i64 ns) ∧ Hid (ns.length = k) ∧ Hid (evalPs inp (ks.take k) = some ns) ∧ Below wb.heap.size wb wr)
    (fun v7 _ _ => ks.length - (intOf v7).toNat)
  case atStart => exact ⟨0, [], Nat.zero_le _, rfl, own_nil _ _ _ _, Lib.hid rfl, Lib.hid rfl, by rw [hwb'.out]; exact Below.refl _ _⟩
  case round =>
    obtain ⟨k, ns, hk, rfl, hown, hdl, hpt, hB⟩ := hrel
    have hBr := below_then hBw hBw.size hB
    have hb0 := fun j => (blk_cell (blk_below hbk hB) j)
    have b1 := (hb0 1).trans rfl
    have b2 := (hb0 2).trans rfl
    have b3 := (hb0 3).trans rfl
    have b4 := (hb0 4).trans rfl
    clear hb0
    by_cases hlt : k < ks.length
    · obtain ⟨q, hq⟩ : ∃ q, ks[k]? = some q := ⟨_, List.getElem?_eq_getElem hlt⟩
      obtain ⟨ad, A4, c4, rfl, a0, a1, a2, a3, a4, hl, hC⟩ := atN_Pat hr hq
      replace a0 := pw_cell_below hBr a0
      replace a1 := pw_cell_below hBr a1
      replace a2 := pw_cell_below hBr a2
      replace a3 := pw_cell_below hBr a3
      replace a4 := pw_cell_below hBr a4
      have hq' := Lib.hid hq
      have ihq := fun W h h2 => ih q (List.mem_of_getElem? hq) A4 I c4 ci W h hl h2 hic
      clear hq
      rcases hpq : evalP inp q with _ | n
      · rw [hpq] at ihq
        have E2 : Hid (evalP inp ⟨0, op, imm, iv, ks⟩ = none) := Lib.hid (by rw [E.out, evalPs_none hq'.out hpq]; rfl)
        clear E hpq
        go_wp2_with fail
        refine (ihq _ (Kd.C_below hC hBr) (Kd.C_below hI hBr)).mono ?_
        rintro e w1 ⟨rfl, hb⟩
        go_wp2
        go_ret2
        rw [E2.out]
        exact ⟨rfl, below_then hBr hBr.size hb⟩
      · rw [hpq] at ihq
        go_wp2_with fail
        refine (ihq _ (Kd.C_below hC hBr) (Kd.C_below hI hBr)).mono ?_
        rintro e w1 ⟨rfl, hb⟩
        have hB1 := below_then hB hB.size hb
        have hown1 := pw_own_below hown hb
        have hlen : (nums .i64 ns).length ≤ 3 := by simp [nums]; have := hdl.out; have := hkl.out; omega
        go_wp2_with (first
          | (at_builtin; (refine print_append wb.heap.size rfl _ _ 34 2 (.int .i64 0) 8 rfl Try.underlying34 infoI64 rfl (by decide) u6 (nums .i64 ns) (.int .i64 n) rfl rfl rfl hown1 hB1 hB1.size (by omega) ?_); intro v1 w2 hown2 hB2 hg2 hat2)
          | go_in)
        refine ⟨⟨k + 1, ns ++ [n], by omega, by go_num, ?_, Lib.hid (by simp [hdl.out]), Lib.hid ?_, hB2⟩, by simp [intOf]; omega⟩
        · have em : nums .i64 (ns ++ [n]) = nums .i64 ns ++ [.int .i64 n] := by simp [nums]
          rw [em]; exact hown2
        · rw [take_succ_of hq'.out]; exact evalPs_snoc hpt.out hpq
    · have ek : k = ks.length := by omega
      subst ek
      have hdl' : ns.length = ks.length := hdl.out
      rw [List.take_length] at hpt
      have E2 : Hid (evalP inp ⟨0, op, imm, iv, ks⟩ = evalOp op imm iv ns) := Lib.hid (by rw [E.out, hpt.out]; rfl)
      clear E ih hpt
      by_cases hiv : iv > 0
      · have E3 : Hid (evalP inp ⟨0, op, imm, iv, ks⟩ = none) := Lib.hid (by rw [E2.out, evalOp, if_pos hiv])
        go_wp2
        go_ret2
        rw [E3.out]
        exact ⟨rfl, hBr⟩
      by_cases o1 : op = 1
      · subst o1
        have E3 : Hid (evalP inp ⟨0, 1, imm, iv, ks⟩ = some imm) := Lib.hid (by rw [E2.out, evalOp, if_neg hiv, if_pos rfl])
        go_wp2
        go_ret2
        rw [E3.out]
        exact ⟨rfl, hBr⟩
      have o1' := beq_no o1
      by_cases o20 : op = 20 ∨ op = 21
      · have hk1 : ks.length = 1 := by
          have h := hos.out
          have h2 := hkl.out
          rcases o20 with rfl | rfl
          all_goals (simp [opSorts] at h; rw [h2, ← h.1]; rfl)
        obtain ⟨n0, rfl⟩ : ∃ n0, ns = [n0] := list1 (hdl'.trans hk1)
        obtain ⟨g, cap, rfl, hcells⟩ := nums_at (by simp) hown
        have c0 := hcells 0 n0 rfl
        have hun := fun W => Unary_calls op n0 o20 W
        have E3 : Hid (evalP inp ⟨0, op, imm, iv, ks⟩ = some (unW op n0)) := Lib.hid (by rw [E2.out, evalOp, if_neg hiv, if_neg o1, if_pos o20]; simp only [List.getD_cons_zero])
        clear E2 hown hcells hos hkl hdl hdl' hk1
        rcases o20 with rfl | rfl
        · go_wp2
          refine start_ (n := 8) (S := fun w' => w'.cell? ⟨w.heap.size, 1, none⟩ = some (.int .i64 20) ∧ w'.cell? ⟨g, 0, none⟩ = some (.int .i64 n0)) (ds := [5]) (bm 8 0) (by kernel_rfl) rfl rfl ⟨b1, c0⟩ (fun hHeld => ?_)
          refine pure_ (i := 0) (N := some 61) (v := ?_) (a' := ?_) (bm 8 1) rfl rfl (by kernel_rfl) (fun _ _ _ h => h) (Or.inl ⟨by rfl, ?_⟩) ?_ ?_
          rotate_left
          · intro w'; go_simp; with_reducible rfl
          rotate_left
          · simp only [P4]; rfl
          refine pure_ (i := 2) (N := some 63) (v := ?_) (a' := ?_) (bm 8 5) rfl rfl (by kernel_rfl) (fun _ _ _ h => h) (Or.inl ⟨by rfl, ?_⟩) ?_ ?_
          rotate_left
          · intro w'; go_simp; with_reducible rfl
          rotate_left
          · simp only [P4]; rfl
          refine pure_ (i := 3) (N := some 64) (v := ?_) (a' := ?_) (bm 8 13) rfl rfl (by kernel_rfl) (fun _ _ _ h => h) (Or.inl ⟨by rfl, ?_⟩) ?_ ?_
          rotate_left
          · intro w'; go_simp; with_reducible rfl
          rotate_left
          · simp only [P4]; rfl
          refine take_ (i := 1) (N := some 62) (v := ?_) (a' := ?_) (bm 8 15) rfl rfl (by kernel_rfl) (fun _ _ _ h => h) (Or.inl ⟨by rfl, ?_⟩) hHeld ?_ ?_
          rotate_left
          · rintro w' ⟨s0, s1⟩
            go_simp
            with_reducible rfl
          rotate_left
          · simp only [P4]; rfl
          refine take_ (i := 4) (N := some 65) (v := ?_) (a' := ?_) (bm 8 31) rfl rfl (by kernel_rfl) (fun _ _ _ h => h) (Or.inl ⟨by rfl, ?_⟩) hHeld ?_ ?_
          rotate_left
          · rintro w' ⟨s0, s1⟩
            go_simp
            with_reducible rfl
          rotate_left
          · simp only [P4]; rfl
          refine last_ (i := 5) (N := some 66) (bm 8 63) rfl rfl (by kernel_rfl) (by decide) (fun K hK => ?_)
          refine goes_ Try.func44 (by kernel_rfl) rfl #[.int .i64 20, .int .i64 n0] (by rfl) rfl rfl (by simp only [List.map_toArray, List.map_cons, List.map_nil]; rfl) ?_
          with_reducible refine (hun _).mono ?_
          rintro e w3 ⟨rfl, rfl⟩
          refine ⟨_, rfl, ?_⟩
          refine hK.out _ _ ?_
          clear hK K
          refine norm_ (a' := ?_) ?_ ?_
          rotate_left
          · show Act.put _ (some 66) _ = _
            simp only [P4]
            rfl
          refine pure_ (i := 6) (N := some 4) (v := ?_) (a' := ?_) (bm 8 127) rfl rfl (by kernel_rfl) (fun _ _ _ h => h) (Or.inl ⟨by rfl, ?_⟩) ?_ ?_
          rotate_left
          · intro w'; go_simp; with_reducible rfl
          rotate_left
          · simp only [P4]; rfl
          refine pure_ (i := 7) (N := some 5) (v := ?_) (a' := ?_) (bm 8 255) rfl rfl (by kernel_rfl) (fun _ _ _ h => h) (Or.inl ⟨by rfl, ?_⟩) ?_ ?_
          rotate_left
          · intro w'; go_simp; with_reducible rfl
          rotate_left
          · simp only [P4]; rfl
          refine done_ (by kernel_rfl) ?_
          go_wp2
          go_ret2
          rw [E3.out]
          exact ⟨rfl, below_drew hBr⟩
        · go_wp2
          refine start_ (n := 8) (S := fun w' => w'.cell? ⟨w.heap.size, 1, none⟩ = some (.int .i64 21) ∧ w'.cell? ⟨g, 0, none⟩ = some (.int .i64 n0)) (ds := [5]) (bm 8 0) (by kernel_rfl) rfl rfl ⟨b1, c0⟩ (fun hHeld => ?_)
          refine pure_ (i := 0) (N := some 61) (v := ?_) (a' := ?_) (bm 8 1) rfl rfl (by kernel_rfl) (fun _ _ _ h => h) (Or.inl ⟨by rfl, ?_⟩) ?_ ?_
          rotate_left
          · intro w'; go_simp; with_reducible rfl
          rotate_left
          · simp only [P4]; rfl
          refine pure_ (i := 2) (N := some 63) (v := ?_) (a' := ?_) (bm 8 5) rfl rfl (by kernel_rfl) (fun _ _ _ h => h) (Or.inl ⟨by rfl, ?_⟩) ?_ ?_
          rotate_left
          · intro w'; go_simp; with_reducible rfl
          rotate_left
          · simp only [P4]; rfl
          refine pure_ (i := 3) (N := some 64) (v := ?_) (a' := ?_) (bm 8 13) rfl rfl (by kernel_rfl) (fun _ _ _ h => h) (Or.inl ⟨by rfl, ?_⟩) ?_ ?_
          rotate_left
          · intro w'; go_simp; with_reducible rfl
          rotate_left
          · simp only [P4]; rfl
          refine take_ (i := 1) (N := some 62) (v := ?_) (a' := ?_) (bm 8 15) rfl rfl (by kernel_rfl) (fun _ _ _ h => h) (Or.inl ⟨by rfl, ?_⟩) hHeld ?_ ?_
          rotate_left
          · rintro w' ⟨s0, s1⟩
            go_simp
            with_reducible rfl
          rotate_left
          · simp only [P4]; rfl
          refine take_ (i := 4) (N := some 65) (v := ?_) (a' := ?_) (bm 8 31) rfl rfl (by kernel_rfl) (fun _ _ _ h => h) (Or.inl ⟨by rfl, ?_⟩) hHeld ?_ ?_
          rotate_left
          · rintro w' ⟨s0, s1⟩
            go_simp
            with_reducible rfl
          rotate_left
          · simp only [P4]; rfl
          refine last_ (i := 5) (N := some 66) (bm 8 63) rfl rfl (by kernel_rfl) (by decide) (fun K hK => ?_)
          refine goes_ Try.func44 (by kernel_rfl) rfl #[.int .i64 21, .int .i64 n0] (by rfl) rfl rfl (by simp only [List.map_toArray, List.map_cons, List.map_nil]; rfl) ?_
          with_reducible refine (hun _).mono ?_
          rintro e w3 ⟨rfl, rfl⟩
          refine ⟨_, rfl, ?_⟩
          refine hK.out _ _ ?_
          clear hK K
          refine norm_ (a' := ?_) ?_ ?_
          rotate_left
          · show Act.put _ (some 66) _ = _
            simp only [P4]
            rfl
          refine pure_ (i := 6) (N := some 4) (v := ?_) (a' := ?_) (bm 8 127) rfl rfl (by kernel_rfl) (fun _ _ _ h => h) (Or.inl ⟨by rfl, ?_⟩) ?_ ?_
          rotate_left
          · intro w'; go_simp; with_reducible rfl
          rotate_left
          · simp only [P4]; rfl
          refine pure_ (i := 7) (N := some 5) (v := ?_) (a' := ?_) (bm 8 255) rfl rfl (by kernel_rfl) (fun _ _ _ h => h) (Or.inl ⟨by rfl, ?_⟩) ?_ ?_
          rotate_left
          · intro w'; go_simp; with_reducible rfl
          rotate_left
          · simp only [P4]; rfl
          refine done_ (by kernel_rfl) ?_
          go_wp2
          go_ret2
          rw [E3.out]
          exact ⟨rfl, below_drew hBr⟩
      have o20' := beq_no (fun e => o20 (Or.inl e))
      have o21' := beq_no (fun e => o20 (Or.inr e))
      by_cases o4 : 4 ≤ op ∧ op ≤ 19
      · have hk2 : ks.length = 2 := by
          have h := hos.out
          have h2 := hkl.out
          unfold opSorts at h
          rw [if_neg (by omega), if_neg (by omega), if_neg (by omega), if_neg (by omega), if_neg (by omega), if_pos o4] at h
          injection h with h
          injection h with h _
          rw [h2, ← h]; rfl
        obtain ⟨n0, n1, rfl⟩ : ∃ n0 n1, ns = [n0, n1] := list2 (hdl'.trans hk2)
        obtain ⟨g, cap, rfl, hcells⟩ := nums_at (by simp) hown
        have c0 := hcells 0 n0 rfl
        have c1 := hcells 1 n1 rfl
        have hbin := fun W => Binary_calls op n0 n1 o4 W
        have E3 : Hid (evalP inp ⟨0, op, imm, iv, ks⟩ = some (binW op n0 n1)) := Lib.hid (by rw [E2.out, evalOp, if_neg hiv, if_neg o1, if_neg o20, if_pos o4]; simp only [List.getD_cons_zero, List.getD_cons_succ])
        obtain ⟨o4a, o4b⟩ := o4
        clear E2 hown hcells hos hkl hdl hdl' hk2 o20
        go_wp2
        refine start_ (n := 11) (S := fun w' => w'.cell? ⟨w.heap.size, 1, none⟩ = some (.int .i64 op) ∧ w'.cell? ⟨g, 0, none⟩ = some (.int .i64 n0) ∧ w'.cell? ⟨g, 1, none⟩ = some (.int .i64 n1)) (ds := [8]) (bm 11 0) (by kernel_rfl) rfl rfl ⟨b1, c0, c1⟩ (fun hHeld => ?_)
        refine pure_ (i := 0) (N := some 76) (v := ?_) (a' := ?_) (bm 11 1) rfl rfl (by kernel_rfl) (fun _ _ _ h => h) (Or.inl ⟨by rfl, ?_⟩) ?_ ?_
        rotate_left
        · intro w'; go_simp; with_reducible rfl
        rotate_left
        · simp only [P4]; rfl
        refine pure_ (i := 2) (N := some 78) (v := ?_) (a' := ?_) (bm 11 5) rfl rfl (by kernel_rfl) (fun _ _ _ h => h) (Or.inl ⟨by rfl, ?_⟩) ?_ ?_
        rotate_left
        · intro w'; go_simp; with_reducible rfl
        rotate_left
        · simp only [P4]; rfl
        refine pure_ (i := 3) (N := some 79) (v := ?_) (a' := ?_) (bm 11 13) rfl rfl (by kernel_rfl) (fun _ _ _ h => h) (Or.inl ⟨by rfl, ?_⟩) ?_ ?_
        rotate_left
        · intro w'; go_simp; with_reducible rfl
        rotate_left
        · simp only [P4]; rfl
        refine pure_ (i := 5) (N := some 81) (v := ?_) (a' := ?_) (bm 11 45) rfl rfl (by kernel_rfl) (fun _ _ _ h => h) (Or.inl ⟨by rfl, ?_⟩) ?_ ?_
        rotate_left
        · intro w'; go_simp; with_reducible rfl
        rotate_left
        · simp only [P4]; rfl
        refine pure_ (i := 6) (N := some 82) (v := ?_) (a' := ?_) (bm 11 109) rfl rfl (by kernel_rfl) (fun _ _ _ h => h) (Or.inl ⟨by rfl, ?_⟩) ?_ ?_
        rotate_left
        · intro w'; go_simp; with_reducible rfl
        rotate_left
        · simp only [P4]; rfl
        refine take_ (i := 1) (N := some 77) (v := ?_) (a' := ?_) (bm 11 111) rfl rfl (by kernel_rfl) (fun _ _ _ h => h) (Or.inl ⟨by rfl, ?_⟩) hHeld ?_ ?_
        rotate_left
        · rintro w' ⟨s0, s1, s2⟩
          go_simp
          with_reducible rfl
        rotate_left
        · simp only [P4]; rfl
        refine take_ (i := 4) (N := some 80) (v := ?_) (a' := ?_) (bm 11 127) rfl rfl (by kernel_rfl) (fun _ _ _ h => h) (Or.inl ⟨by rfl, ?_⟩) hHeld ?_ ?_
        rotate_left
        · rintro w' ⟨s0, s1, s2⟩
          go_simp
          with_reducible rfl
        rotate_left
        · simp only [P4]; rfl
        refine take_ (i := 7) (N := some 83) (v := ?_) (a' := ?_) (bm 11 255) rfl rfl (by kernel_rfl) (fun _ _ _ h => h) (Or.inl ⟨by rfl, ?_⟩) hHeld ?_ ?_
        rotate_left
        · rintro w' ⟨s0, s1, s2⟩
          go_simp
          with_reducible rfl
        rotate_left
        · simp only [P4]; rfl
        refine last_ (i := 8) (N := some 84) (bm 11 511) rfl rfl (by kernel_rfl) (by decide) (fun K hK => ?_)
        refine goes_ Try.func45 (by kernel_rfl) rfl #[.int .i64 op, .int .i64 n0, .int .i64 n1] (by rfl) rfl rfl (by simp only [List.map_toArray, List.map_cons, List.map_nil]; rfl) ?_
        with_reducible refine (hbin _).mono ?_
        rintro e w3 ⟨rfl, rfl⟩
        refine ⟨_, rfl, ?_⟩
        refine hK.out _ _ ?_
        clear hK K
        refine norm_ (a' := ?_) ?_ ?_
        rotate_left
        · show Act.put _ (some 84) _ = _
          simp only [P4]
          rfl
        refine pure_ (i := 9) (N := some 4) (v := ?_) (a' := ?_) (bm 11 1023) rfl rfl (by kernel_rfl) (fun _ _ _ h => h) (Or.inl ⟨by rfl, ?_⟩) ?_ ?_
        rotate_left
        · intro w'; go_simp; with_reducible rfl
        rotate_left
        · simp only [P4]; rfl
        refine pure_ (i := 10) (N := some 5) (v := ?_) (a' := ?_) (bm 11 2047) rfl rfl (by kernel_rfl) (fun _ _ _ h => h) (Or.inl ⟨by rfl, ?_⟩) ?_ ?_
        rotate_left
        · intro w'; go_simp; with_reducible rfl
        rotate_left
        · simp only [P4]; rfl
        refine done_ (by kernel_rfl) ?_
        go_wp2
        go_ret2
        rw [E3.out]
        exact ⟨rfl, below_drew hBr⟩
      by_cases o22 : op = 22
      · subst o22
        have hk2 : ks.length = 3 := by
          have h := hos.out
          have h2 := hkl.out
          simp [opSorts] at h; rw [h2, ← h.1]; rfl
        obtain ⟨n0, n1, n2, rfl⟩ : ∃ n0 n1 n2, ns = [n0, n1, n2] := list3 (hdl'.trans hk2)
        obtain ⟨g, cap, rfl, hcells⟩ := nums_at (by simp) hown
        have c0 := hcells 0 n0 rfl
        have c1 := hcells 1 n1 rfl
        have c2 := hcells 2 n2 rfl
        by_cases hn0 : n0 = 0
        · subst hn0
          have E3 : Hid (evalP inp ⟨0, 22, imm, iv, ks⟩ = some n2) := Lib.hid (by rw [E2.out, evalOp, if_neg hiv, if_neg o1, if_neg o20, if_neg o4, if_pos rfl, if_neg (by simp)]; simp only [List.getD_cons_zero, List.getD_cons_succ])
          clear E2 hown hcells hos hkl hdl hdl' hk2 o20 o4
          go_wp2
          go_ret2
          rw [E3.out]
          exact ⟨rfl, hBr⟩
        · have E3 : Hid (evalP inp ⟨0, 22, imm, iv, ks⟩ = some n1) := Lib.hid (by rw [E2.out, evalOp, if_neg hiv, if_neg o1, if_neg o20, if_neg o4, if_pos rfl, if_pos (by simpa using hn0)]; simp only [List.getD_cons_zero, List.getD_cons_succ])
          have hn0' : (n0 != 0) = true := by simpa using hn0
          clear E2 hown hcells hos hkl hdl hdl' hk2 o20 o4 hn0
          go_wp2
          go_ret2
          rw [E3.out]
          exact ⟨rfl, hBr⟩
      have E3 : Hid (evalP inp ⟨0, op, imm, iv, ks⟩ = none) := Lib.hid (by rw [E2.out, evalOp, if_neg hiv, if_neg o1, if_neg o20, if_neg o4, if_neg o22])
      have o22' := beq_no o22
      clear E2 hown hos hkl hdl hdl' o20 o22
      rcases (show op < 4 ∨ (4 ≤ op ∧ 19 < op) by omega) with h | ⟨h, h'⟩
      · clear o4
        go_wp2
        go_ret2
        rw [E3.out]
        exact ⟨rfl, hBr⟩
      · clear o4
        go_wp2
        go_ret2
        rw [E3.out]
        exact ⟨rfl, hBr⟩
theorem Evaluate_calls (inp : List Int) (v : Nat) (hv : v ≤ inp.length) : ∀ p : Pat, shape v p → EvalC inp p := by
  refine Pat.ind ?_
  intro p ih hs
  by_cases h0 : p.var = 0
  · obtain ⟨⟨kids, own, hos, hkl⟩, hsk⟩ : (∃ kids s, opSorts p.op = some (kids, s) ∧ p.kids.length = kids.length) ∧ shapes v p.kids := by
      obtain ⟨var, op, imm, iv, ks⟩ := p
      simp only at h0
      subst h0
      rw [shape, if_neg (by simp)] at hs
      exact hs
    exact eval_op inp p h0 kids own hos hkl (fun q hq => ih q hq (by
      obtain ⟨i, hi⟩ := List.getElem?_of_mem hq
      exact shapes_get hsk hi))
  · have hs' : 1 ≤ p.var ∧ p.var ≤ v := by
      obtain ⟨var, op, imm, iv, ks⟩ := p
      rw [shape, if_pos h0] at hs
      exact hs
    exact eval_var inp p hs'.1 (by omega)
/-! ### term -/
theorem evalE_snoc : ∀ {inp : List Int} {es : List Int} {i : Nat} {x e : Int}, inp[i]? = some x → es[i]? = some e → evalE (inp.take (i + 1)) (es.take (i + 1)) = evalE (inp.take i) (es.take i) * x ^ e.toNat
  | [], _, _, _, _, h, _ => by simp at h
  | _ :: _, [], _, _, _, _, h => by simp at h
  | y :: inp, d :: es, 0, x, e, h1, h2 => by
    simp at h1 h2
    subst h1 h2
    simp [evalE]
  | y :: inp, d :: es, i + 1, x, e, h1, h2 => by
    have ih := evalE_snoc (inp := inp) (es := es) (i := i) (x := x) (e := e) (by simpa using h1) (by simpa using h2)
    rw [List.take_succ_cons, List.take_succ_cons, List.take_succ_cons, List.take_succ_cons]
    simp only [evalE] at ih ⊢
    rw [ih, Int.mul_assoc]
theorem mul_step (P x : Int) (j : Nat) : IntKind.u64.wrap (P * x ^ j % 18446744073709551616 * IntKind.u64.wrap x) = P * x ^ (j + 1) % 18446744073709551616 := by
  rw [wrapU64, wrapU64, Int.pow_succ, ← Int.mul_assoc, Int.mul_emod, Int.emod_emod, Int.emod_emod, ← Int.mul_emod]
set_option maxHeartbeats 2000000 in
set_option maxRecDepth 100000 in
theorem term_calls (m : Mono) (inp : List Int) (B I : Option Addr) (d ci : Nat) (w : World) (hm : (Kd.int .i64).C w B m.exps.length m.exps) (hmd : m.exps.length ≤ d) (hI : (Kd.int .i64).C w I inp.length inp) (hic : inp.length ≤ ci)
    (hl : m.exps.length = inp.length) (he : ∀ e ∈ m.exps, 0 ≤ e ∧ e ≤ 24) (hco : m.coef % 18446744073709551616 = m.coef) :
    Calls Try.prog 19 #[.agg #[.slice B m.exps.length d, .int .u64 m.coef], .slice I inp.length ci] w fun e w' => e = .returned (.int .u64 (m.coef * evalE inp m.exps % 18446744073709551616)) ∧ Below w.heap.size w w' := by
  have hmax := Kd.C_max hm
  have hW := fun ob => (Below.refl w.heap.size w).alloc (Nat.le_refl _) ob
  replace hco := Lib.hid hco
  obtain ⟨es, hes⟩ : ∃ es, es = m.exps := ⟨_, rfl⟩
  obtain ⟨co, hcoe⟩ : ∃ co, co = m.coef := ⟨_, rfl⟩
  rw [← hes] at hm hmd hl he hmax ⊢
  rw [← hcoe] at hco ⊢
  clear hes hcoe
  go_enter Try.func19, Try.ntmps19
  go_wp2
  go_loopw [14, 5] (fun v14 v5 wr => ∃ (i : Nat), i ≤ es.length ∧ v14 = .int .i64 i ∧ v5 = .int .u64 (co * evalE (inp.take i) (es.take i) % 18446744073709551616) ∧ Below w.heap.size w wr)
    (fun v14 _ _ => es.length - (intOf v14).toNat)
  case atStart => exact ⟨0, Nat.zero_le _, rfl, by simp only [List.take_zero, evalE]; rw [Int.mul_one, hco.out], hW _⟩
  case round =>
    obtain ⟨i, hi, rfl, rfl, hB⟩ := hrel
    by_cases hlt : i < es.length
    · obtain ⟨e, hee⟩ : ∃ e, es[i]? = some e := ⟨_, List.getElem?_eq_getElem hlt⟩
      obtain ⟨x, hx⟩ : ∃ x, inp[i]? = some x := ⟨_, List.getElem?_eq_getElem (by omega)⟩
      have he0 := he e (List.mem_of_getElem? hee)
      obtain ⟨n, rfl⟩ := Int.eq_ofNat_of_zero_le he0.1
      obtain ⟨ed, rfl, c0⟩ := atN_int hm hee
      obtain ⟨xd, rfl, x0⟩ := atN_int hI hx
      replace c0 := pw_cell_below hB c0
      have hs := Lib.hid (evalE_snoc hx hee)
      have hix : i < inp.length := by omega
      have hmi := Kd.C_max hI
      obtain ⟨P, hP⟩ : ∃ P, P = co * evalE (inp.take i) (es.take i) := ⟨_, rfl⟩
      have hs2 := Lib.hid (show co * evalE (inp.take (i + 1)) (es.take (i + 1)) = P * x ^ n by rw [hs.out, hP, Int.mul_assoc]; rfl)
      rw [← hP]
      clear hee hx hP hs
      go_wp2
      obtain ⟨wo, rfl⟩ : ∃ wo : World, wo = wr := ⟨_, rfl⟩
      go_loopw [8, 5] (fun v8 v5 wr => ∃ (j : Nat), j ≤ n ∧ v8 = .int .i64 j ∧ v5 = .int .u64 (P * x ^ j % 18446744073709551616) ∧ Below w.heap.size w wr)
        (fun v8 _ _ => n - (intOf v8).toNat)
      case atStart => exact ⟨0, Nat.zero_le _, rfl, by rw [Int.pow_zero, Int.mul_one], hB⟩
      case round =>
        clear hB c0
        obtain ⟨j, hj, rfl, rfl, hB⟩ := hrel
        by_cases hlt2 : j < n
        · replace x0 := pw_cell_below hB x0
          have hst := mul_step P x j
          replace hst := Lib.hid hst
          have hj100 : j < 100 := by omega
          go_wp2
          go_roundw
          case rel => exact ⟨j + 1, by omega, by go_num, by rw [hst.out], hB⟩
          case measure => simp [intOf]; omega
        · have ej : j = n := by omega
          subst ej
          go_wp2
          go_roundw
          case rel => exact ⟨i + 1, by omega, by go_num, by rw [hs2.out], hB⟩
          case measure => simp [intOf]; omega
    · have ei : i = es.length := by omega
      subst ei
      have hE : Hid (evalE (inp.take es.length) (es.take es.length) = evalE inp es) := Lib.hid (by rw [List.take_length, List.take_of_length_le (Nat.le_of_eq hl.symm)])
      go_wp2
      go_ret
      rw [← hE.out]
      exact ⟨rfl, hB⟩
end Go.Proofs.Ytmdahjmkfipdfaa
