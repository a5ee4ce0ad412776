/- walks; walks: ir.Arity, pattern.operandSorts, hasImm, validImm -/
import Derived.Test.YtmdahjmkfipdfaaTypes
import Derived.Test.YtmdahjmkfipdfaaPure1
import Derived.Outline
import Derived.Lib.Hide
namespace Go.Proofs.Ytmdahjmkfipdfaa
set_option linter.unusedVariables false
set_option linter.unusedSimpArgs false
open Go.RowKit Go.Proofs.YtmdahjmkfipdfaaW.PrintWords Go.Proofs.YtmdahjmkfipdfaaW.PrintLast Go.Proofs.YtmdahjmkfipdfaaW.PrintMore
/-- An array of n Bools, by the bits of k. -/
def bm (n k : Nat) : Array Bool := ((List.range n).map k.testBit).toArray
theorem P4 : (∀ (a : Act) (d : Tmp) (v : Value), a.put (some d) v = { a with tmps := a.tmps.setIfInBounds d v }) ∧ (∀ (a : Act) (v : Value), a.put none v = a) ∧ (∀ (l : List Value) (i : Nat) (x : Value), l.toArray.setIfInBounds i x = (l.set i x).toArray) ∧
    (∀ (x y : Value) (l : List Value), (x :: l).set 0 y = y :: l) ∧ (∀ (x y : Value) (l : List Value) (n : Nat), (x :: l).set (n + 1) y = x :: l.set n y) ∧ (∀ n : Int, IntKind.i64.wrap n = wrap64 n) ∧ (∀ n : Int, IntKind.i32.wrap n = wrap32 n) :=
  ⟨fun _ _ _ => rfl, fun _ _ => rfl, fun _ _ _ => List.setIfInBounds_toArray .., fun _ _ _ => rfl, fun _ _ _ _ => rfl, i64_w, i32_w⟩
theorem wrap64_add (a b : Int) : wrap64 (wrap64 a + wrap64 b) = wrap64 (a + b) := by unfold wrap64; omega
set_option maxHeartbeats 1000000 in
set_option maxRecDepth 100000 in
theorem Size_calls : ∀ (p : Pat) (A : Option Addr) (c : Nat) (w : World) (hr : Kd.C kPat w A p.kids.length p.kids) (hc : p.kids.length ≤ c),
    Calls Try.prog 63 #[.agg #[.int .i64 p.var, .int .i64 p.op, .int .i64 p.imm, .int .i64 p.immVar, .slice A p.kids.length c]] w
      fun e w' => e = .returned (.int .i64 (wrap64 p.size)) ∧ Below w.heap.size w w' := by
  refine Pat.ind ?_
  intro p ih A c w hr hc
  have hmax := Kd.C_max hr
  go_enter Try.func63, Try.ntmps63
  go_wp2
  go_loopw [3, 9] (fun v3 v9 wr => ∃ k : Nat, k ≤ p.kids.length ∧ v9 = .int .i64 k ∧ v3 = .int .i64 (wrap64 (1 + Pat.sizes (p.kids.take k))) ∧ Below w.heap.size w wr)
    (fun _ v9 _ => p.kids.length - (intOf v9).toNat)
  case atStart => exact ⟨0, Nat.zero_le _, rfl, by simp [Pat.sizes, wrap64], (Below.refl _ _).alloc (Nat.le_refl _) _⟩
  case round =>
    obtain ⟨k, hk, rfl, rfl, hb⟩ := hrel
    by_cases hlt : k < p.kids.length
    · obtain ⟨q, hq⟩ : ∃ q, p.kids[k]? = some q := ⟨_, List.getElem?_eq_getElem hlt⟩
      obtain ⟨ad, A4, c4, rfl, h0, h1, h2, h3, h4, hl, hC⟩ := atN_Pat (Kd.C_below hr hb) hq
      have hs := Lib.hid (sizes_take_succ hq)
      have hm := Lib.hid (List.mem_of_getElem? hq)
      clear hq
      go_wp2_with fail
      refine (ih q hm.out _ _ _ (Kd.C_alloc hC _) hl).mono ?_
      rintro e w' ⟨rfl, hb2⟩
      go_wp2
      go_roundw
      case rel => exact ⟨k + 1, by omega, by go_num, by rw [hs.out, ← Int.add_assoc, wrap64_add], below_then (hb.alloc hb.size _) (by simp; have := hb.size; omega) hb2⟩
      case measure => simp [intOf]; omega
    · go_wp2
      go_ret
      have : k = p.kids.length := by omega
      subst this
      exact ⟨by rw [Pat.size_eq, List.take_length]; rfl, hb⟩
end Go.Proofs.Ytmdahjmkfipdfaa
namespace Go.Proofs.Ytmdahjmkfipdfaa
set_option linter.unusedVariables false
set_option linter.unusedSimpArgs false
open Go.RowKit Go.Proofs.YtmdahjmkfipdfaaW.PrintWords Go.Proofs.YtmdahjmkfipdfaaW.PrintLast Go.Proofs.YtmdahjmkfipdfaaW.PrintMore
theorem beq_no {a b : Int} (h : ¬ a = b) : (a == b) = false := by simpa using h
set_option maxHeartbeats 2000000 in
set_option maxRecDepth 100000 in
theorem irArity_calls (op : Int) (w : World) : Calls Try.prog 127 #[.int .i64 op] w
    fun e w' => e = .returned (.tuple #[.int .i64 (arity op).1, .bool (arity op).2]) ∧ w = w' := by
  by_cases h : op = 1 ∨ op = 2 ∨ op = 3 ∨ op = 26 ∨ op = 20 ∨ op = 21 ∨ op = 24 ∨ op = 25 ∨ op = 23 ∨ op = 27 ∨ op = 29 ∨ op = 22 ∨ op = 28 ∨ op = 30 ∨ op = 31
  · rcases h with rfl | rfl | rfl | rfl | rfl | rfl | rfl | rfl | rfl | rfl | rfl | rfl | rfl | rfl | rfl
    all_goals
      go_enter Try.func127, Try.ntmps127
      go_wp2
      go_ret2
      exact ⟨rfl, rfl⟩
  · simp only [not_or] at h
    obtain ⟨h1, h2, h3, h4, h5, h6, h7, h8, h9, h10, h11, h12, h13, h14, h15⟩ := h
    have E : Hid (arity op = if 4 ≤ op ∧ op ≤ 19 then (2, true) else (0, false)) := Lib.hid (by simp [arity, *])
    have e1 := beq_no h1; have e2 := beq_no h2; have e3 := beq_no h3; have e4 := beq_no h4; have e5 := beq_no h5; have e6 := beq_no h6
    have e7 := beq_no h7; have e8 := beq_no h8; have e9 := beq_no h9; have e10 := beq_no h10; have e11 := beq_no h11; have e12 := beq_no h12
    have e13 := beq_no h13; have e14 := beq_no h14; have e15 := beq_no h15
    by_cases a : 4 ≤ op
    · by_cases b : op ≤ 19
      · go_enter Try.func127, Try.ntmps127
        go_wp2
        go_ret2
        exact ⟨by rw [E.out, if_pos ⟨a, b⟩]; rfl, rfl⟩
      · go_enter Try.func127, Try.ntmps127
        go_wp2
        go_ret2
        exact ⟨by rw [E.out, if_neg (by omega)]; rfl, rfl⟩
    · go_enter Try.func127, Try.ntmps127
      go_wp2
      go_ret2
      exact ⟨by rw [E.out, if_neg (by omega)]; rfl, rfl⟩
set_option maxRecDepth 100000 in
theorem hasImm_calls (op : Int) (w : World) : Calls Try.prog 128 #[.int .i64 op] w
    fun e w' => e = .returned (.bool (hasImm op)) ∧ w = w' := by
  by_cases h : op = 1 ∨ op = 23 ∨ op = 27 ∨ op = 28
  · rcases h with rfl | rfl | rfl | rfl
    all_goals
      go_enter Try.func128, Try.ntmps128
      go_wp2
      go_ret
      exact ⟨rfl, rfl⟩
  · have E : Hid (hasImm op = false) := Lib.hid (by simp only [hasImm, h, decide_false])
    simp only [not_or] at h
    obtain ⟨h1, h2, h3, h4⟩ := h
    have e1 := beq_no h1; have e2 := beq_no h2; have e3 := beq_no h3; have e4 := beq_no h4
    go_enter Try.func128, Try.ntmps128
    go_wp2
    go_ret
    exact ⟨by rw [E.out]; rfl, rfl⟩
theorem R_lit' (k : IntKind) (w : World) (l : List Int) (e : TypeId) (hm : l.length ≤ 9223372036854775807) : (Kd.int k).R e (w.alloc (.cells (nums k l).toArray e)) w.heap.size (fun _ => True) (.slice (some ⟨w.heap.size, 0, none⟩) l.length l.length) l :=
  Kd.R_of_own (own_lit w w.heap.size e k l (Nat.le_refl _) hm) (fun _ _ => trivial)
/-- What operandSorts hands back: a slice that reads as the sorts, the operation's own sort, whether there is such an operation. -/
def SortsRes (w : World) (o : Option (List Int × Int)) (e : Ending) (w' : World) : Prop :=
  ∃ v, e = .returned (.tuple #[v, .int .i64 ((o.map (·.2)).getD 0), .bool o.isSome]) ∧ (Kd.int .i64).R 3 w' w.heap.size (fun _ => True) v ((o.map (·.1)).getD []) ∧ Below w.heap.size w w'
set_option maxHeartbeats 2000000 in
set_option maxRecDepth 100000 in
theorem operandSorts_calls (op : Int) (w : World) : Calls Try.prog 97 #[.int .i64 op] w (SortsRes w (opSorts op)) := by
  have hb : ∀ o, Below w.heap.size w (w.alloc o) := fun o => (Below.refl _ _).alloc (Nat.le_refl _) o
  by_cases h : op = 1 ∨ op = 23 ∨ op = 24 ∨ op = 27 ∨ op = 29 ∨ op = 28
  · rcases h with rfl | rfl | rfl | rfl | rfl | rfl
    all_goals
      go_enter Try.func97, Try.ntmps97
      go_wp2
      go_ret3
    · exact ⟨_, rfl, Kd.R_nil _ _ _ _ _, Below.refl _ _⟩
    · exact ⟨_, rfl, R_lit' .i64 w [2, 1] _ (by decide), hb _⟩
    · exact ⟨_, rfl, R_lit' .i64 w [2] _ (by decide), hb _⟩
    · exact ⟨_, rfl, R_lit' .i64 w [2, 1] _ (by decide), hb _⟩
    · exact ⟨_, rfl, R_lit' .i64 w [2, 1] _ (by decide), hb _⟩
    · exact ⟨_, rfl, R_lit' .i64 w [2, 1, 1] _ (by decide), hb _⟩
  · simp only [not_or] at h
    obtain ⟨h1, h2, h3, h4, h5, h6⟩ := h
    have E : Hid (opSorts op = if 4 ≤ op ∧ op ≤ 19 then some ([1, 1], 1) else if op = 20 ∨ op = 21 then some ([1], 1) else if op = 22 then some ([1, 1, 1], 1) else none) := Lib.hid (by simp [opSorts, *])
    have e1 := beq_no h1; have e2 := beq_no h2; have e3 := beq_no h3; have e4 := beq_no h4; have e5 := beq_no h5; have e6 := beq_no h6
    have ar := irArity_calls op
    by_cases a : 4 ≤ op ∧ op ≤ 19
    · have A1 : Hid (arity op = (2, true)) := Lib.hid (by simp only [arity]; rw [if_neg (by omega), if_neg (by omega), if_neg (by omega), if_neg (by omega), if_neg (by omega), if_pos a])
      rw [E.out, if_pos a]
      obtain ⟨a1, a2⟩ := a
      go_enter Try.func97, Try.ntmps97
      go_wp2_with fail
      rw [A1.out] at ar
      refine (ar _).mono ?_
      rintro e w' ⟨rfl, rfl⟩
      go_wp2
      go_ret3
      exact ⟨_, rfl, Kd.R_take (R_lit' .i64 w [1, 1, 1] _ (by decide)) (m := 2) (by decide), hb _⟩
    · rw [if_neg a] at E
      by_cases b : op = 20 ∨ op = 21 ∨ op = 22
      · rcases b with rfl | rfl | rfl
        all_goals
          go_enter Try.func97, Try.ntmps97
          go_wp2_with fail
          refine (ar _).mono ?_
          rintro e w' ⟨rfl, rfl⟩
          go_wp2
          go_ret3
        · exact ⟨_, rfl, Kd.R_take (R_lit' .i64 w [1, 1, 1] _ (by decide)) (m := 1) (by decide), hb _⟩
        · exact ⟨_, rfl, Kd.R_take (R_lit' .i64 w [1, 1, 1] _ (by decide)) (m := 1) (by decide), hb _⟩
        · exact ⟨_, rfl, R_lit' .i64 w [1, 1, 1] _ (by decide), hb _⟩
      · rw [if_neg (by omega), if_neg (by omega)] at E
        rw [E.out]
        have E2 : (SortsRes w (none : Option (List Int × Int))) (.returned (.tuple #[.slice none 0 0, .int .i64 0, .bool false])) w := ⟨_, rfl, Kd.R_nil _ _ _ _ _, Below.refl _ _⟩
        generalize arity op = q at ar
        obtain ⟨q1, q2⟩ := q
        rcases q2 with _ | _
        · go_enter Try.func97, Try.ntmps97
          go_wp2_with fail
          refine (ar _).mono ?_
          rintro e w' ⟨rfl, rfl⟩
          go_wp2
          go_ret3
          exact E2
        · rcases (show op < 4 ∨ 22 < op by omega) with c | c
          · go_enter Try.func97, Try.ntmps97
            go_wp2_with fail
            refine (ar _).mono ?_
            rintro e w' ⟨rfl, rfl⟩
            go_wp2
            go_ret3
            exact E2
          · have c' : ¬ op < 4 := by omega
            go_enter Try.func97, Try.ntmps97
            go_wp2_with fail
            refine (ar _).mono ?_
            rintro e w' ⟨rfl, rfl⟩
            go_wp2
            go_ret3
            exact E2
set_option maxHeartbeats 2000000 in
set_option maxRecDepth 100000 in
theorem validImm_calls (p : Pat) (imms : Int) (A : Option Addr) (c : Nat) (w : World) : Calls Try.prog 98 #[.agg #[.int .i64 p.var, .int .i64 p.op, .int .i64 p.imm, .int .i64 p.immVar, .slice A p.kids.length c], .int .i64 imms] w
    fun e w' => e = .returned (.bool (validImm p imms)) ∧ Below w.heap.size w w' := by
  have hb : ∀ o, Below w.heap.size w (w.alloc o) := fun o => (Below.refl _ _).alloc (Nat.le_refl _) o
  have hi := hasImm_calls p.op
  obtain ⟨var, op, imm, iv, kids⟩ := p
  simp only at hi ⊢
  by_cases h1 : iv = 0
  · subst h1
    by_cases h2 : op = 23 ∨ op = 28
    · have E : Hid (validImm ⟨var, op, imm, 0, kids⟩ imms = decide (0 ≤ imm ∧ imm < 4)) := Lib.hid (by simp [validImm, h2])
      rcases h2 with rfl | rfl
      all_goals
        by_cases a : 0 ≤ imm
        · go_enter Try.func98, Try.ntmps98
          go_wp2
          go_ret
          exact ⟨by rw [E.out]; first | (simp [a]; done) | (simp; omega) | (simp [a]; rw [Bool.eq_iff_iff]; simp), hb _⟩
        · go_enter Try.func98, Try.ntmps98
          go_wp2
          go_ret
          exact ⟨by rw [E.out]; first | (simp [a]; done) | (simp; omega) | (simp [a]; rw [Bool.eq_iff_iff]; simp), hb _⟩
    · simp only [not_or] at h2
      obtain ⟨h2, h3⟩ := h2
      have e2 := beq_no h2; have e3 := beq_no h3
      by_cases h4 : op = 27
      · subst h4
        have E : Hid (validImm ⟨var, 27, imm, 0, kids⟩ imms = decide (1 ≤ imm ∧ imm ≤ 1000016)) := Lib.hid (by simp [validImm])
        by_cases a : 1 ≤ imm
        · go_enter Try.func98, Try.ntmps98
          go_wp2
          go_ret
          exact ⟨by rw [E.out]; first | (simp [a]; done) | (simp; omega) | (simp [a]; rw [Bool.eq_iff_iff]; simp), hb _⟩
        · go_enter Try.func98, Try.ntmps98
          go_wp2
          go_ret
          exact ⟨by rw [E.out]; first | (simp [a]; done) | (simp; omega) | (simp [a]; rw [Bool.eq_iff_iff]; simp), hb _⟩
      · have E : Hid (validImm ⟨var, op, imm, 0, kids⟩ imms = decide (op = 1 ∨ imm = 0)) := Lib.hid (by simp [validImm, *])
        have e4 := beq_no h4
        by_cases a : op = 1
        · subst a
          go_enter Try.func98, Try.ntmps98
          go_wp2
          go_ret
          exact ⟨by rw [E.out]; simp, hb _⟩
        · have e5 := beq_no a
          go_enter Try.func98, Try.ntmps98
          go_wp2
          go_ret
          exact ⟨by rw [E.out]; first | (simp [a]; done) | (simp; omega) | (simp [a]; rw [Bool.eq_iff_iff]; simp), hb _⟩
  · have E : Hid (validImm ⟨var, op, imm, iv, kids⟩ imms = (hasImm op && decide (imm = 0 ∧ 1 ≤ iv ∧ iv ≤ imms))) := Lib.hid (by simp [validImm, h1])
    have e1 := beq_no h1
    have e1' : (iv != 0) = true := by simpa using h1
    generalize hasImm op = hv at hi E
    rcases hv with _ | _
    · go_enter Try.func98, Try.ntmps98
      go_wp2_with fail
      refine (hi _).mono ?_
      rintro e w' ⟨rfl, rfl⟩
      go_wp2
      go_ret
      exact ⟨by rw [E.out]; rfl, hb _⟩
    · by_cases a : imm = 0
      · subst a
        by_cases b : 1 ≤ iv
        · go_enter Try.func98, Try.ntmps98
          go_wp2_with fail
          refine (hi _).mono ?_
          rintro e w' ⟨rfl, rfl⟩
          go_wp2
          go_ret
          exact ⟨by rw [E.out]; first | (simp [b]; done) | (simp; omega) | (simp [b]; rw [Bool.eq_iff_iff]; simp), hb _⟩
        · go_enter Try.func98, Try.ntmps98
          go_wp2_with fail
          refine (hi _).mono ?_
          rintro e w' ⟨rfl, rfl⟩
          go_wp2
          go_ret
          exact ⟨by rw [E.out]; first | (simp [b]; done) | (simp; omega) | (simp [b]; rw [Bool.eq_iff_iff]; simp), hb _⟩
      · have e2 := beq_no a
        go_enter Try.func98, Try.ntmps98
        go_wp2_with fail
        refine (hi _).mono ?_
        rintro e w' ⟨rfl, rfl⟩
        go_wp2
        go_ret
        exact ⟨by rw [E.out]; first | (simp [a]; done) | (simp; omega) | (simp [a]; rw [Bool.eq_iff_iff]; simp), hb _⟩
end Go.Proofs.Ytmdahjmkfipdfaa
