/- Regions of open order in which variables are made and each is filled once. -/
import Derived.Test.YtmdahjmkfipdfaaFree
import Derived.Test.YtmdahjmkfipdfaaGen5
namespace Go.Proofs.Ytmdahjmkfipdfaa
set_option linter.unusedVariables false
set_option linter.unusedSimpArgs false
open Go.RowKit Go.Proofs.YtmdahjmkfipdfaaW.PrintWords Go.Proofs.YtmdahjmkfipdfaaW.PrintLast Go.Proofs.YtmdahjmkfipdfaaW.PrintMore
def ptr (g : Nat) : Value := .pointer (some ⟨g, 0, none⟩)
def flag : Value := .bool true
theorem ptr_inj {a b : Nat} (h : ptr a = ptr b) : a = b := by unfold ptr at h; injection h with h; injection h with h; injection h
/-- V: for each variable the operation that makes it and the one that fills it. Every block is kept but that of a variable that is filled. -/
structure RV (V : List (Nat × Nat)) (vs : Nat → Value) (w : World) (vs' : Nat → Value) (w' : World) : Prop where
  os : w'.os = w.os
  tape : w'.tape = w.tape
  output : w'.output = w.output
  size : w.heap.size ≤ w'.heap.size
  fl : ∀ p ∈ V, vs p.2 = flag → vs' p.2 = flag
  pt : ∀ p ∈ V, ∀ g, vs p.1 = ptr g → vs' p.1 = ptr g
  pn : ∀ p ∈ V, ∀ g, vs' p.1 = ptr g → vs p.1 = ptr g ∨ (w.heap.size ≤ g ∧ g < w'.heap.size)
  blk : ∀ k, k < w.heap.size → (∀ p ∈ V, vs p.1 = ptr k → vs p.2 = flag ∨ vs' p.2 ≠ flag) → w'.heap[k]? = w.heap[k]?
section
variable {V : List (Nat × Nat)} {vs vs' vs'' : Nat → Value} {w w' w'' : World} {i j : Nat}
theorem RV.refl (V : List (Nat × Nat)) (vs : Nat → Value) (w : World) : RV V vs w vs w := ⟨rfl, rfl, rfl, Nat.le_refl _, fun _ _ h => h, fun _ _ _ h => h, fun _ _ _ h => .inl h, fun _ _ _ => rfl⟩
theorem RV.trans (h : RV V vs w vs' w') (k : RV V vs' w' vs'' w'') : RV V vs w vs'' w'' := by
  refine ⟨k.os.trans h.os, k.tape.trans h.tape, k.output.trans h.output, Nat.le_trans h.size k.size, fun p hp a => k.fl p hp (h.fl p hp a), fun p hp g a => k.pt p hp g (h.pt p hp g a), fun p hp g a => ?_, fun b hb hv => ?_⟩
  · rcases k.pn p hp g a with a | a
    · rcases h.pn p hp g a with a | a
      · exact .inl a
      · exact .inr ⟨a.1, Nat.lt_of_lt_of_le a.2 k.size⟩
    · exact .inr ⟨Nat.le_trans h.size a.1, a.2⟩
  · refine (k.blk b (Nat.lt_of_lt_of_le hb h.size) fun p hp a => ?_).trans (h.blk b hb fun p hp a => ?_)
    · have a1 : vs p.1 = ptr b := by
        rcases h.pn p hp b a with a1 | a1
        · exact a1
        · omega
      rcases hv p hp a1 with c | c
      · exact .inl (h.fl p hp c)
      · exact .inr c
    · rcases hv p hp a with c | c
      · exact .inl c
      · exact .inr fun e => c (k.fl p hp e)
theorem RV.other (v : Value) (hi : ∀ p ∈ V, p.1 ≠ i ∧ p.2 ≠ i) (h : Below w.heap.size w w') : RV V vs w (updV vs i v) w' := by
  have e1 : ∀ p ∈ V, updV vs i v p.1 = vs p.1 := fun p hp => by rw [updV, if_neg (hi p hp).1]
  have e2 : ∀ p ∈ V, updV vs i v p.2 = vs p.2 := fun p hp => by rw [updV, if_neg (hi p hp).2]
  exact ⟨h.os, h.tape, h.output, h.size, fun p hp a => (e2 p hp).trans a, fun p hp g a => (e1 p hp).trans a, fun p hp g a => .inl ((e1 p hp).symm.trans a), fun k hk _ => h.block k hk⟩
theorem RV.alloc (o : Obj) (hi : ∀ p ∈ V, p.2 ≠ i) (h0 : ∀ g, vs i ≠ ptr g) : RV V vs w (updV vs i (ptr w.heap.size)) (w.alloc o) := by
  have hb := (Below.refl w.heap.size w).alloc (Nat.le_refl _) o
  refine ⟨hb.os, hb.tape, hb.output, hb.size, fun p hp a => by rw [updV, if_neg (hi p hp)]; exact a, fun p hp g a => ?_, fun p hp g a => ?_, fun k hk _ => hb.block k hk⟩
  · rw [updV, if_neg (fun e => h0 g (by rw [← e]; exact a))]; exact a
  · by_cases e : p.1 = i
    · rw [updV, if_pos e] at a
      have := ptr_inj a
      exact .inr ⟨by omega, by simp; omega⟩
    · rw [updV, if_neg e] at a; exact .inl a
theorem RV.store {g : Nat} (hij : (j, i) ∈ V) (hi : ∀ p ∈ V, p.1 ≠ i) (hp : vs j = ptr g) (hf : vs i ≠ flag) (ho : w'.os = w.os) (ht : w'.tape = w.tape) (hu : w'.output = w.output) (hk : KeepBut w w' g none) : RV V vs w (updV vs i flag) w' := by
  have e1 : ∀ p ∈ V, updV vs i flag p.1 = vs p.1 := fun p hp => by rw [updV, if_neg (hi p hp)]
  refine ⟨ho, ht, hu, hk.1, fun p hp a => ?_, fun p hp g a => (e1 p hp).trans a, fun p hp g a => .inl ((e1 p hp).symm.trans a), fun k hkl hv => hk.2 k hkl (fun e => ?_) (by simp)⟩
  · rw [updV]; split
    · rfl
    · exact a
  · subst e
    rcases hv (j, i) hij hp with a | a
    · exact hf a
    · exact a (by rw [updV, if_pos rfl])
/-- What lies in blocks that are no variable's. -/
def okV (V : List (Nat × Nat)) (vs : Nat → Value) (w : World) (k : Nat) : Prop := k < w.heap.size ∧ ∀ p ∈ V, vs p.1 ≠ ptr k
theorem RV.ok (h : RV V vs w vs' w') {k : Nat} (hk : okV V vs w k) : okV V vs' w' k :=
  ⟨Nat.lt_of_lt_of_le hk.1 h.size, fun p hp a => by
    rcases h.pn p hp k a with b | b
    · exact hk.2 p hp b
    · have := hk.1; omega⟩
theorem RV.F {α : Type} {d : Kd α} {A : Option Addr} {n : Nat} {xs : List α} (h : RV V vs w vs' w') (hF : Kd.F d w (okV V vs w) A n xs) : Kd.F d w' (okV V vs' w') A n xs :=
  Kd.F_mono (Kd.F_step hF fun k hk hlt => h.blk k hlt fun p hp a => absurd a (hk.2 p hp)) fun k hk => h.ok hk
/-- Ahead of the region no variable is made. -/
theorem RV.below (h : RV V vs w vs' w') (h0 : ∀ p ∈ V, ∀ g, vs p.1 ≠ ptr g) : Below w.heap.size w w' := ⟨h.os, h.tape, h.output, h.size, fun k hk => h.blk k hk fun p hp a => absurd a (h0 p hp k)⟩
/-- The variables lie in the heap. -/
def LtV (V : List (Nat × Nat)) (vs : Nat → Value) (w : World) : Prop := ∀ p ∈ V, ∀ g, vs p.1 = ptr g → g < w.heap.size
theorem RV.lt (h : RV V vs w vs' w') (h0 : ∀ p ∈ V, ∀ g, vs p.1 ≠ ptr g) : LtV V vs' w' := fun p hp g hg => by
  rcases h.pn p hp g hg with a | a
  · exact absurd a (h0 p hp g)
  · exact a.2
/-- What is made by a call or the like behind the region's start leads into no variable's block. -/
theorem okV_new (h : LtV V vs' w') {w'' : World} {α : Type} {d : Kd α} {A : Option Addr} {n : Nat} {xs : List α} (hF : Kd.F d w'' (fun k => w'.heap.size ≤ k) A n xs) : Kd.F d w'' (okV V vs' w'') A n xs :=
  Kd.F_mono (Kd.F_bound hF) fun k hk => ⟨hk.2, fun p hp a => by have := h p hp k a; omega⟩
/-- Variable j (filled by i): made and not filled yet (o: its block). -/
def Made (V : List (Nat × Nat)) (j i : Nat) (o : Obj) (vs : Nat → Value) (w : World) : Prop := ∃ g, vs j = ptr g ∧ (∀ p ∈ V, vs p.1 = ptr g → p = (j, i)) ∧ w.heap[g]? = some o
theorem RV.made (h : RV V vs w vs' w') (hij : (j, i) ∈ V) {o : Obj} (hm : Made V j i o vs w) (hf : vs i = flag ∨ vs' i ≠ flag) : Made V j i o vs' w' := by
  obtain ⟨g, h1, h2, h3⟩ := hm
  have hl := blk_lt h3
  refine ⟨g, h.pt _ hij g h1, fun p hp a => ?_, (h.blk g hl fun p hp a => ?_).trans h3⟩
  · rcases h.pn p hp g a with b | b
    · exact h2 p hp b
    · omega
  · rw [h2 p hp a]; exact hf
theorem Made.new (h : LtV V vs' w') (hV : ∀ p ∈ V, p.1 = j → p = (j, i)) (o : Obj) : Made V j i o (updV vs' j (ptr w'.heap.size)) (w'.alloc o) := by
  refine ⟨w'.heap.size, if_pos rfl, fun p hp a => ?_, blk_new w' o⟩
  by_cases e : p.1 = j
  · exact hV p hp e
  · rw [updV, if_neg e] at a
    have := h p hp _ a
    omega
/-- Operation i's value is X. -/
def Is (i : Nat) (X : Value) (vs : Nat → Value) (_ : World) : Prop := vs i = X
/-- Operation i's value is a pattern that reads as p, whose rows are no variable's. -/
def PatAt (V : List (Nat × Nat)) (i : Nat) (p : Pat) (vs : Nat → Value) (w : World) : Prop := ∃ A c, vs i = .agg #[.int .i64 p.var, .int .i64 p.op, .int .i64 p.imm, .int .i64 p.immVar, .slice A p.kids.length c] ∧ p.kids.length ≤ c ∧ Kd.F kPat w (okV V vs w) A p.kids.length p.kids
/-- The same, no variable being about. -/
def PatN (i : Nat) (p : Pat) (vs : Nat → Value) (w : World) : Prop := ∃ A c, vs i = .agg #[.int .i64 p.var, .int .i64 p.op, .int .i64 p.imm, .int .i64 p.immVar, .slice A p.kids.length c] ∧ p.kids.length ≤ c ∧ kPat.C w A p.kids.length p.kids
/-- Variable j, filled by i, holds the pattern p. -/
def VarAt (V : List (Nat × Nat)) (j i : Nat) (p : Pat) (vs : Nat → Value) (w : World) : Prop := ∃ A c, Made V j i (.cells #[.int .i64 p.var, .int .i64 p.op, .int .i64 p.imm, .int .i64 p.immVar, .slice A p.kids.length c] 24 (0, 0)) vs w ∧ vs i = flag ∧ p.kids.length ≤ c ∧ Kd.F kPat w (okV V vs w) A p.kids.length p.kids
/-- A literal of one pattern. -/
def LitC (i : Nat) (p : Pat) (vs : Nat → Value) (w : World) : Prop := ∃ g, vs i = .slice (some ⟨g, 0, none⟩) 1 1 ∧ kPat.C w (some ⟨g, 0, none⟩) 1 [p]
variable {R : (Nat → Value) → World → (Nat → Value) → World → Prop} {G : List ((Nat → Value) → World → Prop)}
theorem Known.is {X : Value} (h : Known R G vs w i) (hg : G.getD i (fun _ _ => True) = Is i X) : vs i = X := by
  obtain ⟨v1, w1, h1, h2, h3⟩ := h
  rw [hg] at h3
  exact h2.trans h3
theorem Known.patAt {p : Pat} (h : Known (RV V) G vs w i) (hg : G.getD i (fun _ _ => True) = PatAt V i p) : PatAt V i p vs w := by
  obtain ⟨v1, w1, h1, h2, h3⟩ := h
  rw [hg] at h3
  obtain ⟨A, c, e, hc, hF⟩ := h3
  exact ⟨A, c, h2.trans e, hc, h1.F hF⟩
theorem RV.below0 (h : RV [] vs w vs' w') : Below w.heap.size w w' := h.below (fun _ hp => by cases hp)
theorem Known.patN {p : Pat} (h : Known (RV []) G vs w i) (hg : G.getD i (fun _ _ => True) = PatN i p) : PatN i p vs w := by
  obtain ⟨v1, w1, h1, h2, h3⟩ := h
  rw [hg] at h3
  obtain ⟨A, c, e, hc, hF⟩ := h3
  exact ⟨A, c, h2.trans e, hc, Kd.C_below hF h1.below0⟩
theorem Known.litC {p : Pat} (h : Known (RV []) G vs w i) (hg : G.getD i (fun _ _ => True) = LitC i p) : LitC i p vs w := by
  obtain ⟨v1, w1, h1, h2, h3⟩ := h
  rw [hg] at h3
  obtain ⟨g, e, hF⟩ := h3
  exact ⟨g, h2.trans e, Kd.C_below hF h1.below0⟩
theorem Known.made {o : Obj} (h : Known (RV V) G vs w j) (hg : G.getD j (fun _ _ => True) = Made V j i o) (hij : (j, i) ∈ V) (hf : vs i ≠ flag) : Made V j i o vs w := by
  obtain ⟨v1, w1, h1, h2, h3⟩ := h
  rw [hg] at h3
  exact h1.made hij h3 (.inr hf)
theorem Known.varAt {p : Pat} (h : Known (RV V) G vs w i) (hg : G.getD i (fun _ _ => True) = VarAt V j i p) (hij : (j, i) ∈ V) : VarAt V j i p vs w := by
  obtain ⟨v1, w1, h1, h2, h3⟩ := h
  rw [hg] at h3
  obtain ⟨A, c, hm, hf, hc, hF⟩ := h3
  exact ⟨A, c, h1.made hij hm (.inl hf), h1.fl _ hij hf, hc, h1.F hF⟩
/-- The value that a call hands back. -/
theorem PatAt.new {p : Pat} {A : Option Addr} {c : Nat} (h : LtV V vs w) (hi : ∀ p ∈ V, p.1 ≠ i ∧ p.2 ≠ i) (hc : p.kids.length ≤ c)
    (hF : Kd.F kPat w' (fun k => w.heap.size ≤ k) A p.kids.length p.kids) : PatAt V i p (updV vs i (.agg #[.int .i64 p.var, .int .i64 p.op, .int .i64 p.imm, .int .i64 p.immVar, .slice A p.kids.length c])) w' :=
  ⟨A, c, if_pos rfl, hc, Kd.F_mono (okV_new h hF) fun k hk => ⟨hk.1, fun p hp => by rw [updV, if_neg (hi p hp).1]; exact hk.2 p hp⟩⟩
theorem PatN.new {p : Pat} {A : Option Addr} {c : Nat} (hc : p.kids.length ≤ c) (hC : kPat.C w' A p.kids.length p.kids) : PatN i p (updV vs i (.agg #[.int .i64 p.var, .int .i64 p.op, .int .i64 p.imm, .int .i64 p.immVar, .slice A p.kids.length c])) w' := ⟨A, c, if_pos rfl, hc, hC⟩
/-- A variable is filled: five cells are written. -/
theorem VarAt.new {p : Pat} {A : Option Addr} {c g : Nat} {a0 a1 a2 a3 a4 : Value} (hij : (j, i) ∈ V) (hi : ∀ p ∈ V, p.1 ≠ i) (e : vs j = ptr g) (hu : ∀ p ∈ V, vs p.1 = ptr g → p = (j, i)) (hb : w.heap[g]? = some (.cells #[a0, a1, a2, a3, a4] 24 (0, 0)))
    (hc : p.kids.length ≤ c) (hF : Kd.F kPat w (okV V vs w) A p.kids.length p.kids) :
    VarAt V j i p (updV vs i flag) (((((w.setCell ⟨g, 0, none⟩ (.int .i64 p.var)).setCell ⟨g, 1, none⟩ (.int .i64 p.op)).setCell ⟨g, 2, none⟩ (.int .i64 p.imm)).setCell ⟨g, 3, none⟩ (.int .i64 p.immVar)).setCell ⟨g, 4, none⟩ (.slice A p.kids.length c)) := by
  have e1 : ∀ p ∈ V, updV vs i flag p.1 = vs p.1 := fun p hp => by rw [updV, if_neg (hi p hp)]
  have hsz : ∀ (W : World) a v, (W.setCell a v).heap.size = W.heap.size := fun W a v => by simp [World.setCell]
  refine ⟨A, c, ⟨g, (e1 _ hij).trans e, fun p hp a => hu p hp ((e1 p hp).symm.trans a), put5 hb _ _ _ _ _⟩, if_pos rfl, hc, ?_⟩
  have h5 := F_far5 hF (g := g) (fun k hk e' => hk.2 _ hij (by rw [e, e'])) (.int .i64 p.var) (.int .i64 p.op) (.int .i64 p.imm) (.int .i64 p.immVar) (.slice A p.kids.length c)
  exact Kd.F_mono h5 fun k hk => ⟨by rw [hsz, hsz, hsz, hsz, hsz]; exact hk.1, fun p hp => by rw [e1 p hp]; exact hk.2 p hp⟩
theorem RV.fill {g : Nat} {a0 a1 a2 a3 a4 : Value} (hij : (j, i) ∈ V) (hi : ∀ p ∈ V, p.1 ≠ i) (hp : vs j = ptr g) (hf : vs i ≠ flag) :
    RV V vs w (updV vs i flag) (((((w.setCell ⟨g, 0, none⟩ a0).setCell ⟨g, 1, none⟩ a1).setCell ⟨g, 2, none⟩ a2).setCell ⟨g, 3, none⟩ a3).setCell ⟨g, 4, none⟩ a4) := by
  have hb : Below 0 w (((((w.setCell ⟨g, 0, none⟩ a0).setCell ⟨g, 1, none⟩ a1).setCell ⟨g, 2, none⟩ a2).setCell ⟨g, 3, none⟩ a3).setCell ⟨g, 4, none⟩ a4) :=
    (((((Below.refl 0 w).setCell (Nat.zero_le _) a0).setCell (Nat.zero_le _) a1).setCell (Nat.zero_le _) a2).setCell (Nat.zero_le _) a3).setCell (Nat.zero_le _) a4
  have hk := ((((KeepBut.refl w g none).set_ 0 a0).set_ 1 a1).set_ 2 a2).set_ 3 a3
  exact RV.store hij hi hp hf hb.os hb.tape hb.output (hk.set_ 4 a4)
def noPtr : Value → Bool
  | .pointer (some _) => false
  | _ => true
theorem noPtr_ne {v : Value} (h : noPtr v = true) (g : Nat) : v ≠ ptr g := fun e => by subst e; cases h
end
section
variable {P : Program} {ops : Array Oper} {Q : Exit → Act → World → Prop} {V : List (Nat × Nat)}
def FreeStepsV (P : Program) (ops : Array Oper) (Q : Exit → Act → World → Prop) (V : List (Nat × Nat)) (G : List ((Nat → Value) → World → Prop)) (a0 : Act) (fr : (Nat → Value) → Act) (w0 : World) (l : List Nat) : Prop :=
  (∀ p ∈ V, ∀ g, vs0 ops a0 p.1 ≠ ptr g) → FreeSteps P ops Q (RV V) G a0 fr w0 l
theorem FreeStepsV.nil {G : List ((Nat → Value) → World → Prop)} {a0 : Act} {fr : (Nat → Value) → Act} {w0 : World} : FreeStepsV P ops Q V G a0 fr w0 [] := fun _ => FreeSteps.nil
theorem FreeStepsV.cons {G : List ((Nat → Value) → World → Prop)} {a0 : Act} {fr : (Nat → Value) → Act} {w0 : World} {i : Nat} {o : Oper} {N : Option Tmp} {l bs : List Nat} {g : (Nat → Value) → World → Prop} {v0 : Value}
    (hi : ops[i]? = some o) (hN : o.dst = N) (hb : (bs.all fun j => (befores ops i).contains j) = true) (hg : G.getD i (fun _ _ => True) = g) (h0 : vs0 ops a0 i = v0)
    (h : ∀ vs w, Below w0.heap.size w0 w → LtV V vs w → vs i = v0 → KnownAll (RV V) G vs w bs → ∀ K : Act → World → Prop, Shut (∀ v w', RV V vs w (updV vs i v) w' → g (updV vs i v) w' → K ((fr vs).put N v) w') →
      if Region.wanted o (yielded ops (fr vs).tmps) = true then Oper.wp P o (fr vs) w K Q else K ((fr vs).put N undef) w)
    (hs : FreeStepsV P ops Q V G a0 fr w0 l) : FreeStepsV P ops Q V G a0 fr w0 (i :: l) := fun hv =>
  FreeSteps.cons hi hN hb hg h0 (fun vs w hR hv0 hk K hK => h vs w (hR.below hv) (hR.lt hv) hv0 hk K hK) (hs hv)
theorem freeV_ (V : List (Nat × Nat)) (G : List ((Nat → Value) → World → Prop)) {id n : Nat} {a0 : Act} {w : World} {fr : (Nat → Value) → Act} {sl : List (Nat × Nat)} (hm : P.follows .mixedOrders = true) (hn : ops.size = n)
    (hsl : slotsOf ops = sl) (hfr : ∀ vs, putVs sl vs a0 = fr vs) (hB : (edgesB ops && slotsB ops) = true) (h0 : (V.all fun p => noPtr (vs0 ops a0 p.1)) = true) {ns : List Nat} (hns : List.range n = ns)
    (hstep : FreeStepsV P ops Q V G a0 fr w.drew ns) (hend : ∀ vs w', Below w.heap.size w w' → KnownAll (RV V) G vs w' ns → Q .normal (fr vs) w') : (Code.region id ops true).wp P Q a0 w := by
  subst hns
  have hv : ∀ p ∈ V, ∀ g, vs0 ops a0 p.1 ≠ ptr g := fun p hp g => noPtr_ne (List.all_eq_true.1 h0 p hp) g
  exact free_ (R := RV V) G hm hn hsl hfr (fun _ _ _ _ _ _ h k => h.trans k) (fun v w => RV.refl _ v w) hB (hstep hv) (fun vs w' hR hk => hend vs w' (below_then (below_drew (Below.refl _ _)) (Nat.le_refl _) (hR.below hv)) hk)
end
end Go.Proofs.Ytmdahjmkfipdfaa
