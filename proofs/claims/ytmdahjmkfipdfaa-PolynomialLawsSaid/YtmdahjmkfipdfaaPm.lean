/- The maps of polynomials (map[string]uint64) that the calls make: what a block reads as, and the laws at the operations. -/
import Derived.Test.YtmdahjmkfipdfaaWk5
import Derived.Maps.OwnOps
import Derived.Maps.RangeWalk
import Derived.Maps.Ext
namespace Go.Proofs.Ytmdahjmkfipdfaa
set_option linter.unusedVariables false
set_option linter.unusedSimpArgs false
open Go.RowKit Go.Proofs.YtmdahjmkfipdfaaW.PrintWords Go.Proofs.YtmdahjmkfipdfaaW.PrintLast Go.Proofs.YtmdahjmkfipdfaaW.PrintMore
open Go.Maps (Keyed)
theorem strKey : Keyed Try.prog 9 := Maps.string_keyed Try.underlying9
theorem zeroU64 (w : World) : (zeroValue 30).run Try.prog w = .ok (.int .u64 0) w := by kernel_rfl
noncomputable abbrev u64El : Value → Option (DataW Unit × List MemPlace) := plainElem (H := Unit) Try.prog 30
abbrev PM := List UInt8 → Option Int
/-- What the datum of a map says of the keys. -/
def Says (D : DataW Unit) (M : PM) : Prop := ∀ k : List UInt8, match M k with
  | none => Maps.has D (.string k) = false
  | some c => ∀ z, D.atKey (.string k) z = .lit (.int .u64 c)
/-- Block b is a map of at most n entries, and reads as M. -/
def PolyAt (w : World) (b n : Nat) (M : PM) : Prop := ∃ D, w.ownsMap Try.prog 9 u64El b n D ∧ Says D M
theorem Says.has {D : DataW Unit} {M : PM} (h : Says D M) (k : List UInt8) : Maps.has D (.string k) = (M k).isSome := by
  have := h k
  revert this
  cases M k with
  | none => exact id
  | some c => exact fun e => Maps.has_true_of_atKey e
theorem Says.at_ {D : DataW Unit} {M : PM} (h : Says D M) (k : List UInt8) : D.atKey (.string k) (.lit (.int .u64 0)) = .lit (.int .u64 ((M k).getD 0)) := by
  have := h k
  revert this
  cases M k with
  | none => exact fun e => Maps.atKey_of_not_has e _
  | some c => exact fun e => e _
/-- The map with k set to c. -/
def PM.put (M : PM) (k : List UInt8) (c : Int) : PM := fun x => if x = k then some c else M x
theorem Says.put {D : DataW Unit} {M : PM} (h : Says D M) (hD : Maps.IsMap D) (k : List UInt8) (c : Int) : Says (D.put (.string k) (.lit (.int .u64 c))) (M.put k c) := by
  intro x
  unfold PM.put
  by_cases e : x = k
  · subst e
    rw [if_pos rfl]
    exact fun z => Maps.atKey_put_same hD (k := .string x) trivial _ _
  · have hne : (Lit.string x) ≠ .string k := fun h => e (by injection h)
    rw [if_neg e]
    have := h x
    revert this
    cases M x with
    | none => exact fun h => by simp only; rw [Maps.has_put_other hne]; exact h
    | some c => exact fun h z => by rw [Maps.atKey_put_other hne]; exact h z
theorem PolyAt.mono {w : World} {b n m : Nat} {M : PM} (h : PolyAt w b n M) (hn : n ≤ m) : PolyAt w b m M := by
  obtain ⟨D, hD, hs⟩ := h
  exact ⟨D, hD.mono hn, hs⟩
theorem PolyAt.kept {w w' : World} {b n : Nat} {M : PM} {row : Option Nat} (h : PolyAt w b n M) (hg : w.grownBy w' row) (hne : some b ≠ row) : PolyAt w' b n M := by
  obtain ⟨D, hD, hs⟩ := h
  exact ⟨D, hD.kept hg hne, hs⟩
theorem PolyAt.below {w w' : World} {b n : Nat} {M : PM} (h : PolyAt w b n M) (hb : Below w.heap.size w w') : PolyAt w' b n M := h.kept (grown_of_below hb none) (by simp)
theorem PolyAt.lt {w : World} {b n : Nat} {M : PM} (h : PolyAt w b n M) : b < w.heap.size := by
  obtain ⟨D, hD, hs⟩ := h
  exact hD.lt
theorem PolyAt.made (w : World) : PolyAt (w.alloc (.map #[] 0)) w.heap.size 0 (fun _ => none) := ⟨.map [], World.ownsMap_made _ _ _ _, fun _ => rfl⟩
theorem PolyAt.update {w : World} {b n : Nat} {M : PM} (h : PolyAt w b n M) (hn : n < maxLen) (s : ByteArray) (hs : s.size ≤ maxLen) (c : Int) (hc : (Lit.int .u64 c).wf = true) :
    ∃ w', (Instr.mapUpdate 78 (.map (some b)) (.string s) (.int .u64 c)).run Try.prog w = .ok () w' ∧ PolyAt w' b (n + 1) (M.put s.data.toList c) ∧ w.grownBy w' (some b) := by
  obtain ⟨D, hD, hS⟩ := h
  obtain ⟨w', hr, ho, hg⟩ := hD.update strKey Try.underlying78 hn (WideMaps.keyOf_string_mk Try.underlying9 hs) (plainElem_int Try.underlying30 hc)
  exact ⟨w', hr, ⟨_, ho, hS.put hD.isMap _ _⟩, hg⟩
section
variable {ops : Array Oper} {rest : List Oper} {o : Oper} {a : Act} {Q : Exit → Act → World → Prop}
theorem poly_lookup (w : World) (hg : o.guard = none) (m x : Operand) (hop : o.op = Op.lookup 78 m x false) (b n : Nat) (M : PM) (h : PolyAt w b n M) (hm : a.eval m = .map (some b))
    (s : ByteArray) (hs : s.size ≤ maxLen) (hx : a.eval x = .string s) (hK : wpList Try.prog ops Q rest (a.put o.dst (.int .u64 ((M s.data.toList).getD 0))) w) : wpList Try.prog ops Q (o :: rest) a w := by
  obtain ⟨D, hD, hS⟩ := h
  refine wpList_lookup_own_int w hg m x _ hop 9 30 .u64 strKey Try.underlying78 Try.underlying30 (zeroU64 _) b n D hm hD _ _ hx (WideMaps.keyOf_string_mk Try.underlying9 hs) ?_
  intro c hc _
  rw [hS.at_] at hc
  injection hc with hc
  injection hc with _ hc
  rw [← hc]
  exact hK
theorem poly_update (w : World) (hg : o.guard = none) (m x v : Operand) (hop : o.op = Op.mapUpdate 78 m x v) (b n : Nat) (M : PM) (h : PolyAt w b n M) (hn : n < maxLen) (hm : a.eval m = .map (some b))
    (s : ByteArray) (hs : s.size ≤ maxLen) (hx : a.eval x = .string s) (c : Int) (hv : a.eval v = .int .u64 c) (hc : (Lit.int .u64 c).wf = true)
    (hK : ∀ w', PolyAt w' b (n + 1) (M.put s.data.toList c) → w.grownBy w' (some b) → wpList Try.prog ops Q rest (a.put o.dst undef) w') : wpList Try.prog ops Q (o :: rest) a w := by
  refine wpList_plain hg fun K' hK' => ?_
  obtain ⟨w', hrun, r1, r2⟩ := h.update hn s hs c hc
  unfold Oper.wp
  simp [execOp, hop, hm, hx, hv, hrun, Result.andThen]
  exact hK' _ _ (hK w' r1 r2)
theorem poly_insert (w : World) (hg : o.guard = none) (m x v : Operand) (hop : o.op = Op.insert 78 m x v) (b n : Nat) (M : PM) (h : PolyAt w b n M) (hn : n < maxLen) (hm : a.eval m = .map (some b))
    (s : ByteArray) (hs : s.size ≤ maxLen) (hx : a.eval x = .string s) (c : Int) (hv : a.eval v = .int .u64 c) (hc : (Lit.int .u64 c).wf = true)
    (hK : ∀ w', PolyAt w' b (n + 1) (M.put s.data.toList c) → w.grownBy w' (some b) → wpList Try.prog ops Q rest (a.put o.dst undef) w') : wpList Try.prog ops Q (o :: rest) a w := by
  refine wpList_plain hg fun K' hK' => ?_
  obtain ⟨w', hrun, r1, r2⟩ := h.update hn s hs c hc
  unfold Oper.wp
  simp [execOp, hop, hm, hx, hv, hrun, Result.andThen]
  exact hK' _ _ (hK w' r1 r2)
end
/-- A range over the map at b is under way, its iterator is block r; left: the keys that are still to come; cnt: how many. -/
def PolyRange (w : World) (b r n : Nat) (M : PM) (left : List UInt8 → Bool) (cnt : Nat) : Prop :=
  ∃ D L, w.ranges Try.prog 9 u64El b r n D L cnt ∧ Says D M ∧ (∀ k, left k = L (.string k)) ∧ ∀ kl, L kl = true → ∃ k, kl = .string k
theorem PolyRange.owns {w : World} {b r n cnt : Nat} {M : PM} {left : List UInt8 → Bool} (h : PolyRange w b r n M left cnt) : PolyAt w b n M := by
  obtain ⟨D, L, hr, hS, _⟩ := h
  exact ⟨D, hr.owns, hS⟩
theorem PolyRange.kept {w w' : World} {b r n cnt : Nat} {M : PM} {left : List UInt8 → Bool} {row : Option Nat} (h : PolyRange w b r n M left cnt) (hg : w.grownBy w' row) (hb : some b ≠ row) (hr : some r ≠ row) : PolyRange w' b r n M left cnt := by
  obtain ⟨D, L, h1, h2⟩ := h
  exact ⟨D, L, h1.kept hg hb hr, h2⟩
theorem PolyRange.left_eq {w : World} {b r n cnt : Nat} {M : PM} {left : List UInt8 → Bool} (h : PolyRange w b r n M left cnt) : w.rangeLeft b r = cnt := by
  obtain ⟨D, L, h1, h2⟩ := h
  exact h1.left_eq
theorem PolyRange.lt {w : World} {b r n cnt : Nat} {M : PM} {left : List UInt8 → Bool} (h : PolyRange w b r n M left cnt) : r < w.heap.size := by
  obtain ⟨D, L, h1, h2⟩ := h
  exact h1.lt
section
variable {ops : Array Oper} {rest : List Oper} {o : Oper} {a : Act} {Q : Exit → Act → World → Prop}
theorem poly_range (w : World) (hg : o.guard = none) (m : Operand) (hop : o.op = Op.range 78 m) (b n : Nat) (M : PM) (h : PolyAt w b n M) (hm : a.eval m = .map (some b)) (r : Nat) (hr : w.heap.size = r)
    (hK : ∀ w' cnt, PolyRange w' b r n M (fun k => (M k).isSome) cnt → cnt ≤ n → Below r w w' → wpList Try.prog ops Q rest (a.put o.dst (.pointer (some ⟨r, 0, none⟩))) w') :
    wpList Try.prog ops Q (o :: rest) a w := by
  subst hr
  obtain ⟨D, hD, hS⟩ := h
  refine wpList_range_own w hg m _ hop 9 30 strKey Try.underlying78 u64El b n D hm hD ?_
  intro w' hr hgr hsz
  refine hK w' _ ⟨D, _, hr, hS, fun k => (hS.has k).symm, fun kl hkl => ?_⟩ hD.size_le ⟨hgr.os, hgr.tape, hgr.output, hgr.size, fun i hi => hgr.block i hi (by simp)⟩
  obtain ⟨es, rfl, hk⟩ := hD.canon strKey
  obtain ⟨p, hp, hs⟩ := List.any_eq_true.1 hkl
  obtain ⟨es', clock, hb, F, hsz', hDD⟩ := hD
  injection hDD with hDD
  subst hDD
  obtain ⟨x, hx, rfl⟩ := List.mem_map.1 (mem_sorted.1 hp)
  obtain ⟨y, hy⟩ := F.reads x hx
  have hky := WideElems.rd_key hy
  rw [WideElems.rg_of hy] at hs
  rw [← WideAt.sameKey_eq hs]
  revert hky
  cases x.key <;> simp [keyOf, Try.underlying9, mapKey]
  intro _ e
  exact ⟨_, e.symm⟩
theorem poly_next (w : World) (hg : o.guard = none) (it : Operand) (hop : o.op = Op.next it false) (b r n : Nat) (M : PM) (left : List UInt8 → Bool) (cnt : Nat) (h : PolyRange w b r n M left cnt)
    (hit : a.eval it = .pointer (some ⟨r, 0, none⟩))
    (hDone : cnt = 0 → (∀ k, left k = false) → wpList Try.prog ops Q rest (a.put o.dst (.tuple #[.bool false])) w)
    (hMore : ∀ (s : ByteArray) (c : Int) (w' : World) (cnt' : Nat), s.size ≤ maxLen → (Lit.int .u64 c).wf = true → left s.data.toList = true → M s.data.toList = some c →
      PolyRange w' b r n M (fun k => left k && !decide (k = s.data.toList)) cnt' → cnt' < cnt → w.grownBy w' (some r) → w'.heap.size = w.heap.size →
      (Instr.entry (.pointer (some ⟨r, 0, none⟩))).run Try.prog w' = .ok (.tuple #[.string s, .int .u64 c]) w' → wpList Try.prog ops Q rest (a.put o.dst (.tuple #[.bool true, .string s, .int .u64 c])) w') :
    wpList Try.prog ops Q (o :: rest) a w := by
  obtain ⟨D, L, hr, hS, hl, hL⟩ := h
  refine wpList_next_ranges w hg it hop 9 strKey u64El Value.string (Value.int .u64) (fun key kl hk => ?_) (fun v y hv => by obtain ⟨c, rfl, _⟩ := plainElem_int_inv Try.underlying30 hv; exact ⟨c, rfl⟩) b r n D L cnt hit hr (fun h0 hn => hDone h0 (fun k => by rw [hl, hn])) ?_
  · revert hk
    cases key <;> simp [keyOf, Try.underlying9, mapKey]
  · intro s c kl y w' cnt' hkey hlk hv hat hrg hlt hgr hsz hen
    obtain ⟨c', ec, rfl, hwc⟩ := plainElem_int_inv Try.underlying30 hv
    cases ec
    have hkl : kl = .string s.data.toList ∧ s.size ≤ maxLen := by
      simp [keyOf, Try.underlying9, mapKey] at hkey
      exact ⟨hkey.2.symm, hkey.1⟩
    obtain ⟨rfl, hs⟩ := hkl
    have hM : M s.data.toList = some c := by
      have h1 := hS s.data.toList
      have h2 := Maps.has_true_of_atKey hat
      rw [hS.has] at h2
      revert h1 h2
      cases M s.data.toList with
      | none => simp
      | some c1 =>
        intro h1 _
        have e1 : (DataW.lit (.int .u64 c1) : DataW Unit) = .lit (.int .u64 c) := (h1 .nil).symm.trans (hat .nil)
        have e2 : c1 = c := by simpa using e1
        rw [e2]
    refine hMore s c w' cnt' hs hwc (by rw [hl]; exact hlk) hM ⟨D, _, hrg, hS, fun k => ?_, fun kl hkl => hL kl (by simp at hkl; exact hkl.1)⟩ hlt hgr hsz hen
    show (left k && !decide (k = s.data.toList)) = _
    have e2 : decide (k = s.data.toList) = (Lit.string k).sameKey (.string s.data.toList) := by
      by_cases e : k = s.data.toList
      · rw [decide_eq_true e, e]; simp [Lit.sameKey]
      · rw [decide_eq_false e]; exact (Maps.sameKey_ne (fun h => e (by simpa using h))).symm
    rw [hl, e2]
end
end Go.Proofs.Ytmdahjmkfipdfaa
