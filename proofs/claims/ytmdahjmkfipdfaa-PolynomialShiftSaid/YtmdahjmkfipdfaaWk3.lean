/- walks: pattern.valid -/
import Derived.Test.YtmdahjmkfipdfaaWk2
namespace Go.Proofs.Ytmdahjmkfipdfaa
set_option linter.unusedVariables false
set_option linter.unusedSimpArgs false
open Go.RowKit Go.Proofs.YtmdahjmkfipdfaaW.PrintWords Go.Proofs.YtmdahjmkfipdfaaW.PrintLast Go.Proofs.YtmdahjmkfipdfaaW.PrintMore
/-- The block of a row of whole numbers that the call may write. -/
def Nums (w : World) (g : Nat) (e : TypeId) (l : List Int) : Prop := w.heap[g]? = some (.cells (nums .i64 l).toArray e (0, 0))
theorem Nums.cell {w : World} {g : Nat} {e : TypeId} {l : List Int} (h : Nums w g e l) {i : Nat} {x : Int} (hx : l[i]? = some x) : w.cell? ⟨g, i, none⟩ = some (.int .i64 x) := by
  rw [blk_cell h]; simp [nums, hx]
theorem Nums.free {w : World} {g : Nat} {e : TypeId} {l : List Int} (h : Nums w g e l) (i : Nat) : w.frozen? ⟨g, i, none⟩ = false := blk_frozen h i
theorem Nums.set {w : World} {g : Nat} {e : TypeId} {l : List Int} (h : Nums w g e l) (i : Nat) (x : Int) : Nums (w.setCell ⟨g, i, none⟩ (.int .i64 x)) g e (l.set i x) := by
  have := blk_set h i (.int .i64 x)
  unfold Nums
  rw [this]
  simp [nums]
theorem Nums.below {w w' : World} {g : Nat} {e : TypeId} {l : List Int} (h : Nums w g e l) (hb : Below w.heap.size w w') : Nums w' g e l := blk_below h hb
theorem Nums.lt {w : World} {g : Nat} {e : TypeId} {l : List Int} (h : Nums w g e l) : g < w.heap.size := blk_lt h
/-- What valid leaves. -/
def ValidRes (w0 w : World) (g : Nat) (e : TypeId) (r : Bool × List Int) (en : Ending) (w' : World) : Prop :=
  en = .returned (.bool r.1) ∧ Nums w' g e r.2 ∧ Below w0.heap.size w0 w' ∧ KeepBut w w' g none
set_option maxHeartbeats 2000000 in
set_option maxRecDepth 100000 in
theorem valid_var (p : Pat) (A : Option Addr) (c cv : Nat) (sort imms : Int) (vars : List Int) (g : Nat) (w0 w : World) (hB : Below w0.heap.size w0 w) (hg : w0.heap.size ≤ g)
    (hv : Nums w g 3 vars) (nv : Nat) (hnv : vars.length = nv) (hn : nv ≤ 6) (h0 : p.var ≠ 0) :
    Calls Try.prog 64 #[.agg #[.int .i64 p.var, .int .i64 p.op, .int .i64 p.imm, .int .i64 p.immVar, .slice A p.kids.length c], .int .i64 sort, .int .i64 imms, .slice (some ⟨g, 0, none⟩) nv cv] w (ValidRes w0 w g 3 (valid imms p sort vars)) := by
  subst hnv
  obtain ⟨v, o, i, iv, ks⟩ := p
  simp only at h0 ⊢
  have hne : ∀ o, (w.alloc o).heap[g]? = w.heap[g]? := fun o => by simp [Below.heap_alloc w o g hv.lt]
  have hk0 : ∀ ob, ValidRes w0 w g 3 (false, vars) (.returned (.bool false)) (w.alloc ob) := fun ob => ⟨rfl, hv.below ((Below.refl _ _).alloc (Nat.le_refl _) _), hB.alloc hB.size _, keep_alloc (KeepBut.refl _ _ _) _⟩
  have e0 : (v != 0) = true := by simpa using h0
  have E : Hid (valid imms ⟨v, o, i, iv, ks⟩ sort vars = if v < 1 ∨ v > vars.length ∨ o ≠ 0 ∨ i ≠ 0 ∨ iv ≠ 0 ∨ ks.length > 0 then (false, vars)
      else if vars.getD (v - 1).toNat 0 = 0 then (true, vars.set (v - 1).toNat sort)
      else if sort ≠ 0 ∧ sort ≠ vars.getD (v - 1).toNat 0 then (false, vars) else (true, vars)) := Lib.hid (by rw [valid, if_pos h0])
  by_cases h1 : v < 1
  · rw [E.out, if_pos (Or.inl h1)]
    go_enter Try.func64, Try.ntmps64
    go_wp2
    go_ret
    exact hk0 _
  by_cases h2 : v > vars.length
  · rw [E.out, if_pos (Or.inr (Or.inl h2))]
    go_enter Try.func64, Try.ntmps64
    go_wp2
    go_ret
    exact hk0 _
  by_cases h3 : o ≠ 0
  · rw [E.out, if_pos (Or.inr (Or.inr (Or.inl h3)))]
    have e3 : (o != 0) = true := by simpa using h3
    go_enter Try.func64, Try.ntmps64
    go_wp2
    go_ret
    exact hk0 _
  obtain rfl : o = 0 := Classical.not_not.1 h3
  by_cases h4 : i ≠ 0
  · rw [E.out, if_pos (by simp [h4])]
    have e3 : (i != 0) = true := by simpa using h4
    go_enter Try.func64, Try.ntmps64
    go_wp2
    go_ret
    exact hk0 _
  obtain rfl : i = 0 := Classical.not_not.1 h4
  by_cases h5 : iv ≠ 0
  · rw [E.out, if_pos (by simp [h5])]
    have e3 : (iv != 0) = true := by simpa using h5
    go_enter Try.func64, Try.ntmps64
    go_wp2
    go_ret
    exact hk0 _
  obtain rfl : iv = 0 := Classical.not_not.1 h5
  by_cases h6 : ks.length > 0
  · rw [E.out, if_pos (by simp; omega)]
    go_enter Try.func64, Try.ntmps64
    go_wp2
    go_ret
    exact hk0 _
  rw [if_neg (by omega)] at E
  obtain ⟨n, rfl⟩ : ∃ n : Nat, v = (n : Int) + 1 := ⟨(v - 1).toNat, by omega⟩
  have hn1 : n < vars.length := by omega
  obtain ⟨x, hx⟩ : ∃ x, vars[n]? = some x := ⟨_, List.getElem?_eq_getElem hn1⟩
  have en : ((n : Int) + 1 - 1).toNat = n := by omega
  rw [en] at E
  have ex : vars.getD n 0 = x := by simp [List.getD_eq_getElem?_getD, hx]
  rw [ex] at E
  clear ex en
  have hb : ∀ ob, Below w.heap.size w (w.alloc ob) := fun ob => (Below.refl _ _).alloc (Nat.le_refl _) _
  have hc : ∀ ob, (w.alloc ob).cell? ⟨g, n, none⟩ = some (.int .i64 x) := fun ob => (hv.below (hb ob)).cell hx
  have hf : ∀ ob, (w.alloc ob).frozen? ⟨g, n, none⟩ = false := fun ob => (hv.below (hb ob)).free n
  clear hx
  have hks : ks.length = 0 := by omega
  have hks' := Lib.hid hks
  have hk1 : ∀ ob, ValidRes w0 w g 3 (true, vars) (.returned (.bool true)) (w.alloc ob) := fun ob => ⟨rfl, hv.below (hb ob), hB.alloc hB.size _, keep_alloc (KeepBut.refl _ _ _) _⟩
  by_cases hx0 : x = 0
  · subst hx0
    rw [E.out, if_pos rfl]
    clear E
    go_enter Try.func64, Try.ntmps64
    go_wp2
    go_ret
    exact ⟨rfl, (hv.below (hb _)).set n sort, (hB.alloc hB.size _).setCell hg _, (keep_alloc (KeepBut.refl _ _ _) _).set_ _ _⟩
  · have ex0 := beq_no hx0
    rw [if_neg hx0] at E
    by_cases hs0 : sort = 0
    · subst hs0
      rw [E.out, if_neg (by simp)]
      clear E
      go_enter Try.func64, Try.ntmps64
      go_wp2
      go_ret
      exact hk1 _
    · have es0 : (sort != 0) = true := by simpa using hs0
      by_cases hsx : sort = x
      · subst hsx
        rw [E.out, if_neg (by simp)]
        clear E
        go_enter Try.func64, Try.ntmps64
        go_wp2
        go_ret
        exact hk1 _
      · have esx : (sort != x) = true := by simpa using hsx
        rw [E.out, if_pos ⟨hs0, hsx⟩]
        clear E
        go_enter Try.func64, Try.ntmps64
        go_wp2
        go_ret
        exact hk0 _
end Go.Proofs.Ytmdahjmkfipdfaa
