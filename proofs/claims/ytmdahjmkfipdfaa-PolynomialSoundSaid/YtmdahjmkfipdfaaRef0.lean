/- The reference's sums: sorted lists of monomials. Plain Lean. -/
import Derived.Test.YtmdahjmkfipdfaaPmSame
namespace Go.Proofs.Ytmdahjmkfipdfaa
set_option linter.unusedVariables false
set_option linter.unusedSimpArgs false
theorem lessL_trans : ∀ {a b c : List Int}, a.length = b.length → b.length = c.length → lessL a b = true → lessL b c = true → lessL a c = true
  | [], _, _, _, _, h, _ => by simp [lessL] at h
  | x :: a, y :: b, z :: c, h1, h2, h3, h4 => by
    rw [lessL] at h3 h4 ⊢
    by_cases e1 : x = y
    · subst e1
      rw [if_pos rfl] at h3
      by_cases e2 : x = z
      · subst e2
        rw [if_pos rfl] at h4 ⊢
        exact lessL_trans (by simpa using h1) (by simpa using h2) h3 h4
      · rw [if_neg e2] at h4 ⊢
        exact h4
    · rw [if_neg e1] at h3
      by_cases e2 : y = z
      · subst e2
        rw [if_neg e1]
        exact h3
      · rw [if_neg e2] at h4
        simp only [decide_eq_true_eq] at h3 h4
        rw [if_neg (by omega), decide_eq_true (by omega)]
theorem lessL_asymm {a b : List Int} (h : lessL a b = true) (hl : a.length = b.length) : lessL b a = false := by
  cases e : lessL b a with
  | false => rfl
  | true =>
    have := lessL_trans hl hl.symm h e
    rw [lessL_irrefl] at this
    cases this
/-- The terms of a list of monomials. -/
def tms (l : List Mono) : List (List Int × Int) := l.map fun m => (m.exps, m.coef)
theorem tms_cons (m : Mono) (l : List Mono) : tms (m :: l) = (m.exps, m.coef) :: tms l := rfl
/-- fullingref18.addTerm. -/
def addT (m : Mono) : List Mono → List Mono
  | [] => if m.coef ≠ 0 then [m] else []
  | x :: l => if lessL x.exps m.exps = true then x :: addT m l
    else if lessL m.exps x.exps = true then (if m.coef ≠ 0 then m :: x :: l else x :: l)
    else if (x.coef + m.coef) % 18446744073709551616 ≠ 0 then ⟨m.exps, (x.coef + m.coef) % 18446744073709551616⟩ :: l else l
/-- A sum in order: no monomial twice, no coefficient 0. -/
def Sorted (v : Nat) (l : List Mono) : Prop := l.Pairwise (fun a b => lessL a.exps b.exps = true) ∧ ∀ m ∈ l, m.exps.length = v ∧ 0 < m.coef ∧ m.coef < 18446744073709551616
theorem Sorted.tail {v : Nat} {m : Mono} {l : List Mono} (h : Sorted v (m :: l)) : Sorted v l := ⟨(List.pairwise_cons.1 h.1).2, fun x hx => h.2 x (by simp [hx])⟩
theorem mem_addT {m y : Mono} : ∀ {l : List Mono}, y ∈ addT m l → y.exps = m.exps ∨ y ∈ l
  | [], h => by
    rw [addT] at h
    split at h
    · simp at h; exact Or.inl (by rw [h])
    · simp at h
  | x :: l, h => by
    rw [addT] at h
    split at h
    · rcases List.mem_cons.1 h with rfl | h
      · exact Or.inr (by simp)
      · rcases mem_addT h with h | h
        · exact Or.inl h
        · exact Or.inr (by simp [h])
    · split at h
      · split at h
        · rcases List.mem_cons.1 h with rfl | h
          · exact Or.inl rfl
          · exact Or.inr h
        · exact Or.inr h
      · split at h
        · rcases List.mem_cons.1 h with rfl | h
          · exact Or.inl rfl
          · exact Or.inr (by simp [h])
        · exact Or.inr (by simp [h])
theorem addT_sorted {v : Nat} {m : Mono} (hm : m.exps.length = v ∧ 0 ≤ m.coef ∧ m.coef < 18446744073709551616) : ∀ {l : List Mono}, Sorted v l → Sorted v (addT m l)
  | [], _ => by
    rw [addT]
    split
    · exact ⟨by simp, fun x hx => by simp at hx; subst hx; exact ⟨hm.1, by omega, hm.2.2⟩⟩
    · exact ⟨by simp, fun x hx => by cases hx⟩
  | x :: l, h => by
    have hx := h.2 x (by simp)
    have hp := List.pairwise_cons.1 h.1
    rw [addT]
    split
    · rename_i h1
      have ih := addT_sorted hm h.tail
      refine ⟨List.pairwise_cons.2 ⟨fun y hy => ?_, ih.1⟩, fun y hy => ?_⟩
      · rcases mem_addT hy with e | hy
        · rw [e]; exact h1
        · exact hp.1 y hy
      · rcases List.mem_cons.1 hy with rfl | hy
        · exact hx
        · exact ih.2 y hy
    · rename_i h1
      split
      · rename_i h2
        split
        · rename_i h3
          refine ⟨List.pairwise_cons.2 ⟨fun y hy => ?_, h.1⟩, fun y hy => ?_⟩
          · rcases List.mem_cons.1 hy with rfl | hy
            · exact h2
            · exact lessL_trans (by rw [hm.1, hx.1]) (by rw [hx.1, (h.2 y (by simp [hy])).1]) h2 (hp.1 y hy)
          · rcases List.mem_cons.1 hy with rfl | hy
            · exact ⟨hm.1, by omega, hm.2.2⟩
            · exact h.2 y hy
        · exact h
      · rename_i h2
        have e : x.exps = m.exps := lessL_eq (by rw [hm.1, hx.1]) (by simpa using h1) (by simpa using h2)
        split
        · rename_i h3
          refine ⟨List.pairwise_cons.2 ⟨fun y hy => by rw [← e]; exact hp.1 y hy, hp.2⟩, fun y hy => ?_⟩
          rcases List.mem_cons.1 hy with rfl | hy
          · exact ⟨hm.1, by simp only; omega, by simp only; omega⟩
          · exact h.2 y (by simp [hy])
        · exact h.tail
theorem addT_tsum {v : Nat} {m : Mono} (hm : m.exps.length = v) (k : List Int) : ∀ {l : List Mono}, (∀ x ∈ l, x.exps.length = v) →
    tsum (tms (addT m l)) k % 18446744073709551616 = (tsum (tms l) k + if m.exps = k then m.coef else 0) % 18446744073709551616
  | [], _ => by
    rw [addT]
    split
    · rw [tms_cons, tsum_cons]; simp [tms, tsum_nil]
    · rename_i h
      have : m.coef = 0 := Classical.not_not.1 h
      simp [tms, tsum_nil, this]
  | x :: l, h => by
    have hx := h x (by simp)
    rw [addT]
    split
    · have ih := addT_tsum hm k (l := l) (fun y hy => h y (by simp [hy]))
      rw [tms_cons, tsum_cons, tms_cons, tsum_cons]
      simp only
      omega
    · rename_i h1
      split
      · split
        · rw [tms_cons, tsum_cons, tms_cons, tsum_cons]
          simp only
          congr 1
          omega
        · rename_i h3
          have : m.coef = 0 := Classical.not_not.1 h3
          rw [this]
          simp
      · rename_i h2
        have e : x.exps = m.exps := lessL_eq (by rw [hm, hx]) (by simpa using h1) (by simpa using h2)
        split
        · rw [tms_cons, tsum_cons, tms_cons, tsum_cons]
          simp only
          rw [e]
          split <;> omega
        · rename_i h3
          have h3' : (x.coef + m.coef) % 18446744073709551616 = 0 := Classical.not_not.1 h3
          rw [tms_cons, tsum_cons]
          simp only
          rw [e]
          split <;> omega
theorem tsum_none {l : List Mono} {k : List Int} (h : ∀ m ∈ l, m.exps ≠ k) : tsum (tms l) k = 0 := by
  induction l with
  | nil => rfl
  | cons m l ih =>
    rw [tms_cons, tsum_cons, if_neg (h m (by simp)), ih (fun x hx => h x (by simp [hx]))]
    rfl
/-- At a sorted sum's first key stands its coefficient; keys below it have none. -/
theorem Sorted.head {v : Nat} {m : Mono} {l : List Mono} (h : Sorted v (m :: l)) : tsum (tms (m :: l)) m.exps = m.coef := by
  rw [tms_cons, tsum_cons, if_pos rfl, tsum_none fun x hx e => ?_]
  · simp
  · have := (List.pairwise_cons.1 h.1).1 x hx
    rw [e, lessL_irrefl] at this
    cases this
theorem Sorted.below {v : Nat} {l : List Mono} (h : Sorted v l) {k : List Int} (hk : k.length = v) (hb : ∀ m, l.head? = some m → lessL k m.exps = true) : tsum (tms l) k = 0 := by
  refine tsum_none fun x hx e => ?_
  cases l with
  | nil => cases hx
  | cons m l =>
    have h1 := hb m rfl
    rcases List.mem_cons.1 hx with rfl | hx
    · rw [e, lessL_irrefl] at h1; cases h1
    · have h2 := (List.pairwise_cons.1 h.1).1 x hx
      rw [e] at h2
      have h3 := lessL_asymm h1 (by rw [hk, (h.2 m (by simp)).1])
      rw [h3] at h2
      cases h2
/-- Two sums in order that say the same of each key are one. -/
theorem Sorted.uniq {v : Nat} : ∀ {a b : List Mono}, Sorted v a → Sorted v b → (∀ k, tsum (tms a) k % 18446744073709551616 = tsum (tms b) k % 18446744073709551616) → a = b
  | [], [], _, _, _ => rfl
  | [], m :: l, _, hb, h => by
    have h1 := h m.exps
    rw [hb.head] at h1
    have := hb.2 m (by simp)
    simp [tms, tsum_nil] at h1
    omega
  | m :: l, [], ha, _, h => by
    have h1 := h m.exps
    rw [ha.head] at h1
    have := ha.2 m (by simp)
    simp [tms, tsum_nil] at h1
    omega
  | m :: l, n :: r, ha, hb, h => by
    have hm := ha.2 m (by simp)
    have hn := hb.2 n (by simp)
    have h1 := h m.exps
    have h2 := h n.exps
    rw [ha.head] at h1
    rw [hb.head] at h2
    have l1 : lessL m.exps n.exps = false := by
      cases e : lessL m.exps n.exps with
      | false => rfl
      | true =>
        rw [hb.below hm.1 (fun x hx => by cases hx; exact e)] at h1
        omega
    have l2 : lessL n.exps m.exps = false := by
      cases e : lessL n.exps m.exps with
      | false => rfl
      | true =>
        rw [ha.below hn.1 (fun x hx => by cases hx; exact e)] at h2
        omega
    have e : m.exps = n.exps := lessL_eq (by rw [hm.1, hn.1]) l1 l2
    rw [e, hb.head] at h1
    have ec : m.coef = n.coef := by omega
    have emn : m = n := by
      obtain ⟨a, b⟩ := m
      obtain ⟨c, d⟩ := n
      simp only at e ec
      rw [e, ec]
    subst emn
    rw [Sorted.uniq ha.tail hb.tail fun k => ?_]
    have hk := h k
    rw [tms_cons, tsum_cons, tms_cons, tsum_cons] at hk
    omega
end Go.Proofs.Ytmdahjmkfipdfaa
