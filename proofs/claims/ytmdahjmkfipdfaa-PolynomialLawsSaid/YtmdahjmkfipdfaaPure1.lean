/- plain -/
import Derived.Test.YtmdahjmkfipdfaaPure0
namespace Go.Proofs.Ytmdahjmkfipdfaa
set_option linter.unusedVariables false
set_option linter.unusedSimpArgs false
theorem Pat.ind {P : Pat → Prop} (h : ∀ p : Pat, (∀ k ∈ p.kids, P k) → P p) (p : Pat) : P p :=
  Pat.rec (motive_1 := P) (motive_2 := fun ks => ∀ k ∈ ks, P k) (fun _ _ _ _ _ ih => h _ ih) (fun _ hk => by cases hk)
    (fun k ks hk ih x hx => by
      rcases List.mem_cons.1 hx with e | hx
      · exact e ▸ hk
      · exact ih x hx) p
mutual
def Pat.size : Pat → Int
  | ⟨_, _, _, _, ks⟩ => 1 + Pat.sizes ks
def Pat.sizes : List Pat → Int
  | [] => 0
  | k :: ks => k.size + Pat.sizes ks
end
theorem Pat.size_eq (p : Pat) : p.size = 1 + Pat.sizes p.kids := by cases p; simp [Pat.size]
theorem sizes_append (a b : List Pat) : Pat.sizes (a ++ b) = Pat.sizes a + Pat.sizes b := by
  induction a with
  | nil => simp [Pat.sizes]
  | cons x a ih => simp [Pat.sizes, ih, Int.add_assoc]
theorem take_succ_of {α : Type} {l : List α} {k : Nat} {q : α} (h : l[k]? = some q) : l.take (k + 1) = l.take k ++ [q] := by
  rw [List.take_add_one, h]; rfl
theorem sizes_take_succ {l : List Pat} {k : Nat} {q : Pat} (h : l[k]? = some q) : Pat.sizes (l.take (k + 1)) = Pat.sizes (l.take k) + q.size := by
  rw [take_succ_of h, sizes_append]; simp [Pat.sizes]
theorem getD_mem {α : Type} (l : List α) (k : Nat) (d : α) (h : k < l.length) : l.getD k d ∈ l := by
  rw [List.getD_eq_getElem?_getD, List.getElem?_eq_getElem h]; exact List.getElem_mem h
def wrap64' (x : Int) : Int := (x + 9223372036854775808) % 18446744073709551616 - 9223372036854775808
/-! ### operations -/
def arity (op : Int) : Int × Bool :=
  if op = 1 ∨ op = 2 ∨ op = 3 ∨ op = 26 then (0, true) else if op = 20 ∨ op = 21 ∨ op = 24 ∨ op = 25 then (1, true)
  else if op = 23 ∨ op = 27 ∨ op = 29 then (2, true) else if op = 22 ∨ op = 28 then (3, true) else if op = 30 ∨ op = 31 then (-1, true)
  else if 4 ≤ op ∧ op ≤ 19 then (2, true) else (0, false)
def hasImm (op : Int) : Bool := decide (op = 1 ∨ op = 23 ∨ op = 27 ∨ op = 28)
def opSorts (op : Int) : Option (List Int × Int) :=
  if op = 1 then some ([], 1) else if op = 23 then some ([2, 1], 1) else if op = 24 then some ([2], 1) else if op = 27 ∨ op = 29 then some ([2, 1], 2)
  else if op = 28 then some ([2, 1, 1], 2) else if 4 ≤ op ∧ op ≤ 19 then some ([1, 1], 1) else if op = 20 ∨ op = 21 then some ([1], 1)
  else if op = 22 then some ([1, 1, 1], 1) else none
def validImm (p : Pat) (imms : Int) : Bool :=
  if p.immVar ≠ 0 then hasImm p.op && decide (p.imm = 0 ∧ 1 ≤ p.immVar ∧ p.immVar ≤ imms)
  else if p.op = 23 ∨ p.op = 28 then decide (0 ≤ p.imm ∧ p.imm < 4)
  else if p.op = 27 then decide (1 ≤ p.imm ∧ p.imm ≤ 1000016)
  else decide (p.op = 1 ∨ p.imm = 0)
mutual
def valid (imms : Int) : Pat → Int → List Int → Bool × List Int
  | ⟨v, o, i, iv, ks⟩, sort, vars =>
    if v ≠ 0 then
      if v < 1 ∨ v > vars.length ∨ o ≠ 0 ∨ i ≠ 0 ∨ iv ≠ 0 ∨ ks.length > 0 then (false, vars)
      else if vars.getD (v - 1).toNat 0 = 0 then (true, vars.set (v - 1).toNat sort)
      else if sort ≠ 0 ∧ sort ≠ vars.getD (v - 1).toNat 0 then (false, vars) else (true, vars)
    else match opSorts o with
      | none => (false, vars)
      | some (kids, own) =>
        if ks.length ≠ kids.length ∨ (sort ≠ 0 ∧ sort ≠ own) ∨ validImm ⟨v, o, i, iv, ks⟩ imms = false then (false, vars) else valids imms ks kids vars
def valids (imms : Int) : List Pat → List Int → List Int → Bool × List Int
  | [], _, vars => (true, vars)
  | k :: ks, s, vars => if (valid imms k (s.headD 0) vars).1 = true then valids imms ks s.tail (valid imms k (s.headD 0) vars).2 else (false, (valid imms k (s.headD 0) vars).2)
end
theorem valid_none {imms o i iv sort : Int} {ks : List Pat} {vars : List Int} (h : opSorts o = none) : valid imms ⟨0, o, i, iv, ks⟩ sort vars = (false, vars) := by
  rw [valid, if_neg (by simp)]; simp only [h]
theorem valid_some {imms o i iv sort own : Int} {ks : List Pat} {vars kids : List Int} (h : opSorts o = some (kids, own)) : valid imms ⟨0, o, i, iv, ks⟩ sort vars =
    if ks.length ≠ kids.length ∨ (sort ≠ 0 ∧ sort ≠ own) ∨ validImm ⟨0, o, i, iv, ks⟩ imms = false then (false, vars) else valids imms ks kids vars := by
  rw [valid, if_neg (by simp)]; simp only [h]
theorem valids_drop (imms : Int) (ks : List Pat) (s vars : List Int) (k : Nat) (q : Pat) (x : Int) (hq : ks[k]? = some q) (hx : s[k]? = some x) :
    valids imms (ks.drop k) (s.drop k) vars = if (valid imms q x vars).1 = true then valids imms (ks.drop (k + 1)) (s.drop (k + 1)) (valid imms q x vars).2 else (false, (valid imms q x vars).2) := by
  obtain ⟨h1, e1⟩ := List.getElem?_eq_some_iff.1 hq
  obtain ⟨h2, e2⟩ := List.getElem?_eq_some_iff.1 hx
  rw [List.drop_eq_getElem_cons h1, List.drop_eq_getElem_cons h2, e1, e2, valids]
  simp
theorem valids_len (imms : Int) : ∀ (ks : List Pat) (s vars : List Int), (∀ k ∈ ks, ∀ (sort : Int) (vars : List Int), (valid imms k sort vars).2.length = vars.length) → (valids imms ks s vars).2.length = vars.length
  | [], _, _, _ => by simp [valids]
  | k :: ks, s, vars, h => by
    rw [valids]
    have h1 := h k (by simp) (s.headD 0) vars
    split
    · rw [valids_len imms ks _ _ (fun q hq => h q (by simp [hq])), h1]
    · exact h1
theorem valid_len (imms : Int) : ∀ (p : Pat) (sort : Int) (vars : List Int), (valid imms p sort vars).2.length = vars.length := by
  refine Pat.ind ?_
  rintro ⟨v, o, i, iv, ks⟩ ih sort vars
  rw [valid]
  split
  · repeat' split
    all_goals simp
  · split
    · rfl
    · split
      · rfl
      · exact valids_len imms ks _ _ ih
def patValid (p : Pat) (vars imms : Int) : Bool :=
  if vars < 0 ∨ vars > 6 ∨ imms < 0 ∨ imms > 6 ∨ wrap64' p.size > 24 then false else (valid imms p 0 (List.replicate vars.toNat 0)).1
end Go.Proofs.Ytmdahjmkfipdfaa
