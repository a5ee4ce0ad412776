/- walks: fullingkeep.Pick, Word, Reader.Next -/
import Derived.Test.YtmdahjmkfipdfaaPmEx
import Derived.Test.YtmdahjmkfipdfaaGen0
namespace Go.Proofs.Ytmdahjmkfipdfaa
set_option linter.unusedVariables false
set_option linter.unusedSimpArgs false
open Go.RowKit Go.Proofs.YtmdahjmkfipdfaaW.PrintWords Go.Proofs.YtmdahjmkfipdfaaW.PrintLast Go.Proofs.YtmdahjmkfipdfaaW.PrintMore
set_option maxRecDepth 100000 in
theorem Pick_calls (n m : Int) (w : World) (hm : 0 < m) (hm2 : m ≤ 4611686018427387904) : Calls Try.prog 22 #[.int .i64 n, .int .i64 m] w fun e w' => e = .returned (.int .i64 (n % m)) ∧ w' = w := by
  have hp := pick_eq n hm
  have hb := tmod_bounds n hm
  have hw : wrap64 (n.tmod m) = n.tmod m := by rw [wrap64]; omega
  have hm0 : ¬ m = 0 := by omega
  have hm0' := beq_no hm0
  by_cases h : n.tmod m < 0
  · have hw2 : wrap64 (n.tmod m + m) = n.tmod m + m := by rw [wrap64]; omega
    go_enter Try.func22, Try.ntmps22
    go_wp2
    go_ret
    rw [← hp]
    unfold pick
    rw [if_pos h]
    exact ⟨rfl, rfl⟩
  · go_enter Try.func22, Try.ntmps22
    go_wp2
    go_ret
    rw [← hp]
    unfold pick
    rw [if_neg (by omega)]
    exact ⟨rfl, rfl⟩
set_option maxHeartbeats 1000000 in
set_option maxRecDepth 100000 in
theorem Word_calls (n raw : Int) (w : World) (hn : I64 n) : Calls Try.prog 34 #[.int .i64 n, .int .i64 raw] w fun e w' => e = .returned (.int .i64 (word n raw)) ∧ Below w.heap.size w w' := by
  have hW := fun ob => (Below.refl w.heap.size w).alloc (Nat.le_refl _) ob
  have pc := fun W => Pick_calls n 24 W (by decide) (by decide)
  have pc2 := fun W => Pick_calls (n.tdiv 24) 17 W (by decide) (by decide)
  have hw : wrap64 (n.tdiv 24) = n.tdiv 24 := by
    have := tdiv_i64 hn (show (2 : Int) ≤ 24 by decide)
    unfold I64 at this
    rw [wrap64]
    omega
  by_cases h1 : n % 24 < 10
  · have E : Hid (word n raw = edges.getD (n % 24).toNat 0) := Lib.hid (by rw [word, if_pos h1])
    obtain ⟨x, hx⟩ : ∃ x, x = n % 24 := ⟨_, rfl⟩
    rw [← hx] at pc h1 E
    have hx0 : x = 0 ∨ x = 1 ∨ x = 2 ∨ x = 3 ∨ x = 4 ∨ x = 5 ∨ x = 6 ∨ x = 7 ∨ x = 8 ∨ x = 9 := by omega
    clear hx pc2 hw h1
    rcases hx0 with rfl | rfl | rfl | rfl | rfl | rfl | rfl | rfl | rfl | rfl
    all_goals
      go_enter Try.func34, Try.ntmps34
      go_wp2_with fail
      refine (pc _).mono ?_
      rintro e w' ⟨rfl, rfl⟩
      go_wp2
      go_ret
      rw [E.out]
      exact ⟨rfl, hW _⟩
  · by_cases h2 : n % 24 < 22
    · have E : Hid (word n raw = wrap64 ((n.tdiv 24) % 17 - 6)) := Lib.hid (by rw [word, if_neg h1, if_pos h2, wrap64]; omega)
      obtain ⟨x, hx⟩ : ∃ x, x = n % 24 := ⟨_, rfl⟩
      obtain ⟨y, hy⟩ : ∃ y, y = n.tdiv 24 % 17 := ⟨_, rfl⟩
      rw [← hx] at pc h1 h2
      rw [← hy] at pc2 E
      clear hx hy
      go_enter Try.func34, Try.ntmps34
      go_wp2_with fail
      refine (pc _).mono ?_
      rintro e w' ⟨rfl, rfl⟩
      go_wp2_with fail
      refine (pc2 _).mono ?_
      rintro e w' ⟨rfl, rfl⟩
      go_wp2
      go_ret
      rw [E.out]
      exact ⟨rfl, hW _⟩
    · have E : Hid (word n raw = raw) := Lib.hid (by rw [word, if_neg h1, if_neg h2])
      obtain ⟨x, hx⟩ : ∃ x, x = n % 24 := ⟨_, rfl⟩
      rw [← hx] at pc h1 h2
      clear hx pc2 hw
      go_enter Try.func34, Try.ntmps34
      go_wp2_with fail
      refine (pc _).mono ?_
      rintro e w' ⟨rfl, rfl⟩
      go_wp2
      go_ret
      rw [E.out]
      exact ⟨rfl, hW _⟩
/-- A Reader at block b: the seeds that are left lie in an older world w0. -/
def Rd (w0 w : World) (b : Nat) (ls : List Int) : Prop := ∃ A c, Below w0.heap.size w0 w ∧ w0.heap.size ≤ b ∧ w.heap[b]? = some (.cells #[.slice A ls.length c, .int .i64 0] 54 (0, 0)) ∧ (Kd.int .i64).C w0 A ls.length ls ∧ ls.length ≤ c
theorem Rd.below {w0 w w' : World} {b : Nat} {ls : List Int} (h : Rd w0 w b ls) (hb : Below w.heap.size w w') : Rd w0 w' b ls := by
  obtain ⟨A, c, h1, h2, h3, h4, h5⟩ := h
  exact ⟨A, c, below_then h1 h1.size hb, h2, blk_below h3 hb, h4, h5⟩
theorem Rd.lt {w0 w : World} {b : Nat} {ls : List Int} (h : Rd w0 w b ls) : b < w.heap.size := by
  obtain ⟨A, c, h1, h2, h3, h4, h5⟩ := h
  exact blk_lt h3
set_option maxRecDepth 100000 in
theorem Next_calls (w0 w : World) (b : Nat) (ls : List Int) (h : Rd w0 w b ls) : Calls Try.prog 47 #[.pointer (some ⟨b, 0, none⟩)] w fun e w' => e = .returned (.int .i64 (ls.headD 0)) ∧ Rd w0 w' b ls.tail ∧ KeepBut w w' b none := by
  obtain ⟨A, c, h1, h2, h3, h4, h5⟩ := h
  have c0 := (blk_cell h3 0).trans rfl
  have hf := blk_frozen h3 0
  have hlt := blk_lt h3
  cases ls with
  | nil =>
    go_enter Try.func47, Try.ntmps47
    go_wp2
    go_ret
    exact ⟨rfl, ⟨A, c, h1, h2, h3, h4, h5⟩, KeepBut.refl _ _ _⟩
  | cons n r =>
    obtain ⟨ad, rfl, hx⟩ := atN_int (k := 0) h4 rfl
    have hx' := pw_cell_below h1 hx
    have hd := Kd.C_drop (m := 1) (c := c) h4 (by simp) h5
    have hmax := Kd.C_max h4
    have e1 : ad.add 0 = ad := add0 _
    rw [e1] at hx'
    obtain ⟨A', hA', hd'⟩ : ∃ A', (if c = 1 then some ad else some (ad.add 1)) = A' ∧ (Kd.int .i64).C w0 A' r.length r := ⟨_, rfl, hd⟩
    clear hd
    go_enter Try.func47, Try.ntmps47
    by_cases hc1 : c = 1
    · subst hc1
      rw [if_pos rfl] at hA'
      subst hA'
      go_wp2
      go_ret
      refine ⟨rfl, ⟨_, 0, h1.setCell h2 _, h2, ?_, hd', by simp at h5; simp [h5]⟩, (KeepBut.refl _ _ _).set_ _ _⟩
      rw [blk_set h3]
      rfl
    · rw [if_neg hc1] at hA'
      subst hA'
      go_wp2
      go_ret
      refine ⟨rfl, ⟨_, c - 1, h1.setCell h2 _, h2, ?_, hd', by simp at h5; show r.length ≤ c - 1; omega⟩, (KeepBut.refl _ _ _).set_ _ _⟩
      rw [blk_set h3]
      rfl
end Go.Proofs.Ytmdahjmkfipdfaa
