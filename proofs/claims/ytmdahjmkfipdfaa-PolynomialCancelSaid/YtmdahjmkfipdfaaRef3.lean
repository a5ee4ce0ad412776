/- walk: fullingref18.addMultiple; walk: fullingref18.constant -/
import Derived.Test.YtmdahjmkfipdfaaRef1
namespace Go.Proofs.Ytmdahjmkfipdfaa
set_option linter.unusedVariables false
set_option linter.unusedSimpArgs false
open Go.RowKit Go.Proofs.YtmdahjmkfipdfaaW.PrintWords Go.Proofs.YtmdahjmkfipdfaaW.PrintLast Go.Proofs.YtmdahjmkfipdfaaW.PrintMore
theorem addT_length (m : Mono) : ∀ l : List Mono, (addT m l).length ≤ l.length + 1
  | [] => by rw [addT]; split <;> simp
  | x :: l => by
    rw [addT]
    have := addT_length m l
    repeat' split
    all_goals simp
    all_goals omega
def mulM (t : Int) (m : Mono) : Mono := ⟨m.exps, IntKind.u64.wrap (m.coef * t)⟩
/-- fullingref18.addMultiple. -/
def addMul (t : Int) (a b : List Mono) : List Mono := b.foldl (fun acc m => addT (mulM t m) acc) a
theorem addMul_snoc (t : Int) (a b : List Mono) (m : Mono) : addMul t a (b ++ [m]) = addT (mulM t m) (addMul t a b) := by simp [addMul]
theorem addMul_length (t : Int) (a : List Mono) (b : List Mono) : (addMul t a b).length ≤ a.length + b.length := by
  induction b generalizing a with
  | nil => simp [addMul]
  | cons m b ih =>
    have h1 := ih (addT (mulM t m) a)
    have h2 := addT_length (mulM t m) a
    simp only [addMul, List.foldl_cons, List.length_cons] at h1 ⊢
    omega
theorem addMul_len {t : Int} {v : Nat} {a b : List Mono} (ha : ∀ x ∈ a, x.exps.length = v) (hb : ∀ x ∈ b, x.exps.length = v) : ∀ x ∈ addMul t a b, x.exps.length = v := by
  induction b generalizing a with
  | nil => simpa [addMul] using ha
  | cons m b ih =>
    have := ih (a := addT (mulM t m) a) (fun x hx => (mem_addT hx).elim (fun e => by rw [e]; exact hb m (by simp)) (ha x)) (fun x hx => hb x (by simp [hx]))
    simpa [addMul] using this
set_option maxHeartbeats 4000000 in
set_option maxRecDepth 100000 in
theorem addMultiple_calls (ok : Nat → Prop) (a b : List Mono) (t : Int) (A B : Option Addr) (c d : Nat) (w : World) (hok : ∀ k, w.heap.size ≤ k → ok k) (haF : Kd.F kMono w ok A a.length a) (hac : a.length ≤ c) (hbF : Kd.F kMono w ok B b.length b) (hbd : b.length ≤ d) (hab : a.length + b.length ≤ 1000000000) (v : Nat) (hav : ∀ x ∈ a, x.exps.length = v) (hbv : ∀ x ∈ b, x.exps.length = v) :
    Calls Try.prog 75 #[.slice A a.length c, .slice B b.length d, .int .u64 t] w fun e w' => Below w.heap.size w w' ∧ ∃ A' c', (addMul t a b).length ≤ c' ∧ e = .returned (.slice A' (addMul t a b).length c') ∧ Kd.F kMono w' ok A' (addMul t a b).length (addMul t a b) := by
  have hb := Kd.F_now hbF
  have hmax := Kd.C_max hb
  go_enter Try.func75, Try.ntmps75
  go_wp2
  go_loopw [0, 7] (fun v0 v7 wr => ∃ (k : Nat) (A' : Option Addr) (c' : Nat), k ≤ b.length ∧ v7 = .int .i64 k ∧ v0 = .slice A' (addMul t a (b.take k)).length c' ∧ (addMul t a (b.take k)).length ≤ c' ∧ Kd.F kMono wr ok A' (addMul t a (b.take k)).length (addMul t a (b.take k)) ∧ Below w.heap.size w wr)
    (fun _ v7 _ => b.length - (intOf v7).toNat)
  case atStart => exact ⟨0, A, c, Nat.zero_le _, rfl, rfl, hac, haF, Below.refl _ _⟩
  case round =>
    obtain ⟨k, A', c', hk, rfl, rfl, hc', hC', hB⟩ := hrel
    by_cases hlt : k < b.length
    · obtain ⟨x, hx⟩ : ∃ x, b[k]? = some x := ⟨_, List.getElem?_eq_getElem hlt⟩
      obtain ⟨ad, A0, c0, rfl, a0, a1, al, aC, aF⟩ := atF_Mono hbF hx
      replace a0 := pw_cell_below hB a0
      replace a1 := pw_cell_below hB a1
      have hlen := addMul_length t a (b.take k)
      rw [List.length_take] at hlen
      have hs := Lib.hid (show addMul t a (b.take (k + 1)) = addT (mulM t x) (addMul t a (b.take k)) by rw [take_succ_of hx, addMul_snoc])
      have hd := fun W h0 h1 h2 => addTerm_calls ok (addMul t a (b.take k)) (mulM t x) A' A0 c' c0 W h0 h1 hc' (by omega) h2 al x.exps.length rfl (fun y hy => by rw [addMul_len hav (fun z hz => hbv z (List.mem_of_mem_take hz)) y hy, hbv x (List.mem_of_getElem? hx)])
      obtain ⟨acc, hacc⟩ : ∃ acc, acc = addMul t a (b.take k) := ⟨_, rfl⟩
      rw [← hacc] at hC' hd hs hc'
      rw [← hacc]
      have hCD := Kd.F_drew hC'
      have aCD := Kd.F_drew (Kd.F_below aF hB)
      have hokD : ∀ k, wr.drew.heap.size ≤ k → ok k := fun k hk => hok k (Nat.le_trans hB.size hk)
      clear hx hlen hacc
      go_wp2
      go_region_with (go_at_call 101; refine (hd _ ?_ ?_ ?_).mono ?_; exact hokD; exact hCD; exact aCD; rintro e w3 ⟨hb3, A3, c3, hc3, rfl, hC3⟩)
      all_goals
        go_wp2
        go_roundw
        case rel => exact ⟨k + 1, A3, c3, by omega, by go_num, by rw [hs.out], by rw [hs.out]; exact hc3, by rw [hs.out]; exact hC3, (below_drew hB).trans (hb3.mono (below_drew hB).size)⟩
        case measure => simp [intOf]; omega
    · have ek : k = b.length := by omega
      subst ek
      rw [List.take_length] at hc' hC'
      rw [List.take_length]
      go_wp2
      go_ret
      exact ⟨hB, A', c', hc', rfl, hC'⟩
end Go.Proofs.Ytmdahjmkfipdfaa
namespace Go.Proofs.Ytmdahjmkfipdfaa
set_option linter.unusedVariables false
set_option linter.unusedSimpArgs false
open Go.RowKit Go.Proofs.YtmdahjmkfipdfaaW.PrintWords Go.Proofs.YtmdahjmkfipdfaaW.PrintLast Go.Proofs.YtmdahjmkfipdfaaW.PrintMore
theorem C_made (W : World) (m : Nat) (hm : m ≤ 9223372036854775807) : (Kd.int .i64).C (W.alloc (.cells (madeCells #[.int .i64 0] m) 3)) (some ⟨W.heap.size, 0, none⟩) m (List.replicate m 0) := by
  have e : madeCells #[Value.int .i64 0] m = (nums .i64 (List.replicate m 0)).toArray := by
    apply Array.ext'
    apply List.ext_getElem
    · simp [nums, madeCells]
    · intro i h1 h2
      simp [nums, madeCells, Nat.mod_one]
  rw [e]
  have h := C_ints W (List.replicate m 0) 3 (by simpa using hm)
  simpa using h
theorem F_made (ok : Nat → Prop) (W : World) (m : Nat) (hm : m ≤ 9223372036854775807) (hok : ok W.heap.size) : Kd.F (Kd.int .i64) (W.alloc (.cells (madeCells #[.int .i64 0] m) 3)) ok (some ⟨W.heap.size, 0, none⟩) m (List.replicate m 0) := fun W' hW => by
  have hb : W'.heap[W.heap.size]? = some (.cells (madeCells #[.int .i64 0] m) 3 (0, 0)) := (hW _ hok (by simp)).trans (blk_new W _)
  have hC := C_made W m hm
  refine ⟨hC.1, hC.2.1, fun hn => ?_⟩
  obtain ⟨ad, e, hc⟩ := hC.2.2 hn
  cases e
  refine ⟨_, rfl, fun j p hj => ?_⟩
  obtain ⟨cs, a, b, d⟩ := hc j p hj
  refine ⟨cs, a, b, fun i u hu => ?_⟩
  have h1 := d i u hu
  rw [World.cell?_of_block (w := W.alloc (.cells (madeCells #[.int .i64 0] m) 3)) (by rw [add_blk]; exact hb.trans (blk_new W _).symm)]
  exact h1
set_option maxHeartbeats 1000000 in
set_option maxRecDepth 100000 in
theorem refConstant_calls (ok : Nat → Prop) (n : Int) (v : Nat) (hv : v ≤ 6) (w : World) (hok : ∀ k, w.heap.size ≤ k → ok k) :
    Calls Try.prog 74 #[.int .u64 n, .int .i64 v] w fun e w' => Below w.heap.size w w' ∧ ∃ A' c', (addT ⟨List.replicate v 0, n⟩ []).length ≤ c' ∧ e = .returned (.slice A' (addT ⟨List.replicate v 0, n⟩ []).length c') ∧ Kd.F kMono w' ok A' (addT ⟨List.replicate v 0, n⟩ []).length (addT ⟨List.replicate v 0, n⟩ []) := by
  have hmk := print_make (P := Try.prog) 29 3 .i64 8 Try.underlying29 infoInt (by decide) v (by omega)
  have hd := fun W h0 h => addTerm_calls ok [] ⟨List.replicate v 0, n⟩ none (some ⟨w.heap.size, 0, none⟩) 0 v W h0 (Kd.F_nil _ _ _) (Nat.le_refl _) (by simp) (h) (by simp) v (by simp) (by simp)
  simp only [List.length_replicate] at hd
  have hm := F_made ok w v (by omega) (hok _ (Nat.le_refl _))
  have hW := fun ob => (Below.refl w.heap.size w).alloc (Nat.le_refl _) ob
  have hokD : ∀ ob k, (w.alloc ob).heap.size ≤ k → ok k := fun ob k hk => hok k (Nat.le_trans (hW ob).size hk)
  go_enter Try.func74, Try.ntmps74
  go_wp2_with fail
  refine (hd _ (hokD _) hm).mono ?_
  rintro e w3 ⟨hb3, A3, c3, hc3, rfl, hC3⟩
  go_wp2
  go_ret
  exact ⟨below_then (hW _) (by simp) hb3, A3, c3, hc3, rfl, hC3⟩
end Go.Proofs.Ytmdahjmkfipdfaa
