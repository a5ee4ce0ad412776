/- walks: fullingref18.less, SamePoly -/
import Derived.Test.YtmdahjmkfipdfaaPmNz
namespace Go.Proofs.Ytmdahjmkfipdfaa
set_option linter.unusedVariables false
set_option linter.unusedSimpArgs false
open Go.RowKit Go.Proofs.YtmdahjmkfipdfaaW.PrintWords Go.Proofs.YtmdahjmkfipdfaaW.PrintLast Go.Proofs.YtmdahjmkfipdfaaW.PrintMore
def lessL : List Int → List Int → Bool
  | a :: r, b :: s => if a = b then lessL r s else decide (a < b)
  | _, _ => false
theorem lessL_nil (b : List Int) : lessL [] b = false := by cases b <;> rfl
theorem lessL_drop {a b : List Int} {k : Nat} {x y : Int} (hx : a[k]? = some x) (hy : b[k]? = some y) : lessL (a.drop k) (b.drop k) = if x = y then lessL (a.drop (k + 1)) (b.drop (k + 1)) else decide (x < y) := by
  obtain ⟨h1, e1⟩ := List.getElem?_eq_some_iff.1 hx
  obtain ⟨h2, e2⟩ := List.getElem?_eq_some_iff.1 hy
  rw [List.drop_eq_getElem_cons h1, List.drop_eq_getElem_cons h2, e1, e2, lessL]
theorem lessL_eq : ∀ {a b : List Int}, a.length = b.length → lessL a b = false → lessL b a = false → a = b
  | [], [], _, _, _ => rfl
  | x :: a, y :: b, hl, h1, h2 => by
    rw [lessL] at h1 h2
    by_cases e : x = y
    · subst e
      rw [if_pos rfl] at h1 h2
      rw [lessL_eq (by simpa using hl) h1 h2]
    · rw [if_neg e] at h1
      rw [if_neg (fun h => e h.symm)] at h2
      simp at h1 h2
      omega
theorem lessL_irrefl : ∀ a : List Int, lessL a a = false
  | [] => rfl
  | x :: a => by rw [lessL, if_pos rfl]; exact lessL_irrefl a
set_option maxHeartbeats 1000000 in
set_option maxRecDepth 100000 in
theorem less_calls (a b : List Int) (A B : Option Addr) (ca cb : Nat) (w : World) (ha : (Kd.int .i64).C w A a.length a) (hb : (Kd.int .i64).C w B b.length b) (hl : a.length ≤ b.length) :
    Calls Try.prog 40 #[.slice A a.length ca, .slice B b.length cb] w fun e w' => e = .returned (.bool (lessL a b)) ∧ Below w.heap.size w w' := by
  go_enter Try.func40, Try.ntmps40
  go_wp2
  have hmax := Kd.C_max ha
  go_loopw [5] (fun v5 wr => ∃ k : Nat, k ≤ a.length ∧ v5 = .int .i64 k ∧ Hid (lessL a b = lessL (a.drop k) (b.drop k)) ∧ Below w.heap.size w wr)
    (fun v5 _ => a.length - (intOf v5).toNat)
  case atStart => exact ⟨0, Nat.zero_le _, rfl, Lib.hid rfl, Below.refl _ _⟩
  case round =>
    obtain ⟨k, hk, rfl, hE, hB⟩ := hrel
    by_cases hlt : k < a.length
    · obtain ⟨x, hx⟩ : ∃ x, a[k]? = some x := ⟨_, List.getElem?_eq_getElem hlt⟩
      obtain ⟨y, hy⟩ : ∃ y, b[k]? = some y := ⟨_, List.getElem?_eq_getElem (by omega)⟩
      obtain ⟨ad, rfl, hx1⟩ := atN_int ha hx
      obtain ⟨bd, rfl, hy1⟩ := atN_int hb hy
      replace hx1 := pw_cell_below hB hx1
      replace hy1 := pw_cell_below hB hy1
      have hE' := Lib.hid (hE.out.trans (lessL_drop hx hy))
      have hlb : k < b.length := by omega
      clear hx hy hE
      by_cases e : x = y
      · subst e
        rw [if_pos rfl] at hE'
        go_wp2
        go_region
        go_wp2
        go_roundw
        case rel => exact ⟨k + 1, by omega, by go_num, hE', below_drew hB⟩
        case measure => simp [intOf]; omega
      · rw [if_neg e] at hE'
        have e1 : (x != y) = true := by simpa using e
        go_wp2
        go_region
        go_wp2
        go_region
        go_wp2
        go_ret
        rw [hE'.out]
        exact ⟨rfl, below_drew (below_drew hB)⟩
    · go_wp2
      go_ret
      have ek : k = a.length := by omega
      subst ek
      rw [hE.out, List.drop_length, lessL_nil]
      exact ⟨rfl, hB⟩
def sameMono (x y : Mono) : Bool := decide (x.coef = y.coef) && (decide (x.exps.length = y.exps.length) && (!lessL x.exps y.exps && !lessL y.exps x.exps))
theorem sameMono_iff (x y : Mono) : sameMono x y = true ↔ x = y := by
  constructor
  · intro h
    simp [sameMono] at h
    obtain ⟨e, c⟩ := x
    obtain ⟨e', c'⟩ := y
    simp only at h
    rw [h.1, lessL_eq h.2.1 h.2.2.1 h.2.2.2]
  · rintro rfl
    simp [sameMono, lessL_irrefl]
/-- SamePoly's answer. -/
noncomputable def samePoly (a b : List Mono) : Bool := @decide (a = b) (Classical.propDecidable _)
theorem samePoly_true {a b : List Mono} (h : a = b) : samePoly a b = true := by simp [samePoly, h]
theorem samePoly_false {a b : List Mono} (h : a ≠ b) : samePoly a b = false := by simp [samePoly, h]
theorem samePoly_iff {a b : List Mono} : samePoly a b = true ↔ a = b := by simp [samePoly]
theorem take_eq_succ {α : Type} {a b : List α} {k : Nat} {x : α} (h : a.take k = b.take k) (ha : a[k]? = some x) (hb : b[k]? = some x) : a.take (k + 1) = b.take (k + 1) := by
  rw [take_succ_of ha, take_succ_of hb, h]
set_option maxHeartbeats 4000000 in
set_option maxRecDepth 100000 in
theorem same_calls (a b : List Mono) (A B : Option Addr) (ca cb : Nat) (w : World) (ha : kMono.C w A a.length a) (hb : kMono.C w B b.length b) (hca : a.length ≤ ca) (hcb : b.length ≤ cb) :
    Calls Try.prog 16 #[.slice A a.length ca, .slice B b.length cb] w fun e w' => e = .returned (.bool (samePoly a b)) ∧ Below w.heap.size w w' := by
  by_cases hl : a.length = b.length
  rotate_left
  · have hne : a ≠ b := fun e => hl (by rw [e])
    rw [samePoly_false hne]
    have e1 : ((a.length : Int) != (b.length : Int)) = true := by simp; omega
    go_enter Try.func16, Try.ntmps16
    go_wp2
    go_ret
    exact ⟨rfl, Below.refl _ _⟩
  have hl' := Lib.hid hl
  rw [← hl] at hb hcb
  rw [← hl]
  clear hl
  have hmax := Kd.C_max ha
  go_enter Try.func16, Try.ntmps16
  go_wp2
  go_loopw [5] (fun v5 wr => ∃ k : Nat, k ≤ a.length ∧ v5 = .int .i64 k ∧ Hid (a.take k = b.take k) ∧ Below w.heap.size w wr)
    (fun v5 _ => a.length - (intOf v5).toNat)
  case atStart => exact ⟨0, Nat.zero_le _, rfl, Lib.hid rfl, Below.refl _ _⟩
  case round =>
    obtain ⟨k, hk, rfl, hE, hB⟩ := hrel
    by_cases hlt : k < a.length
    · obtain ⟨x, hx⟩ : ∃ x, a[k]? = some x := ⟨_, List.getElem?_eq_getElem hlt⟩
      obtain ⟨y, hy⟩ : ∃ y, b[k]? = some y := ⟨_, List.getElem?_eq_getElem (by rw [← hl'.out]; exact hlt)⟩
      have hb' : kMono.C w B b.length b := by rw [← hl'.out]; exact hb
      obtain ⟨ad, A0, c0, rfl, a0, a1, al, aC⟩ := atN_Mono ha hx
      obtain ⟨bd, B0, d0, rfl, b0, b1, bl, bC⟩ := atN_Mono hb' hy
      replace a0 := pw_cell_below hB a0
      replace a1 := pw_cell_below hB a1
      replace b0 := pw_cell_below hB b0
      replace b1 := pw_cell_below hB b1
      replace aC := Kd.C_below (Kd.C_below aC hB) (below_drew (Below.refl _ _))
      replace bC := Kd.C_below (Kd.C_below bC hB) (below_drew (Below.refl _ _))
      have hne : x ≠ y → a ≠ b := fun e h => e (by rw [h, hy] at hx; exact (Option.some.inj hx).symm)
      have hx' := Lib.hid hx
      have hy' := Lib.hid hy
      clear hx hy hb'
      by_cases e1 : x.coef = y.coef
      rotate_left
      · have f1 : (x.coef != y.coef) = true := by simpa using e1
        go_wp2
        go_region
        all_goals
          go_wp2
          go_ret
          rw [samePoly_false (hne (fun h => e1 (by rw [h])))]
          exact ⟨rfl, below_drew hB⟩
      by_cases e2 : x.exps.length = y.exps.length
      rotate_left
      · have f2 : ((x.exps.length : Int) != (y.exps.length : Int)) = true := by simp; omega
        go_wp2
        go_region
        all_goals
          go_wp2
          go_ret
          rw [samePoly_false (hne (fun h => e2 (by rw [h])))]
          exact ⟨rfl, below_drew hB⟩
      have l1 := fun W h1 h2 => less_calls x.exps y.exps A0 B0 c0 d0 W h1 h2 (by omega)
      have l2 := fun W h1 h2 => less_calls y.exps x.exps B0 A0 d0 c0 W h1 h2 (by omega)
      have e2' := Lib.hid e2
      rw [← e2] at b0 bC l1 l2 bl
      rw [← e1] at b1
      clear e2
      have hW : Below wr.heap.size wr wr.drew := below_drew (Below.refl _ _)
      by_cases e3 : lessL x.exps y.exps = true
      · rw [e3] at l1
        go_wp2
        refine start_ (n := 52) (S := fun w' => w'.cell? (ad.add (k * 2)) = some (.slice A0 x.exps.length c0) ∧ w'.cell? ⟨(ad.add (k * 2)).block, (ad.add (k * 2)).off + 1, none⟩ = some (.int .u64 x.coef) ∧ w'.cell? (bd.add (k * 2)) = some (.slice B0 x.exps.length d0) ∧ w'.cell? ⟨(bd.add (k * 2)).block, (bd.add (k * 2)).off + 1, none⟩ = some (.int .u64 x.coef)) (ds := []) (bm 52 0) (by kernel_rfl) rfl rfl ⟨a0, a1, b0, b1⟩ (fun hHeld => ?_)
        refine pure_ (i := 0) (N := some 17) (v := ?_) (a' := ?_) (bm 52 1) rfl rfl (by kernel_rfl) (fun _ _ _ h => h) (Or.inl ⟨by rfl, ?_⟩) ?_ ?_
        rotate_left
        · intro w'; go_simp; with_reducible rfl
        rotate_left
        · simp only [P4]; rfl
        refine pure_ (i := 1) (N := some 18) (v := ?_) (a' := ?_) (bm 52 3) rfl rfl (by kernel_rfl) (fun _ _ _ h => h) (Or.inl ⟨by rfl, ?_⟩) ?_ ?_
        rotate_left
        · intro w'; go_simp; with_reducible rfl
        rotate_left
        · simp only [P4]; rfl
        refine pure_ (i := 2) (N := some 19) (v := ?_) (a' := ?_) (bm 52 7) rfl rfl (by kernel_rfl) (fun _ _ _ h => h) (Or.inl ⟨by rfl, ?_⟩) ?_ ?_
        rotate_left
        · intro w'; go_simp; with_reducible rfl
        rotate_left
        · simp only [P4]; rfl
        refine pure_ (i := 3) (N := some 20) (v := ?_) (a' := ?_) (bm 52 15) rfl rfl (by kernel_rfl) (fun _ _ _ h => h) (Or.inl ⟨by rfl, ?_⟩) ?_ ?_
        rotate_left
        · intro w'; go_simp; with_reducible rfl
        rotate_left
        · simp only [P4]; rfl
        refine pure_ (i := 5) (N := some 22) (v := ?_) (a' := ?_) (bm 52 47) rfl rfl (by kernel_rfl) (fun _ _ _ h => h) (Or.inl ⟨by rfl, ?_⟩) ?_ ?_
        rotate_left
        · intro w'; go_simp; with_reducible rfl
        rotate_left
        · simp only [P4]; rfl
        refine pure_ (i := 6) (N := some 23) (v := ?_) (a' := ?_) (bm 52 111) rfl rfl (by kernel_rfl) (fun _ _ _ h => h) (Or.inl ⟨by rfl, ?_⟩) ?_ ?_
        rotate_left
        · intro w'; go_simp; with_reducible rfl
        rotate_left
        · simp only [P4]; rfl
        refine pure_ (i := 7) (N := some 24) (v := ?_) (a' := ?_) (bm 52 239) rfl rfl (by kernel_rfl) (fun _ _ _ h => h) (Or.inl ⟨by rfl, ?_⟩) ?_ ?_
        rotate_left
        · intro w'; go_simp; with_reducible rfl
        rotate_left
        · simp only [P4]; rfl
        refine pure_ (i := 8) (N := some 25) (v := ?_) (a' := ?_) (bm 52 495) rfl rfl (by kernel_rfl) (fun _ _ _ h => h) (Or.inl ⟨by rfl, ?_⟩) ?_ ?_
        rotate_left
        · intro w'; go_simp; with_reducible rfl
        rotate_left
        · simp only [P4]; rfl
        refine take_ (i := 4) (N := some 21) (v := ?_) (a' := ?_) (bm 52 511) rfl rfl (by kernel_rfl) (fun _ _ _ h => h) (Or.inl ⟨by rfl, ?_⟩) hHeld ?_ ?_
        rotate_left
        · rintro w' ⟨s0, s1, s2, s3⟩
          go_simp
          with_reducible rfl
        rotate_left
        · simp only [P4]; rfl
        refine take_ (i := 9) (N := some 26) (v := ?_) (a' := ?_) (bm 52 1023) rfl rfl (by kernel_rfl) (fun _ _ _ h => h) (Or.inl ⟨by rfl, ?_⟩) hHeld ?_ ?_
        rotate_left
        · rintro w' ⟨s0, s1, s2, s3⟩
          go_simp
          with_reducible rfl
        rotate_left
        · simp only [P4]; rfl
        refine pure_ (i := 10) (N := some 27) (v := ?_) (a' := ?_) (bm 52 2047) rfl rfl (by kernel_rfl) (fun _ _ _ h => h) (Or.inl ⟨by rfl, ?_⟩) ?_ ?_
        rotate_left
        · intro w'; go_simp; with_reducible rfl
        rotate_left
        · simp only [P4]; rfl
        refine pure_ (i := 11) (N := some 28) (v := ?_) (a' := ?_) (bm 52 4095) rfl rfl (by kernel_rfl) (fun _ _ _ h => h) (Or.inl ⟨by rfl, ?_⟩) ?_ ?_
        rotate_left
        · intro w'; go_simp; with_reducible rfl
        rotate_left
        · simp only [P4]; rfl
        refine pure_ (i := 12) (N := some 29) (v := ?_) (a' := ?_) (bm 52 8191) rfl rfl (by kernel_rfl) (fun _ _ _ h => h) (Or.inl ⟨by rfl, ?_⟩) ?_ ?_
        rotate_left
        · intro w'; go_simp; with_reducible rfl
        rotate_left
        · simp only [P4]; rfl
        refine pure_ (i := 13) (N := some 30) (v := ?_) (a' := ?_) (bm 52 16383) rfl rfl (by kernel_rfl) (fun _ _ _ h => h) (Or.inl ⟨by rfl, ?_⟩) ?_ ?_
        rotate_left
        · intro w'; go_simp; with_reducible rfl
        rotate_left
        · simp only [P4]; rfl
        refine pure_ (i := 14) (N := some 31) (v := ?_) (a' := ?_) (bm 52 32767) rfl rfl (by kernel_rfl) (fun _ _ _ h => h) (Or.inl ⟨by rfl, ?_⟩) ?_ ?_
        rotate_left
        · intro w'; go_simp; with_reducible rfl
        rotate_left
        · simp only [P4]; rfl
        refine pure_ (i := 15) (N := some 32) (v := ?_) (a' := ?_) (bm 52 65535) rfl rfl (by kernel_rfl) (fun _ _ _ h => h) (Or.inl ⟨by rfl, ?_⟩) ?_ ?_
        rotate_left
        · intro w'; go_simp; with_reducible rfl
        rotate_left
        · simp only [P4]; rfl
        refine pure_ (i := 18) (N := some 35) (v := ?_) (a' := ?_) (bm 52 327679) rfl rfl (by kernel_rfl) (fun _ _ _ h => h) (Or.inl ⟨by rfl, ?_⟩) ?_ ?_
        rotate_left
        · intro w'; go_simp; with_reducible rfl
        rotate_left
        · simp only [P4]; rfl
        refine pure_ (i := 19) (N := some 36) (v := ?_) (a' := ?_) (bm 52 851967) rfl rfl (by kernel_rfl) (fun _ _ _ h => h) (Or.inl ⟨by rfl, ?_⟩) ?_ ?_
        rotate_left
        · intro w'; go_simp; with_reducible rfl
        rotate_left
        · simp only [P4]; rfl
        refine pure_ (i := 20) (N := some 37) (v := ?_) (a' := ?_) (bm 52 1900543) rfl rfl (by kernel_rfl) (fun _ _ _ h => h) (Or.inl ⟨by rfl, ?_⟩) ?_ ?_
        rotate_left
        · intro w'; go_simp; with_reducible rfl
        rotate_left
        · simp only [P4]; rfl
        refine pure_ (i := 21) (N := some 38) (v := ?_) (a' := ?_) (bm 52 3997695) rfl rfl (by kernel_rfl) (fun _ _ _ h => h) (Or.inl ⟨by rfl, ?_⟩) ?_ ?_
        rotate_left
        · intro w'; go_simp; with_reducible rfl
        rotate_left
        · simp only [P4]; rfl
        refine take_ (i := 16) (N := some 33) (v := ?_) (a' := ?_) (bm 52 4063231) rfl rfl (by kernel_rfl) (fun _ _ _ h => h) (Or.inl ⟨by rfl, ?_⟩) hHeld ?_ ?_
        rotate_left
        · rintro w' ⟨s0, s1, s2, s3⟩
          go_simp
          with_reducible rfl
        rotate_left
        · simp only [P4]; rfl
        refine pure_ (i := 17) (N := some 34) (v := ?_) (a' := ?_) (bm 52 4194303) rfl rfl (by kernel_rfl) (fun _ _ _ h => h) (Or.inl ⟨by rfl, ?_⟩) ?_ ?_
        rotate_left
        · intro w'; go_simp; with_reducible rfl
        rotate_left
        · simp only [P4]; rfl
        refine take_ (i := 22) (N := some 39) (v := ?_) (a' := ?_) (bm 52 8388607) rfl rfl (by kernel_rfl) (fun _ _ _ h => h) (Or.inl ⟨by rfl, ?_⟩) hHeld ?_ ?_
        rotate_left
        · rintro w' ⟨s0, s1, s2, s3⟩
          go_simp
          with_reducible rfl
        rotate_left
        · simp only [P4]; rfl
        refine pure_ (i := 23) (N := some 40) (v := ?_) (a' := ?_) (bm 52 16777215) rfl rfl (by kernel_rfl) (fun _ _ _ h => h) (Or.inl ⟨by rfl, ?_⟩) ?_ ?_
        rotate_left
        · intro w'; go_simp; with_reducible rfl
        rotate_left
        · simp only [P4]; rfl
        refine pure_ (i := 24) (N := some 41) (v := ?_) (a' := ?_) (bm 52 33554431) rfl rfl (by kernel_rfl) (fun _ _ _ h => h) (Or.inl ⟨by rfl, ?_⟩) ?_ ?_
        rotate_left
        · intro w'; go_simp; with_reducible rfl
        rotate_left
        · simp only [P4]; rfl
        refine pure_ (i := 25) (N := some 42) (v := ?_) (a' := ?_) (bm 52 67108863) rfl rfl (by kernel_rfl) (fun _ _ _ h => h) (Or.inl ⟨by rfl, ?_⟩) ?_ ?_
        rotate_left
        · intro w'; go_simp; with_reducible rfl
        rotate_left
        · simp only [P4]; rfl
        refine pure_ (i := 26) (N := some 43) (v := ?_) (a' := ?_) (bm 52 134217727) rfl rfl (by kernel_rfl) (fun _ _ _ h => h) (Or.inl ⟨by rfl, ?_⟩) ?_ ?_
        rotate_left
        · intro w'; go_simp; with_reducible rfl
        rotate_left
        · simp only [P4]; rfl
        refine pure_ (i := 27) (N := some 44) (v := ?_) (a' := ?_) (bm 52 268435455) rfl rfl (by kernel_rfl) (fun _ _ _ h => h) (Or.inl ⟨by rfl, ?_⟩) ?_ ?_
        rotate_left
        · intro w'; go_simp; with_reducible rfl
        rotate_left
        · simp only [P4]; rfl
        refine pure_ (i := 28) (N := some 45) (v := ?_) (a' := ?_) (bm 52 536870911) rfl rfl (by kernel_rfl) (fun _ _ _ h => h) (Or.inl ⟨by rfl, ?_⟩) ?_ ?_
        rotate_left
        · intro w'; go_simp; with_reducible rfl
        rotate_left
        · simp only [P4]; rfl
        refine pure_ (i := 29) (N := some 46) (v := ?_) (a' := ?_) (bm 52 1073741823) rfl rfl (by kernel_rfl) (fun _ _ _ h => h) (Or.inl ⟨by rfl, ?_⟩) ?_ ?_
        rotate_left
        · intro w'; go_simp; with_reducible rfl
        rotate_left
        · simp only [P4]; rfl
        refine pure_ (i := 30) (N := some 47) (v := ?_) (a' := ?_) (bm 52 2147483647) rfl rfl (by kernel_rfl) (fun _ _ _ h => h) (Or.inl ⟨by rfl, ?_⟩) ?_ ?_
        rotate_left
        · intro w'; go_simp; with_reducible rfl
        rotate_left
        · simp only [P4]; rfl
        refine pure_ (i := 32) (N := some 49) (v := ?_) (a' := ?_) (bm 52 6442450943) rfl rfl (by kernel_rfl) (fun _ _ _ h => h) (Or.inl ⟨by rfl, ?_⟩) ?_ ?_
        rotate_left
        · intro w'; go_simp; with_reducible rfl
        rotate_left
        · simp only [P4]; rfl
        refine pure_ (i := 33) (N := some 50) (v := ?_) (a' := ?_) (bm 52 15032385535) rfl rfl (by kernel_rfl) (fun _ _ _ h => h) (Or.inl ⟨by rfl, ?_⟩) ?_ ?_
        rotate_left
        · intro w'; go_simp; with_reducible rfl
        rotate_left
        · simp only [P4]; rfl
        refine pure_ (i := 34) (N := some 51) (v := ?_) (a' := ?_) (bm 52 32212254719) rfl rfl (by kernel_rfl) (fun _ _ _ h => h) (Or.inl ⟨by rfl, ?_⟩) ?_ ?_
        rotate_left
        · intro w'; go_simp; with_reducible rfl
        rotate_left
        · simp only [P4]; rfl
        refine pure_ (i := 35) (N := some 52) (v := ?_) (a' := ?_) (bm 52 66571993087) rfl rfl (by kernel_rfl) (fun _ _ _ h => h) (Or.inl ⟨by rfl, ?_⟩) ?_ ?_
        rotate_left
        · intro w'; go_simp; with_reducible rfl
        rotate_left
        · simp only [P4]; rfl
        refine take_ (i := 31) (N := some 48) (v := ?_) (a' := ?_) (bm 52 68719476735) rfl rfl (by kernel_rfl) (fun _ _ _ h => h) (Or.inl ⟨by rfl, ?_⟩) hHeld ?_ ?_
        rotate_left
        · rintro w' ⟨s0, s1, s2, s3⟩
          go_simp
          with_reducible rfl
        rotate_left
        · simp only [P4]; rfl
        refine take_ (i := 36) (N := some 53) (v := ?_) (a' := ?_) (bm 52 137438953471) rfl rfl (by kernel_rfl) (fun _ _ _ h => h) (Or.inl ⟨by rfl, ?_⟩) hHeld ?_ ?_
        rotate_left
        · rintro w' ⟨s0, s1, s2, s3⟩
          go_simp
          with_reducible rfl
        rotate_left
        · simp only [P4]; rfl
        refine one_ (i := 37) (N := some 54) (bm 52 274877906943) rfl rfl (by kernel_rfl) (by decide) (fun K hK => ?_)
        refine goes_ Try.func40 (by kernel_rfl) rfl #[.slice A0 x.exps.length c0, .slice B0 x.exps.length d0] (by rfl) rfl rfl (by simp only [List.map_toArray, List.map_cons, List.map_nil]; rfl) ?_
        with_reducible refine (l1 _ aC bC).mono ?_
        rintro e w3 ⟨rfl, hb3⟩
        refine ⟨_, rfl, ?_⟩
        refine hK.out _ _ ⟨pw_cell_below hb3 hHeld.1, pw_cell_below hb3 hHeld.2.1, pw_cell_below hb3 hHeld.2.2.1, pw_cell_below hb3 hHeld.2.2.2⟩ (fun hHeld => ?_)
        clear hK K
        refine norm_ (a' := ?_) ?_ ?_
        rotate_left
        · show Act.put _ (some 54) _ = _
          simp only [P4]
          rfl
        refine pure_ (i := 38) (N := some 55) (v := ?_) (a' := ?_) (bm 52 549755813887) rfl rfl (by kernel_rfl) (fun _ _ _ h => h) (Or.inl ⟨by rfl, ?_⟩) ?_ ?_
        rotate_left
        · intro w'; go_simp; with_reducible rfl
        rotate_left
        · simp only [P4]; rfl
        refine pure_ (i := 39) (N := some 56) (v := ?_) (a' := ?_) (bm 52 1099511627775) rfl rfl (by kernel_rfl) (fun _ _ _ h => h) (Or.inl ⟨by rfl, ?_⟩) ?_ ?_
        rotate_left
        · intro w'; go_simp; with_reducible rfl
        rotate_left
        · simp only [P4]; rfl
        refine pure_ (i := 40) (N := some 57) (v := undef) (a' := ?_) (bm 52 2199023255551) rfl rfl (by kernel_rfl) (fun _ _ _ h => h) (Or.inr ⟨by rfl, rfl⟩) ?_ ?_
        rotate_left
        · simp only [P4]; rfl
        refine pure_ (i := 41) (N := some 58) (v := undef) (a' := ?_) (bm 52 4398046511103) rfl rfl (by kernel_rfl) (fun _ _ _ h => h) (Or.inr ⟨by rfl, rfl⟩) ?_ ?_
        rotate_left
        · simp only [P4]; rfl
        refine pure_ (i := 42) (N := some 59) (v := undef) (a' := ?_) (bm 52 8796093022207) rfl rfl (by kernel_rfl) (fun _ _ _ h => h) (Or.inr ⟨by rfl, rfl⟩) ?_ ?_
        rotate_left
        · simp only [P4]; rfl
        refine pure_ (i := 43) (N := some 60) (v := undef) (a' := ?_) (bm 52 17592186044415) rfl rfl (by kernel_rfl) (fun _ _ _ h => h) (Or.inr ⟨by rfl, rfl⟩) ?_ ?_
        rotate_left
        · simp only [P4]; rfl
        refine pure_ (i := 44) (N := some 61) (v := undef) (a' := ?_) (bm 52 35184372088831) rfl rfl (by kernel_rfl) (fun _ _ _ h => h) (Or.inr ⟨by rfl, rfl⟩) ?_ ?_
        rotate_left
        · simp only [P4]; rfl
        refine pure_ (i := 45) (N := some 62) (v := undef) (a' := ?_) (bm 52 70368744177663) rfl rfl (by kernel_rfl) (fun _ _ _ h => h) (Or.inr ⟨by rfl, rfl⟩) ?_ ?_
        rotate_left
        · simp only [P4]; rfl
        refine pure_ (i := 46) (N := some 63) (v := undef) (a' := ?_) (bm 52 140737488355327) rfl rfl (by kernel_rfl) (fun _ _ _ h => h) (Or.inr ⟨by rfl, rfl⟩) ?_ ?_
        rotate_left
        · simp only [P4]; rfl
        refine pure_ (i := 47) (N := some 64) (v := undef) (a' := ?_) (bm 52 281474976710655) rfl rfl (by kernel_rfl) (fun _ _ _ h => h) (Or.inr ⟨by rfl, rfl⟩) ?_ ?_
        rotate_left
        · simp only [P4]; rfl
        refine pure_ (i := 48) (N := some 65) (v := undef) (a' := ?_) (bm 52 562949953421311) rfl rfl (by kernel_rfl) (fun _ _ _ h => h) (Or.inr ⟨by rfl, rfl⟩) ?_ ?_
        rotate_left
        · simp only [P4]; rfl
        refine pure_ (i := 49) (N := some 66) (v := undef) (a' := ?_) (bm 52 1125899906842623) rfl rfl (by kernel_rfl) (fun _ _ _ h => h) (Or.inr ⟨by rfl, rfl⟩) ?_ ?_
        rotate_left
        · simp only [P4]; rfl
        refine pure_ (i := 50) (N := some 67) (v := undef) (a' := ?_) (bm 52 2251799813685247) rfl rfl (by kernel_rfl) (fun _ _ _ h => h) (Or.inr ⟨by rfl, rfl⟩) ?_ ?_
        rotate_left
        · simp only [P4]; rfl
        refine pure_ (i := 51) (N := some 68) (v := ?_) (a' := ?_) (bm 52 4503599627370495) rfl rfl (by kernel_rfl) (fun _ _ _ h => h) (Or.inl ⟨by rfl, ?_⟩) ?_ ?_
        rotate_left
        · intro w'; go_simp; with_reducible rfl
        rotate_left
        · simp only [P4]; rfl
        refine done_ (by kernel_rfl) ?_
        go_wp2
        go_ret
        rw [samePoly_false (hne (fun h => by rw [h, lessL_irrefl] at e3; cases e3))]
        exact ⟨rfl, (below_drew hB).trans (hb3.mono (below_drew hB).size)⟩
      replace e3 : lessL x.exps y.exps = false := by simpa using e3
      rw [e3] at l1
      by_cases e4 : lessL y.exps x.exps = true
      · rw [e4] at l2
        go_wp2
        refine start_ (n := 52) (S := fun w' => w'.cell? (ad.add (k * 2)) = some (.slice A0 x.exps.length c0) ∧ w'.cell? ⟨(ad.add (k * 2)).block, (ad.add (k * 2)).off + 1, none⟩ = some (.int .u64 x.coef) ∧ w'.cell? (bd.add (k * 2)) = some (.slice B0 x.exps.length d0) ∧ w'.cell? ⟨(bd.add (k * 2)).block, (bd.add (k * 2)).off + 1, none⟩ = some (.int .u64 x.coef)) (ds := []) (bm 52 0) (by kernel_rfl) rfl rfl ⟨a0, a1, b0, b1⟩ (fun hHeld => ?_)
        refine pure_ (i := 0) (N := some 17) (v := ?_) (a' := ?_) (bm 52 1) rfl rfl (by kernel_rfl) (fun _ _ _ h => h) (Or.inl ⟨by rfl, ?_⟩) ?_ ?_
        rotate_left
        · intro w'; go_simp; with_reducible rfl
        rotate_left
        · simp only [P4]; rfl
        refine pure_ (i := 1) (N := some 18) (v := ?_) (a' := ?_) (bm 52 3) rfl rfl (by kernel_rfl) (fun _ _ _ h => h) (Or.inl ⟨by rfl, ?_⟩) ?_ ?_
        rotate_left
        · intro w'; go_simp; with_reducible rfl
        rotate_left
        · simp only [P4]; rfl
        refine pure_ (i := 2) (N := some 19) (v := ?_) (a' := ?_) (bm 52 7) rfl rfl (by kernel_rfl) (fun _ _ _ h => h) (Or.inl ⟨by rfl, ?_⟩) ?_ ?_
        rotate_left
        · intro w'; go_simp; with_reducible rfl
        rotate_left
        · simp only [P4]; rfl
        refine pure_ (i := 3) (N := some 20) (v := ?_) (a' := ?_) (bm 52 15) rfl rfl (by kernel_rfl) (fun _ _ _ h => h) (Or.inl ⟨by rfl, ?_⟩) ?_ ?_
        rotate_left
        · intro w'; go_simp; with_reducible rfl
        rotate_left
        · simp only [P4]; rfl
        refine pure_ (i := 5) (N := some 22) (v := ?_) (a' := ?_) (bm 52 47) rfl rfl (by kernel_rfl) (fun _ _ _ h => h) (Or.inl ⟨by rfl, ?_⟩) ?_ ?_
        rotate_left
        · intro w'; go_simp; with_reducible rfl
        rotate_left
        · simp only [P4]; rfl
        refine pure_ (i := 6) (N := some 23) (v := ?_) (a' := ?_) (bm 52 111) rfl rfl (by kernel_rfl) (fun _ _ _ h => h) (Or.inl ⟨by rfl, ?_⟩) ?_ ?_
        rotate_left
        · intro w'; go_simp; with_reducible rfl
        rotate_left
        · simp only [P4]; rfl
        refine pure_ (i := 7) (N := some 24) (v := ?_) (a' := ?_) (bm 52 239) rfl rfl (by kernel_rfl) (fun _ _ _ h => h) (Or.inl ⟨by rfl, ?_⟩) ?_ ?_
        rotate_left
        · intro w'; go_simp; with_reducible rfl
        rotate_left
        · simp only [P4]; rfl
        refine pure_ (i := 8) (N := some 25) (v := ?_) (a' := ?_) (bm 52 495) rfl rfl (by kernel_rfl) (fun _ _ _ h => h) (Or.inl ⟨by rfl, ?_⟩) ?_ ?_
        rotate_left
        · intro w'; go_simp; with_reducible rfl
        rotate_left
        · simp only [P4]; rfl
        refine take_ (i := 4) (N := some 21) (v := ?_) (a' := ?_) (bm 52 511) rfl rfl (by kernel_rfl) (fun _ _ _ h => h) (Or.inl ⟨by rfl, ?_⟩) hHeld ?_ ?_
        rotate_left
        · rintro w' ⟨s0, s1, s2, s3⟩
          go_simp
          with_reducible rfl
        rotate_left
        · simp only [P4]; rfl
        refine take_ (i := 9) (N := some 26) (v := ?_) (a' := ?_) (bm 52 1023) rfl rfl (by kernel_rfl) (fun _ _ _ h => h) (Or.inl ⟨by rfl, ?_⟩) hHeld ?_ ?_
        rotate_left
        · rintro w' ⟨s0, s1, s2, s3⟩
          go_simp
          with_reducible rfl
        rotate_left
        · simp only [P4]; rfl
        refine pure_ (i := 10) (N := some 27) (v := ?_) (a' := ?_) (bm 52 2047) rfl rfl (by kernel_rfl) (fun _ _ _ h => h) (Or.inl ⟨by rfl, ?_⟩) ?_ ?_
        rotate_left
        · intro w'; go_simp; with_reducible rfl
        rotate_left
        · simp only [P4]; rfl
        refine pure_ (i := 11) (N := some 28) (v := ?_) (a' := ?_) (bm 52 4095) rfl rfl (by kernel_rfl) (fun _ _ _ h => h) (Or.inl ⟨by rfl, ?_⟩) ?_ ?_
        rotate_left
        · intro w'; go_simp; with_reducible rfl
        rotate_left
        · simp only [P4]; rfl
        refine pure_ (i := 12) (N := some 29) (v := ?_) (a' := ?_) (bm 52 8191) rfl rfl (by kernel_rfl) (fun _ _ _ h => h) (Or.inl ⟨by rfl, ?_⟩) ?_ ?_
        rotate_left
        · intro w'; go_simp; with_reducible rfl
        rotate_left
        · simp only [P4]; rfl
        refine pure_ (i := 13) (N := some 30) (v := ?_) (a' := ?_) (bm 52 16383) rfl rfl (by kernel_rfl) (fun _ _ _ h => h) (Or.inl ⟨by rfl, ?_⟩) ?_ ?_
        rotate_left
        · intro w'; go_simp; with_reducible rfl
        rotate_left
        · simp only [P4]; rfl
        refine pure_ (i := 14) (N := some 31) (v := ?_) (a' := ?_) (bm 52 32767) rfl rfl (by kernel_rfl) (fun _ _ _ h => h) (Or.inl ⟨by rfl, ?_⟩) ?_ ?_
        rotate_left
        · intro w'; go_simp; with_reducible rfl
        rotate_left
        · simp only [P4]; rfl
        refine pure_ (i := 15) (N := some 32) (v := ?_) (a' := ?_) (bm 52 65535) rfl rfl (by kernel_rfl) (fun _ _ _ h => h) (Or.inl ⟨by rfl, ?_⟩) ?_ ?_
        rotate_left
        · intro w'; go_simp; with_reducible rfl
        rotate_left
        · simp only [P4]; rfl
        refine pure_ (i := 18) (N := some 35) (v := ?_) (a' := ?_) (bm 52 327679) rfl rfl (by kernel_rfl) (fun _ _ _ h => h) (Or.inl ⟨by rfl, ?_⟩) ?_ ?_
        rotate_left
        · intro w'; go_simp; with_reducible rfl
        rotate_left
        · simp only [P4]; rfl
        refine pure_ (i := 19) (N := some 36) (v := ?_) (a' := ?_) (bm 52 851967) rfl rfl (by kernel_rfl) (fun _ _ _ h => h) (Or.inl ⟨by rfl, ?_⟩) ?_ ?_
        rotate_left
        · intro w'; go_simp; with_reducible rfl
        rotate_left
        · simp only [P4]; rfl
        refine pure_ (i := 20) (N := some 37) (v := ?_) (a' := ?_) (bm 52 1900543) rfl rfl (by kernel_rfl) (fun _ _ _ h => h) (Or.inl ⟨by rfl, ?_⟩) ?_ ?_
        rotate_left
        · intro w'; go_simp; with_reducible rfl
        rotate_left
        · simp only [P4]; rfl
        refine pure_ (i := 21) (N := some 38) (v := ?_) (a' := ?_) (bm 52 3997695) rfl rfl (by kernel_rfl) (fun _ _ _ h => h) (Or.inl ⟨by rfl, ?_⟩) ?_ ?_
        rotate_left
        · intro w'; go_simp; with_reducible rfl
        rotate_left
        · simp only [P4]; rfl
        refine take_ (i := 16) (N := some 33) (v := ?_) (a' := ?_) (bm 52 4063231) rfl rfl (by kernel_rfl) (fun _ _ _ h => h) (Or.inl ⟨by rfl, ?_⟩) hHeld ?_ ?_
        rotate_left
        · rintro w' ⟨s0, s1, s2, s3⟩
          go_simp
          with_reducible rfl
        rotate_left
        · simp only [P4]; rfl
        refine pure_ (i := 17) (N := some 34) (v := ?_) (a' := ?_) (bm 52 4194303) rfl rfl (by kernel_rfl) (fun _ _ _ h => h) (Or.inl ⟨by rfl, ?_⟩) ?_ ?_
        rotate_left
        · intro w'; go_simp; with_reducible rfl
        rotate_left
        · simp only [P4]; rfl
        refine take_ (i := 22) (N := some 39) (v := ?_) (a' := ?_) (bm 52 8388607) rfl rfl (by kernel_rfl) (fun _ _ _ h => h) (Or.inl ⟨by rfl, ?_⟩) hHeld ?_ ?_
        rotate_left
        · rintro w' ⟨s0, s1, s2, s3⟩
          go_simp
          with_reducible rfl
        rotate_left
        · simp only [P4]; rfl
        refine pure_ (i := 23) (N := some 40) (v := ?_) (a' := ?_) (bm 52 16777215) rfl rfl (by kernel_rfl) (fun _ _ _ h => h) (Or.inl ⟨by rfl, ?_⟩) ?_ ?_
        rotate_left
        · intro w'; go_simp; with_reducible rfl
        rotate_left
        · simp only [P4]; rfl
        refine pure_ (i := 24) (N := some 41) (v := ?_) (a' := ?_) (bm 52 33554431) rfl rfl (by kernel_rfl) (fun _ _ _ h => h) (Or.inl ⟨by rfl, ?_⟩) ?_ ?_
        rotate_left
        · intro w'; go_simp; with_reducible rfl
        rotate_left
        · simp only [P4]; rfl
        refine pure_ (i := 25) (N := some 42) (v := ?_) (a' := ?_) (bm 52 67108863) rfl rfl (by kernel_rfl) (fun _ _ _ h => h) (Or.inl ⟨by rfl, ?_⟩) ?_ ?_
        rotate_left
        · intro w'; go_simp; with_reducible rfl
        rotate_left
        · simp only [P4]; rfl
        refine pure_ (i := 26) (N := some 43) (v := ?_) (a' := ?_) (bm 52 134217727) rfl rfl (by kernel_rfl) (fun _ _ _ h => h) (Or.inl ⟨by rfl, ?_⟩) ?_ ?_
        rotate_left
        · intro w'; go_simp; with_reducible rfl
        rotate_left
        · simp only [P4]; rfl
        refine pure_ (i := 27) (N := some 44) (v := ?_) (a' := ?_) (bm 52 268435455) rfl rfl (by kernel_rfl) (fun _ _ _ h => h) (Or.inl ⟨by rfl, ?_⟩) ?_ ?_
        rotate_left
        · intro w'; go_simp; with_reducible rfl
        rotate_left
        · simp only [P4]; rfl
        refine pure_ (i := 28) (N := some 45) (v := ?_) (a' := ?_) (bm 52 536870911) rfl rfl (by kernel_rfl) (fun _ _ _ h => h) (Or.inl ⟨by rfl, ?_⟩) ?_ ?_
        rotate_left
        · intro w'; go_simp; with_reducible rfl
        rotate_left
        · simp only [P4]; rfl
        refine pure_ (i := 29) (N := some 46) (v := ?_) (a' := ?_) (bm 52 1073741823) rfl rfl (by kernel_rfl) (fun _ _ _ h => h) (Or.inl ⟨by rfl, ?_⟩) ?_ ?_
        rotate_left
        · intro w'; go_simp; with_reducible rfl
        rotate_left
        · simp only [P4]; rfl
        refine pure_ (i := 30) (N := some 47) (v := ?_) (a' := ?_) (bm 52 2147483647) rfl rfl (by kernel_rfl) (fun _ _ _ h => h) (Or.inl ⟨by rfl, ?_⟩) ?_ ?_
        rotate_left
        · intro w'; go_simp; with_reducible rfl
        rotate_left
        · simp only [P4]; rfl
        refine pure_ (i := 32) (N := some 49) (v := ?_) (a' := ?_) (bm 52 6442450943) rfl rfl (by kernel_rfl) (fun _ _ _ h => h) (Or.inl ⟨by rfl, ?_⟩) ?_ ?_
        rotate_left
        · intro w'; go_simp; with_reducible rfl
        rotate_left
        · simp only [P4]; rfl
        refine pure_ (i := 33) (N := some 50) (v := ?_) (a' := ?_) (bm 52 15032385535) rfl rfl (by kernel_rfl) (fun _ _ _ h => h) (Or.inl ⟨by rfl, ?_⟩) ?_ ?_
        rotate_left
        · intro w'; go_simp; with_reducible rfl
        rotate_left
        · simp only [P4]; rfl
        refine pure_ (i := 34) (N := some 51) (v := ?_) (a' := ?_) (bm 52 32212254719) rfl rfl (by kernel_rfl) (fun _ _ _ h => h) (Or.inl ⟨by rfl, ?_⟩) ?_ ?_
        rotate_left
        · intro w'; go_simp; with_reducible rfl
        rotate_left
        · simp only [P4]; rfl
        refine pure_ (i := 35) (N := some 52) (v := ?_) (a' := ?_) (bm 52 66571993087) rfl rfl (by kernel_rfl) (fun _ _ _ h => h) (Or.inl ⟨by rfl, ?_⟩) ?_ ?_
        rotate_left
        · intro w'; go_simp; with_reducible rfl
        rotate_left
        · simp only [P4]; rfl
        refine take_ (i := 31) (N := some 48) (v := ?_) (a' := ?_) (bm 52 68719476735) rfl rfl (by kernel_rfl) (fun _ _ _ h => h) (Or.inl ⟨by rfl, ?_⟩) hHeld ?_ ?_
        rotate_left
        · rintro w' ⟨s0, s1, s2, s3⟩
          go_simp
          with_reducible rfl
        rotate_left
        · simp only [P4]; rfl
        refine take_ (i := 36) (N := some 53) (v := ?_) (a' := ?_) (bm 52 137438953471) rfl rfl (by kernel_rfl) (fun _ _ _ h => h) (Or.inl ⟨by rfl, ?_⟩) hHeld ?_ ?_
        rotate_left
        · rintro w' ⟨s0, s1, s2, s3⟩
          go_simp
          with_reducible rfl
        rotate_left
        · simp only [P4]; rfl
        refine one_ (i := 37) (N := some 54) (bm 52 274877906943) rfl rfl (by kernel_rfl) (by decide) (fun K hK => ?_)
        refine goes_ Try.func40 (by kernel_rfl) rfl #[.slice A0 x.exps.length c0, .slice B0 x.exps.length d0] (by rfl) rfl rfl (by simp only [List.map_toArray, List.map_cons, List.map_nil]; rfl) ?_
        with_reducible refine (l1 _ aC bC).mono ?_
        rintro e w3 ⟨rfl, hb3⟩
        refine ⟨_, rfl, ?_⟩
        refine hK.out _ _ ⟨pw_cell_below hb3 hHeld.1, pw_cell_below hb3 hHeld.2.1, pw_cell_below hb3 hHeld.2.2.1, pw_cell_below hb3 hHeld.2.2.2⟩ (fun hHeld => ?_)
        clear hK K
        refine norm_ (a' := ?_) ?_ ?_
        rotate_left
        · show Act.put _ (some 54) _ = _
          simp only [P4]
          rfl
        refine pure_ (i := 38) (N := some 55) (v := ?_) (a' := ?_) (bm 52 549755813887) rfl rfl (by kernel_rfl) (fun _ _ _ h => h) (Or.inl ⟨by rfl, ?_⟩) ?_ ?_
        rotate_left
        · intro w'; go_simp; with_reducible rfl
        rotate_left
        · simp only [P4]; rfl
        refine pure_ (i := 39) (N := some 56) (v := ?_) (a' := ?_) (bm 52 1099511627775) rfl rfl (by kernel_rfl) (fun _ _ _ h => h) (Or.inl ⟨by rfl, ?_⟩) ?_ ?_
        rotate_left
        · intro w'; go_simp; with_reducible rfl
        rotate_left
        · simp only [P4]; rfl
        refine pure_ (i := 40) (N := some 57) (v := ?_) (a' := ?_) (bm 52 2199023255551) rfl rfl (by kernel_rfl) (fun _ _ _ h => h) (Or.inl ⟨by rfl, ?_⟩) ?_ ?_
        rotate_left
        · intro w'; go_simp; with_reducible rfl
        rotate_left
        · simp only [P4]; rfl
        refine pure_ (i := 41) (N := some 58) (v := ?_) (a' := ?_) (bm 52 4398046511103) rfl rfl (by kernel_rfl) (fun _ _ _ h => h) (Or.inl ⟨by rfl, ?_⟩) ?_ ?_
        rotate_left
        · intro w'; go_simp; with_reducible rfl
        rotate_left
        · simp only [P4]; rfl
        refine pure_ (i := 42) (N := some 59) (v := ?_) (a' := ?_) (bm 52 8796093022207) rfl rfl (by kernel_rfl) (fun _ _ _ h => h) (Or.inl ⟨by rfl, ?_⟩) ?_ ?_
        rotate_left
        · intro w'; go_simp; with_reducible rfl
        rotate_left
        · simp only [P4]; rfl
        refine pure_ (i := 43) (N := some 60) (v := ?_) (a' := ?_) (bm 52 17592186044415) rfl rfl (by kernel_rfl) (fun _ _ _ h => h) (Or.inl ⟨by rfl, ?_⟩) ?_ ?_
        rotate_left
        · intro w'; go_simp; with_reducible rfl
        rotate_left
        · simp only [P4]; rfl
        refine pure_ (i := 45) (N := some 62) (v := ?_) (a' := ?_) (bm 52 52776558133247) rfl rfl (by kernel_rfl) (fun _ _ _ h => h) (Or.inl ⟨by rfl, ?_⟩) ?_ ?_
        rotate_left
        · intro w'; go_simp; with_reducible rfl
        rotate_left
        · simp only [P4]; rfl
        refine pure_ (i := 46) (N := some 63) (v := ?_) (a' := ?_) (bm 52 123145302310911) rfl rfl (by kernel_rfl) (fun _ _ _ h => h) (Or.inl ⟨by rfl, ?_⟩) ?_ ?_
        rotate_left
        · intro w'; go_simp; with_reducible rfl
        rotate_left
        · simp only [P4]; rfl
        refine pure_ (i := 47) (N := some 64) (v := ?_) (a' := ?_) (bm 52 263882790666239) rfl rfl (by kernel_rfl) (fun _ _ _ h => h) (Or.inl ⟨by rfl, ?_⟩) ?_ ?_
        rotate_left
        · intro w'; go_simp; with_reducible rfl
        rotate_left
        · simp only [P4]; rfl
        refine pure_ (i := 48) (N := some 65) (v := ?_) (a' := ?_) (bm 52 545357767376895) rfl rfl (by kernel_rfl) (fun _ _ _ h => h) (Or.inl ⟨by rfl, ?_⟩) ?_ ?_
        rotate_left
        · intro w'; go_simp; with_reducible rfl
        rotate_left
        · simp only [P4]; rfl
        refine take_ (i := 44) (N := some 61) (v := ?_) (a' := ?_) (bm 52 562949953421311) rfl rfl (by kernel_rfl) (fun _ _ _ h => h) (Or.inl ⟨by rfl, ?_⟩) hHeld ?_ ?_
        rotate_left
        · rintro w' ⟨s0, s1, s2, s3⟩
          go_simp
          with_reducible rfl
        rotate_left
        · simp only [P4]; rfl
        refine take_ (i := 49) (N := some 66) (v := ?_) (a' := ?_) (bm 52 1125899906842623) rfl rfl (by kernel_rfl) (fun _ _ _ h => h) (Or.inl ⟨by rfl, ?_⟩) hHeld ?_ ?_
        rotate_left
        · rintro w' ⟨s0, s1, s2, s3⟩
          go_simp
          with_reducible rfl
        rotate_left
        · simp only [P4]; rfl
        refine one_ (i := 50) (N := some 67) (bm 52 2251799813685247) rfl rfl (by kernel_rfl) (by decide) (fun K hK => ?_)
        refine goes_ Try.func40 (by kernel_rfl) rfl #[.slice B0 x.exps.length d0, .slice A0 x.exps.length c0] (by rfl) rfl rfl (by simp only [List.map_toArray, List.map_cons, List.map_nil]; rfl) ?_
        with_reducible refine (l2 _ (Kd.C_below bC hb3) (Kd.C_below aC hb3)).mono ?_
        rintro e w4 ⟨rfl, hb4⟩
        refine ⟨_, rfl, ?_⟩
        refine hK.out _ _ ⟨pw_cell_below hb4 hHeld.1, pw_cell_below hb4 hHeld.2.1, pw_cell_below hb4 hHeld.2.2.1, pw_cell_below hb4 hHeld.2.2.2⟩ (fun hHeld => ?_)
        clear hK K
        refine norm_ (a' := ?_) ?_ ?_
        rotate_left
        · show Act.put _ (some 67) _ = _
          simp only [P4]
          rfl
        refine pure_ (i := 51) (N := some 68) (v := ?_) (a' := ?_) (bm 52 4503599627370495) rfl rfl (by kernel_rfl) (fun _ _ _ h => h) (Or.inl ⟨by rfl, ?_⟩) ?_ ?_
        rotate_left
        · intro w'; go_simp; with_reducible rfl
        rotate_left
        · simp only [P4]; rfl
        refine done_ (by kernel_rfl) ?_
        go_wp2
        go_ret
        rw [samePoly_false (hne (fun h => by rw [h, lessL_irrefl] at e4; cases e4))]
        exact ⟨rfl, ((below_drew hB).trans (hb3.mono (below_drew hB).size)).trans (hb4.mono ((below_drew hB).trans (hb3.mono (below_drew hB).size)).size)⟩
      replace e4 : lessL y.exps x.exps = false := by simpa using e4
      rw [e4] at l2
      have hxy := Lib.hid ((sameMono_iff x y).1 (by simp [sameMono, e1, e2'.out, e3, e4]))
      clear e3 e4
      go_wp2
      refine start_ (n := 52) (S := fun w' => w'.cell? (ad.add (k * 2)) = some (.slice A0 x.exps.length c0) ∧ w'.cell? ⟨(ad.add (k * 2)).block, (ad.add (k * 2)).off + 1, none⟩ = some (.int .u64 x.coef) ∧ w'.cell? (bd.add (k * 2)) = some (.slice B0 x.exps.length d0) ∧ w'.cell? ⟨(bd.add (k * 2)).block, (bd.add (k * 2)).off + 1, none⟩ = some (.int .u64 x.coef)) (ds := []) (bm 52 0) (by kernel_rfl) rfl rfl ⟨a0, a1, b0, b1⟩ (fun hHeld => ?_)
      refine pure_ (i := 0) (N := some 17) (v := ?_) (a' := ?_) (bm 52 1) rfl rfl (by kernel_rfl) (fun _ _ _ h => h) (Or.inl ⟨by rfl, ?_⟩) ?_ ?_
      rotate_left
      · intro w'; go_simp; with_reducible rfl
      rotate_left
      · simp only [P4]; rfl
      refine pure_ (i := 1) (N := some 18) (v := ?_) (a' := ?_) (bm 52 3) rfl rfl (by kernel_rfl) (fun _ _ _ h => h) (Or.inl ⟨by rfl, ?_⟩) ?_ ?_
      rotate_left
      · intro w'; go_simp; with_reducible rfl
      rotate_left
      · simp only [P4]; rfl
      refine pure_ (i := 2) (N := some 19) (v := ?_) (a' := ?_) (bm 52 7) rfl rfl (by kernel_rfl) (fun _ _ _ h => h) (Or.inl ⟨by rfl, ?_⟩) ?_ ?_
      rotate_left
      · intro w'; go_simp; with_reducible rfl
      rotate_left
      · simp only [P4]; rfl
      refine pure_ (i := 3) (N := some 20) (v := ?_) (a' := ?_) (bm 52 15) rfl rfl (by kernel_rfl) (fun _ _ _ h => h) (Or.inl ⟨by rfl, ?_⟩) ?_ ?_
      rotate_left
      · intro w'; go_simp; with_reducible rfl
      rotate_left
      · simp only [P4]; rfl
      refine pure_ (i := 5) (N := some 22) (v := ?_) (a' := ?_) (bm 52 47) rfl rfl (by kernel_rfl) (fun _ _ _ h => h) (Or.inl ⟨by rfl, ?_⟩) ?_ ?_
      rotate_left
      · intro w'; go_simp; with_reducible rfl
      rotate_left
      · simp only [P4]; rfl
      refine pure_ (i := 6) (N := some 23) (v := ?_) (a' := ?_) (bm 52 111) rfl rfl (by kernel_rfl) (fun _ _ _ h => h) (Or.inl ⟨by rfl, ?_⟩) ?_ ?_
      rotate_left
      · intro w'; go_simp; with_reducible rfl
      rotate_left
      · simp only [P4]; rfl
      refine pure_ (i := 7) (N := some 24) (v := ?_) (a' := ?_) (bm 52 239) rfl rfl (by kernel_rfl) (fun _ _ _ h => h) (Or.inl ⟨by rfl, ?_⟩) ?_ ?_
      rotate_left
      · intro w'; go_simp; with_reducible rfl
      rotate_left
      · simp only [P4]; rfl
      refine pure_ (i := 8) (N := some 25) (v := ?_) (a' := ?_) (bm 52 495) rfl rfl (by kernel_rfl) (fun _ _ _ h => h) (Or.inl ⟨by rfl, ?_⟩) ?_ ?_
      rotate_left
      · intro w'; go_simp; with_reducible rfl
      rotate_left
      · simp only [P4]; rfl
      refine take_ (i := 4) (N := some 21) (v := ?_) (a' := ?_) (bm 52 511) rfl rfl (by kernel_rfl) (fun _ _ _ h => h) (Or.inl ⟨by rfl, ?_⟩) hHeld ?_ ?_
      rotate_left
      · rintro w' ⟨s0, s1, s2, s3⟩
        go_simp
        with_reducible rfl
      rotate_left
      · simp only [P4]; rfl
      refine take_ (i := 9) (N := some 26) (v := ?_) (a' := ?_) (bm 52 1023) rfl rfl (by kernel_rfl) (fun _ _ _ h => h) (Or.inl ⟨by rfl, ?_⟩) hHeld ?_ ?_
      rotate_left
      · rintro w' ⟨s0, s1, s2, s3⟩
        go_simp
        with_reducible rfl
      rotate_left
      · simp only [P4]; rfl
      refine pure_ (i := 10) (N := some 27) (v := ?_) (a' := ?_) (bm 52 2047) rfl rfl (by kernel_rfl) (fun _ _ _ h => h) (Or.inl ⟨by rfl, ?_⟩) ?_ ?_
      rotate_left
      · intro w'; go_simp; with_reducible rfl
      rotate_left
      · simp only [P4]; rfl
      refine pure_ (i := 11) (N := some 28) (v := ?_) (a' := ?_) (bm 52 4095) rfl rfl (by kernel_rfl) (fun _ _ _ h => h) (Or.inl ⟨by rfl, ?_⟩) ?_ ?_
      rotate_left
      · intro w'; go_simp; with_reducible rfl
      rotate_left
      · simp only [P4]; rfl
      refine pure_ (i := 12) (N := some 29) (v := ?_) (a' := ?_) (bm 52 8191) rfl rfl (by kernel_rfl) (fun _ _ _ h => h) (Or.inl ⟨by rfl, ?_⟩) ?_ ?_
      rotate_left
      · intro w'; go_simp; with_reducible rfl
      rotate_left
      · simp only [P4]; rfl
      refine pure_ (i := 13) (N := some 30) (v := ?_) (a' := ?_) (bm 52 16383) rfl rfl (by kernel_rfl) (fun _ _ _ h => h) (Or.inl ⟨by rfl, ?_⟩) ?_ ?_
      rotate_left
      · intro w'; go_simp; with_reducible rfl
      rotate_left
      · simp only [P4]; rfl
      refine pure_ (i := 14) (N := some 31) (v := ?_) (a' := ?_) (bm 52 32767) rfl rfl (by kernel_rfl) (fun _ _ _ h => h) (Or.inl ⟨by rfl, ?_⟩) ?_ ?_
      rotate_left
      · intro w'; go_simp; with_reducible rfl
      rotate_left
      · simp only [P4]; rfl
      refine pure_ (i := 15) (N := some 32) (v := ?_) (a' := ?_) (bm 52 65535) rfl rfl (by kernel_rfl) (fun _ _ _ h => h) (Or.inl ⟨by rfl, ?_⟩) ?_ ?_
      rotate_left
      · intro w'; go_simp; with_reducible rfl
      rotate_left
      · simp only [P4]; rfl
      refine pure_ (i := 18) (N := some 35) (v := ?_) (a' := ?_) (bm 52 327679) rfl rfl (by kernel_rfl) (fun _ _ _ h => h) (Or.inl ⟨by rfl, ?_⟩) ?_ ?_
      rotate_left
      · intro w'; go_simp; with_reducible rfl
      rotate_left
      · simp only [P4]; rfl
      refine pure_ (i := 19) (N := some 36) (v := ?_) (a' := ?_) (bm 52 851967) rfl rfl (by kernel_rfl) (fun _ _ _ h => h) (Or.inl ⟨by rfl, ?_⟩) ?_ ?_
      rotate_left
      · intro w'; go_simp; with_reducible rfl
      rotate_left
      · simp only [P4]; rfl
      refine pure_ (i := 20) (N := some 37) (v := ?_) (a' := ?_) (bm 52 1900543) rfl rfl (by kernel_rfl) (fun _ _ _ h => h) (Or.inl ⟨by rfl, ?_⟩) ?_ ?_
      rotate_left
      · intro w'; go_simp; with_reducible rfl
      rotate_left
      · simp only [P4]; rfl
      refine pure_ (i := 21) (N := some 38) (v := ?_) (a' := ?_) (bm 52 3997695) rfl rfl (by kernel_rfl) (fun _ _ _ h => h) (Or.inl ⟨by rfl, ?_⟩) ?_ ?_
      rotate_left
      · intro w'; go_simp; with_reducible rfl
      rotate_left
      · simp only [P4]; rfl
      refine take_ (i := 16) (N := some 33) (v := ?_) (a' := ?_) (bm 52 4063231) rfl rfl (by kernel_rfl) (fun _ _ _ h => h) (Or.inl ⟨by rfl, ?_⟩) hHeld ?_ ?_
      rotate_left
      · rintro w' ⟨s0, s1, s2, s3⟩
        go_simp
        with_reducible rfl
      rotate_left
      · simp only [P4]; rfl
      refine pure_ (i := 17) (N := some 34) (v := ?_) (a' := ?_) (bm 52 4194303) rfl rfl (by kernel_rfl) (fun _ _ _ h => h) (Or.inl ⟨by rfl, ?_⟩) ?_ ?_
      rotate_left
      · intro w'; go_simp; with_reducible rfl
      rotate_left
      · simp only [P4]; rfl
      refine take_ (i := 22) (N := some 39) (v := ?_) (a' := ?_) (bm 52 8388607) rfl rfl (by kernel_rfl) (fun _ _ _ h => h) (Or.inl ⟨by rfl, ?_⟩) hHeld ?_ ?_
      rotate_left
      · rintro w' ⟨s0, s1, s2, s3⟩
        go_simp
        with_reducible rfl
      rotate_left
      · simp only [P4]; rfl
      refine pure_ (i := 23) (N := some 40) (v := ?_) (a' := ?_) (bm 52 16777215) rfl rfl (by kernel_rfl) (fun _ _ _ h => h) (Or.inl ⟨by rfl, ?_⟩) ?_ ?_
      rotate_left
      · intro w'; go_simp; with_reducible rfl
      rotate_left
      · simp only [P4]; rfl
      refine pure_ (i := 24) (N := some 41) (v := ?_) (a' := ?_) (bm 52 33554431) rfl rfl (by kernel_rfl) (fun _ _ _ h => h) (Or.inl ⟨by rfl, ?_⟩) ?_ ?_
      rotate_left
      · intro w'; go_simp; with_reducible rfl
      rotate_left
      · simp only [P4]; rfl
      refine pure_ (i := 25) (N := some 42) (v := ?_) (a' := ?_) (bm 52 67108863) rfl rfl (by kernel_rfl) (fun _ _ _ h => h) (Or.inl ⟨by rfl, ?_⟩) ?_ ?_
      rotate_left
      · intro w'; go_simp; with_reducible rfl
      rotate_left
      · simp only [P4]; rfl
      refine pure_ (i := 26) (N := some 43) (v := ?_) (a' := ?_) (bm 52 134217727) rfl rfl (by kernel_rfl) (fun _ _ _ h => h) (Or.inl ⟨by rfl, ?_⟩) ?_ ?_
      rotate_left
      · intro w'; go_simp; with_reducible rfl
      rotate_left
      · simp only [P4]; rfl
      refine pure_ (i := 27) (N := some 44) (v := ?_) (a' := ?_) (bm 52 268435455) rfl rfl (by kernel_rfl) (fun _ _ _ h => h) (Or.inl ⟨by rfl, ?_⟩) ?_ ?_
      rotate_left
      · intro w'; go_simp; with_reducible rfl
      rotate_left
      · simp only [P4]; rfl
      refine pure_ (i := 28) (N := some 45) (v := ?_) (a' := ?_) (bm 52 536870911) rfl rfl (by kernel_rfl) (fun _ _ _ h => h) (Or.inl ⟨by rfl, ?_⟩) ?_ ?_
      rotate_left
      · intro w'; go_simp; with_reducible rfl
      rotate_left
      · simp only [P4]; rfl
      refine pure_ (i := 29) (N := some 46) (v := ?_) (a' := ?_) (bm 52 1073741823) rfl rfl (by kernel_rfl) (fun _ _ _ h => h) (Or.inl ⟨by rfl, ?_⟩) ?_ ?_
      rotate_left
      · intro w'; go_simp; with_reducible rfl
      rotate_left
      · simp only [P4]; rfl
      refine pure_ (i := 30) (N := some 47) (v := ?_) (a' := ?_) (bm 52 2147483647) rfl rfl (by kernel_rfl) (fun _ _ _ h => h) (Or.inl ⟨by rfl, ?_⟩) ?_ ?_
      rotate_left
      · intro w'; go_simp; with_reducible rfl
      rotate_left
      · simp only [P4]; rfl
      refine pure_ (i := 32) (N := some 49) (v := ?_) (a' := ?_) (bm 52 6442450943) rfl rfl (by kernel_rfl) (fun _ _ _ h => h) (Or.inl ⟨by rfl, ?_⟩) ?_ ?_
      rotate_left
      · intro w'; go_simp; with_reducible rfl
      rotate_left
      · simp only [P4]; rfl
      refine pure_ (i := 33) (N := some 50) (v := ?_) (a' := ?_) (bm 52 15032385535) rfl rfl (by kernel_rfl) (fun _ _ _ h => h) (Or.inl ⟨by rfl, ?_⟩) ?_ ?_
      rotate_left
      · intro w'; go_simp; with_reducible rfl
      rotate_left
      · simp only [P4]; rfl
      refine pure_ (i := 34) (N := some 51) (v := ?_) (a' := ?_) (bm 52 32212254719) rfl rfl (by kernel_rfl) (fun _ _ _ h => h) (Or.inl ⟨by rfl, ?_⟩) ?_ ?_
      rotate_left
      · intro w'; go_simp; with_reducible rfl
      rotate_left
      · simp only [P4]; rfl
      refine pure_ (i := 35) (N := some 52) (v := ?_) (a' := ?_) (bm 52 66571993087) rfl rfl (by kernel_rfl) (fun _ _ _ h => h) (Or.inl ⟨by rfl, ?_⟩) ?_ ?_
      rotate_left
      · intro w'; go_simp; with_reducible rfl
      rotate_left
      · simp only [P4]; rfl
      refine take_ (i := 31) (N := some 48) (v := ?_) (a' := ?_) (bm 52 68719476735) rfl rfl (by kernel_rfl) (fun _ _ _ h => h) (Or.inl ⟨by rfl, ?_⟩) hHeld ?_ ?_
      rotate_left
      · rintro w' ⟨s0, s1, s2, s3⟩
        go_simp
        with_reducible rfl
      rotate_left
      · simp only [P4]; rfl
      refine take_ (i := 36) (N := some 53) (v := ?_) (a' := ?_) (bm 52 137438953471) rfl rfl (by kernel_rfl) (fun _ _ _ h => h) (Or.inl ⟨by rfl, ?_⟩) hHeld ?_ ?_
      rotate_left
      · rintro w' ⟨s0, s1, s2, s3⟩
        go_simp
        with_reducible rfl
      rotate_left
      · simp only [P4]; rfl
      refine one_ (i := 37) (N := some 54) (bm 52 274877906943) rfl rfl (by kernel_rfl) (by decide) (fun K hK => ?_)
      refine goes_ Try.func40 (by kernel_rfl) rfl #[.slice A0 x.exps.length c0, .slice B0 x.exps.length d0] (by rfl) rfl rfl (by simp only [List.map_toArray, List.map_cons, List.map_nil]; rfl) ?_
      with_reducible refine (l1 _ aC bC).mono ?_
      rintro e w3 ⟨rfl, hb3⟩
      refine ⟨_, rfl, ?_⟩
      refine hK.out _ _ ⟨pw_cell_below hb3 hHeld.1, pw_cell_below hb3 hHeld.2.1, pw_cell_below hb3 hHeld.2.2.1, pw_cell_below hb3 hHeld.2.2.2⟩ (fun hHeld => ?_)
      clear hK K
      refine norm_ (a' := ?_) ?_ ?_
      rotate_left
      · show Act.put _ (some 54) _ = _
        simp only [P4]
        rfl
      refine pure_ (i := 38) (N := some 55) (v := ?_) (a' := ?_) (bm 52 549755813887) rfl rfl (by kernel_rfl) (fun _ _ _ h => h) (Or.inl ⟨by rfl, ?_⟩) ?_ ?_
      rotate_left
      · intro w'; go_simp; with_reducible rfl
      rotate_left
      · simp only [P4]; rfl
      refine pure_ (i := 39) (N := some 56) (v := ?_) (a' := ?_) (bm 52 1099511627775) rfl rfl (by kernel_rfl) (fun _ _ _ h => h) (Or.inl ⟨by rfl, ?_⟩) ?_ ?_
      rotate_left
      · intro w'; go_simp; with_reducible rfl
      rotate_left
      · simp only [P4]; rfl
      refine pure_ (i := 40) (N := some 57) (v := ?_) (a' := ?_) (bm 52 2199023255551) rfl rfl (by kernel_rfl) (fun _ _ _ h => h) (Or.inl ⟨by rfl, ?_⟩) ?_ ?_
      rotate_left
      · intro w'; go_simp; with_reducible rfl
      rotate_left
      · simp only [P4]; rfl
      refine pure_ (i := 41) (N := some 58) (v := ?_) (a' := ?_) (bm 52 4398046511103) rfl rfl (by kernel_rfl) (fun _ _ _ h => h) (Or.inl ⟨by rfl, ?_⟩) ?_ ?_
      rotate_left
      · intro w'; go_simp; with_reducible rfl
      rotate_left
      · simp only [P4]; rfl
      refine pure_ (i := 42) (N := some 59) (v := ?_) (a' := ?_) (bm 52 8796093022207) rfl rfl (by kernel_rfl) (fun _ _ _ h => h) (Or.inl ⟨by rfl, ?_⟩) ?_ ?_
      rotate_left
      · intro w'; go_simp; with_reducible rfl
      rotate_left
      · simp only [P4]; rfl
      refine pure_ (i := 43) (N := some 60) (v := ?_) (a' := ?_) (bm 52 17592186044415) rfl rfl (by kernel_rfl) (fun _ _ _ h => h) (Or.inl ⟨by rfl, ?_⟩) ?_ ?_
      rotate_left
      · intro w'; go_simp; with_reducible rfl
      rotate_left
      · simp only [P4]; rfl
      refine pure_ (i := 45) (N := some 62) (v := ?_) (a' := ?_) (bm 52 52776558133247) rfl rfl (by kernel_rfl) (fun _ _ _ h => h) (Or.inl ⟨by rfl, ?_⟩) ?_ ?_
      rotate_left
      · intro w'; go_simp; with_reducible rfl
      rotate_left
      · simp only [P4]; rfl
      refine pure_ (i := 46) (N := some 63) (v := ?_) (a' := ?_) (bm 52 123145302310911) rfl rfl (by kernel_rfl) (fun _ _ _ h => h) (Or.inl ⟨by rfl, ?_⟩) ?_ ?_
      rotate_left
      · intro w'; go_simp; with_reducible rfl
      rotate_left
      · simp only [P4]; rfl
      refine pure_ (i := 47) (N := some 64) (v := ?_) (a' := ?_) (bm 52 263882790666239) rfl rfl (by kernel_rfl) (fun _ _ _ h => h) (Or.inl ⟨by rfl, ?_⟩) ?_ ?_
      rotate_left
      · intro w'; go_simp; with_reducible rfl
      rotate_left
      · simp only [P4]; rfl
      refine pure_ (i := 48) (N := some 65) (v := ?_) (a' := ?_) (bm 52 545357767376895) rfl rfl (by kernel_rfl) (fun _ _ _ h => h) (Or.inl ⟨by rfl, ?_⟩) ?_ ?_
      rotate_left
      · intro w'; go_simp; with_reducible rfl
      rotate_left
      · simp only [P4]; rfl
      refine take_ (i := 44) (N := some 61) (v := ?_) (a' := ?_) (bm 52 562949953421311) rfl rfl (by kernel_rfl) (fun _ _ _ h => h) (Or.inl ⟨by rfl, ?_⟩) hHeld ?_ ?_
      rotate_left
      · rintro w' ⟨s0, s1, s2, s3⟩
        go_simp
        with_reducible rfl
      rotate_left
      · simp only [P4]; rfl
      refine take_ (i := 49) (N := some 66) (v := ?_) (a' := ?_) (bm 52 1125899906842623) rfl rfl (by kernel_rfl) (fun _ _ _ h => h) (Or.inl ⟨by rfl, ?_⟩) hHeld ?_ ?_
      rotate_left
      · rintro w' ⟨s0, s1, s2, s3⟩
        go_simp
        with_reducible rfl
      rotate_left
      · simp only [P4]; rfl
      refine one_ (i := 50) (N := some 67) (bm 52 2251799813685247) rfl rfl (by kernel_rfl) (by decide) (fun K hK => ?_)
      refine goes_ Try.func40 (by kernel_rfl) rfl #[.slice B0 x.exps.length d0, .slice A0 x.exps.length c0] (by rfl) rfl rfl (by simp only [List.map_toArray, List.map_cons, List.map_nil]; rfl) ?_
      with_reducible refine (l2 _ (Kd.C_below bC hb3) (Kd.C_below aC hb3)).mono ?_
      rintro e w4 ⟨rfl, hb4⟩
      refine ⟨_, rfl, ?_⟩
      refine hK.out _ _ ⟨pw_cell_below hb4 hHeld.1, pw_cell_below hb4 hHeld.2.1, pw_cell_below hb4 hHeld.2.2.1, pw_cell_below hb4 hHeld.2.2.2⟩ (fun hHeld => ?_)
      clear hK K
      refine norm_ (a' := ?_) ?_ ?_
      rotate_left
      · show Act.put _ (some 67) _ = _
        simp only [P4]
        rfl
      refine pure_ (i := 51) (N := some 68) (v := ?_) (a' := ?_) (bm 52 4503599627370495) rfl rfl (by kernel_rfl) (fun _ _ _ h => h) (Or.inl ⟨by rfl, ?_⟩) ?_ ?_
      rotate_left
      · intro w'; go_simp; with_reducible rfl
      rotate_left
      · simp only [P4]; rfl
      refine done_ (by kernel_rfl) ?_
      go_wp2
      go_roundw
      case rel => exact ⟨k + 1, by omega, by go_num, Lib.hid (take_eq_succ hE.out hx'.out (hy'.out.trans (by rw [hxy.out]))), ((below_drew hB).trans (hb3.mono (below_drew hB).size)).trans (hb4.mono ((below_drew hB).trans (hb3.mono (below_drew hB).size)).size)⟩
      case measure => simp [intOf]; omega
    · go_wp2
      go_ret
      have ek : k = a.length := by omega
      subst ek
      rw [samePoly_true (by have h := hE.out; rw [List.take_length] at h; rw [h, List.take_of_length_le (by rw [hl'.out]; exact Nat.le_refl _)])]
      exact ⟨rfl, hB⟩
end Go.Proofs.Ytmdahjmkfipdfaa
