/- walks: fullingref1.Unary, Div, boolWord, Binary -/
import Derived.Test.YtmdahjmkfipdfaaPmShl
import Derived.Test.YtmdahjmkfipdfaaPoly5
namespace Go.Proofs.Ytmdahjmkfipdfaa
set_option linter.unusedVariables false
set_option linter.unusedSimpArgs false
open Go.RowKit Go.Proofs.YtmdahjmkfipdfaaW.PrintWords Go.Proofs.YtmdahjmkfipdfaaW.PrintLast Go.Proofs.YtmdahjmkfipdfaaW.PrintMore
set_option maxRecDepth 100000 in
theorem boolWord_calls (c : Bool) (w : World) : Calls Try.prog 73 #[.bool c] w fun e w' => e = .returned (.int .i64 (b2w c)) ∧ w' = w := by
  cases c
  all_goals
    go_enter Try.func73, Try.ntmps73
    go_wp2
    go_ret
    exact ⟨rfl, rfl⟩
set_option maxRecDepth 100000 in
theorem Div_calls (a b : Int) (w : World) : Calls Try.prog 72 #[.int .i64 a, .int .i64 b] w fun e w' => e = .returned (.int .i64 (divW a b)) ∧ w' = w := by
  by_cases h0 : b = 0
  · subst h0
    go_enter Try.func72, Try.ntmps72
    go_wp2
    go_ret
    exact ⟨rfl, rfl⟩
  have e0 := beq_no h0
  by_cases h1 : b = -1
  · subst h1
    go_enter Try.func72, Try.ntmps72
    go_wp2
    go_ret
    refine ⟨show Ending.returned (.int .i64 (wrap64 (-a))) = _ from ?_, rfl⟩
    simp only [divW]
    rw [if_neg h0, if_pos trivial, wrap64'_eq]
  · have e1 := beq_no h1
    go_enter Try.func72, Try.ntmps72
    go_wp2
    go_ret
    refine ⟨show Ending.returned (.int .i64 (wrap64 (a.tdiv b))) = _ from ?_, rfl⟩
    simp only [divW]
    rw [if_neg h0, if_neg h1, wrap64'_eq]
theorem bits_not (a : Int) : bits .xor .i64 (-1) a = wrap64' (-1 - a) := by
  unfold bits
  have h64 : IntKind.i64.bits = 64 := by decide
  rw [h64]
  have e : (BitVec.ofInt 64 (-1) ^^^ BitVec.ofInt 64 a).toNat = 18446744073709551615 - (a % 18446744073709551616).toNat := by
    have h1 : BitVec.ofInt 64 (-1) = BitVec.allOnes 64 := by decide
    rw [h1, BitVec.allOnes_xor, BitVec.toNat_not, BitVec.toNat_ofInt]
    simp
  simp only [e]
  rw [IntKind.wrap_i64, wrap64']
  omega
theorem bits_bitW_and (a b : Int) : bits .and .i64 a b = bitW (· &&& ·) a b := by
  unfold bits bitW
  have h64 : IntKind.i64.bits = 64 := by decide
  rw [h64]
  simp only
  rw [IntKind.wrap_i64, wrap64']
theorem bits_bitW_or (a b : Int) : bits .or .i64 a b = bitW (· ||| ·) a b := by
  unfold bits bitW
  have h64 : IntKind.i64.bits = 64 := by decide
  rw [h64]
  simp only
  rw [IntKind.wrap_i64, wrap64']
theorem bits_bitW_xor (a b : Int) : bits .xor .i64 a b = bitW (· ^^^ ·) a b := by
  unfold bits bitW
  have h64 : IntKind.i64.bits = 64 := by decide
  rw [h64]
  simp only
  rw [IntKind.wrap_i64, wrap64']
set_option maxRecDepth 100000 in
theorem Unary_calls (op a : Int) (h : op = 20 ∨ op = 21) (w : World) : Calls Try.prog 44 #[.int .i64 op, .int .i64 a] w fun e w' => e = .returned (.int .i64 (unW op a)) ∧ w' = w := by
  rcases h with rfl | rfl
  · go_enter Try.func44, Try.ntmps44
    go_wp2
    go_ret
    refine ⟨show Ending.returned (.int .i64 (wrap64 (-a))) = _ from ?_, rfl⟩
    rw [← wrap64'_eq]; rfl
  · go_enter Try.func44, Try.ntmps44
    go_wp2
    go_ret
    refine ⟨show Ending.returned (.int .i64 (bits .xor .i64 (-1) a)) = _ from ?_, rfl⟩
    rw [bits_not]; rfl
set_option maxHeartbeats 4000000 in
set_option maxRecDepth 100000 in
theorem Binary_4 (a b : Int) (w : World) : Calls Try.prog 45 #[.int .i64 4, .int .i64 a, .int .i64 b] w fun e w' => e = .returned (.int .i64 (binW 4 a b)) ∧ w' = w := by
  have hbt := bits_and63 b
  have hb0 : 0 ≤ b % 64 ∧ b % 64 < 64 := by omega
  have hd := fun W => Div_calls a b W
  have hw := fun c W => boolWord_calls c W
  go_enter Try.func45, Try.ntmps45
  go_wp2
  go_ret
  refine ⟨show Ending.returned (.int .i64 (wrap64 (a + b))) = _ from ?_, rfl⟩
  rw [← wrap64'_eq]; rfl
set_option maxHeartbeats 4000000 in
set_option maxRecDepth 100000 in
theorem Binary_5 (a b : Int) (w : World) : Calls Try.prog 45 #[.int .i64 5, .int .i64 a, .int .i64 b] w fun e w' => e = .returned (.int .i64 (binW 5 a b)) ∧ w' = w := by
  have hbt := bits_and63 b
  have hb0 : 0 ≤ b % 64 ∧ b % 64 < 64 := by omega
  have hd := fun W => Div_calls a b W
  have hw := fun c W => boolWord_calls c W
  go_enter Try.func45, Try.ntmps45
  go_wp2
  go_ret
  refine ⟨show Ending.returned (.int .i64 (wrap64 (a - b))) = _ from ?_, rfl⟩
  rw [← wrap64'_eq]; rfl
set_option maxHeartbeats 4000000 in
set_option maxRecDepth 100000 in
theorem Binary_6 (a b : Int) (w : World) : Calls Try.prog 45 #[.int .i64 6, .int .i64 a, .int .i64 b] w fun e w' => e = .returned (.int .i64 (binW 6 a b)) ∧ w' = w := by
  have hbt := bits_and63 b
  have hb0 : 0 ≤ b % 64 ∧ b % 64 < 64 := by omega
  have hd := fun W => Div_calls a b W
  have hw := fun c W => boolWord_calls c W
  go_enter Try.func45, Try.ntmps45
  go_wp2
  go_ret
  refine ⟨show Ending.returned (.int .i64 (wrap64 (a * b))) = _ from ?_, rfl⟩
  rw [← wrap64'_eq]; rfl
set_option maxHeartbeats 4000000 in
set_option maxRecDepth 100000 in
theorem Binary_7 (a b : Int) (w : World) : Calls Try.prog 45 #[.int .i64 7, .int .i64 a, .int .i64 b] w fun e w' => e = .returned (.int .i64 (binW 7 a b)) ∧ w' = w := by
  have hbt := bits_and63 b
  have hb0 : 0 ≤ b % 64 ∧ b % 64 < 64 := by omega
  have hd := fun W => Div_calls a b W
  have hw := fun c W => boolWord_calls c W
  go_enter Try.func45, Try.ntmps45
  go_wp2_with fail
  refine (hd _).mono ?_
  rintro e w' ⟨rfl, hw'⟩
  subst hw'
  go_wp2
  go_ret
  exact ⟨rfl, rfl⟩
set_option maxHeartbeats 4000000 in
set_option maxRecDepth 100000 in
theorem Binary_8 (a b : Int) (w : World) : Calls Try.prog 45 #[.int .i64 8, .int .i64 a, .int .i64 b] w fun e w' => e = .returned (.int .i64 (binW 8 a b)) ∧ w' = w := by
  have hbt := bits_and63 b
  have hb0 : 0 ≤ b % 64 ∧ b % 64 < 64 := by omega
  have hd := fun W => Div_calls a b W
  have hw := fun c W => boolWord_calls c W
  by_cases h0 : b = 0
  · subst h0
    go_enter Try.func45, Try.ntmps45
    go_wp2
    go_ret
    exact ⟨rfl, rfl⟩
  · have e0 := beq_no h0
    have E : Hid (binW 8 a b = wrap64' (a - wrap64' (divW a b * b))) := Lib.hid (by simp only [binW]; rw [if_neg (by decide), if_neg (by decide), if_neg (by decide), if_neg (by decide), if_pos trivial, if_neg h0])
    go_enter Try.func45, Try.ntmps45
    go_wp2_with fail
    refine (hd _).mono ?_
    rintro e w' ⟨rfl, hw'⟩
    subst hw'
    go_wp2
    go_ret
    refine ⟨show Ending.returned (.int .i64 (wrap64 (a - wrap64 (divW a b * b)))) = _ from ?_, rfl⟩
    rw [E.out, wrap64'_eq, wrap64'_eq]
set_option maxHeartbeats 4000000 in
set_option maxRecDepth 100000 in
theorem Binary_9 (a b : Int) (w : World) : Calls Try.prog 45 #[.int .i64 9, .int .i64 a, .int .i64 b] w fun e w' => e = .returned (.int .i64 (binW 9 a b)) ∧ w' = w := by
  have E : Hid (binW 9 a b = bitW (· &&& ·) a b) := Lib.hid (by simp only [binW]; rw [if_neg (by decide), if_neg (by decide), if_neg (by decide), if_neg (by decide), if_neg (by decide), if_pos trivial])
  have hbt := bits_and63 b
  have hb0 : 0 ≤ b % 64 ∧ b % 64 < 64 := by omega
  have hd := fun W => Div_calls a b W
  have hw := fun c W => boolWord_calls c W
  have hx := bits_bitW_and a b
  go_enter Try.func45, Try.ntmps45
  go_wp2
  go_ret
  rw [E.out]
  refine ⟨by simp, rfl⟩
set_option maxHeartbeats 4000000 in
set_option maxRecDepth 100000 in
theorem Binary_10 (a b : Int) (w : World) : Calls Try.prog 45 #[.int .i64 10, .int .i64 a, .int .i64 b] w fun e w' => e = .returned (.int .i64 (binW 10 a b)) ∧ w' = w := by
  have E : Hid (binW 10 a b = bitW (· ||| ·) a b) := Lib.hid (by simp only [binW]; rw [if_neg (by decide), if_neg (by decide), if_neg (by decide), if_neg (by decide), if_neg (by decide), if_neg (by decide), if_pos trivial])
  have hbt := bits_and63 b
  have hb0 : 0 ≤ b % 64 ∧ b % 64 < 64 := by omega
  have hd := fun W => Div_calls a b W
  have hw := fun c W => boolWord_calls c W
  have hx := bits_bitW_or a b
  go_enter Try.func45, Try.ntmps45
  go_wp2
  go_ret
  rw [E.out]
  refine ⟨by simp, rfl⟩
set_option maxHeartbeats 4000000 in
set_option maxRecDepth 100000 in
theorem Binary_11 (a b : Int) (w : World) : Calls Try.prog 45 #[.int .i64 11, .int .i64 a, .int .i64 b] w fun e w' => e = .returned (.int .i64 (binW 11 a b)) ∧ w' = w := by
  have E : Hid (binW 11 a b = bitW (· ^^^ ·) a b) := Lib.hid (by simp only [binW]; rw [if_neg (by decide), if_neg (by decide), if_neg (by decide), if_neg (by decide), if_neg (by decide), if_neg (by decide), if_neg (by decide), if_pos trivial])
  have hbt := bits_and63 b
  have hb0 : 0 ≤ b % 64 ∧ b % 64 < 64 := by omega
  have hd := fun W => Div_calls a b W
  have hw := fun c W => boolWord_calls c W
  have hx := bits_bitW_xor a b
  go_enter Try.func45, Try.ntmps45
  go_wp2
  go_ret
  rw [E.out]
  refine ⟨by simp, rfl⟩
set_option maxHeartbeats 4000000 in
set_option maxRecDepth 100000 in
theorem Binary_12 (a b : Int) (w : World) : Calls Try.prog 45 #[.int .i64 12, .int .i64 a, .int .i64 b] w fun e w' => e = .returned (.int .i64 (binW 12 a b)) ∧ w' = w := by
  have E : Hid (binW 12 a b = wrap64' (a * 2 ^ (b % 64).toNat)) := Lib.hid (by simp only [binW]; rw [if_neg (by decide), if_neg (by decide), if_neg (by decide), if_neg (by decide), if_neg (by decide), if_neg (by decide), if_neg (by decide), if_neg (by decide), if_pos trivial])
  have hbt := bits_and63 b
  have hb0 : 0 ≤ b % 64 ∧ b % 64 < 64 := by omega
  have hd := fun W => Div_calls a b W
  have hw := fun c W => boolWord_calls c W
  go_enter Try.func45, Try.ntmps45
  go_wp2
  go_ret
  rw [E.out, wrap64'_eq]
  refine ⟨by simp, rfl⟩
set_option maxHeartbeats 4000000 in
set_option maxRecDepth 100000 in
theorem Binary_13 (a b : Int) (w : World) : Calls Try.prog 45 #[.int .i64 13, .int .i64 a, .int .i64 b] w fun e w' => e = .returned (.int .i64 (binW 13 a b)) ∧ w' = w := by
  have E : Hid (binW 13 a b = wrap64' (a % 18446744073709551616 / 2 ^ (b % 64).toNat)) := Lib.hid (by simp only [binW]; rw [if_neg (by decide), if_neg (by decide), if_neg (by decide), if_neg (by decide), if_neg (by decide), if_neg (by decide), if_neg (by decide), if_neg (by decide), if_neg (by decide), if_pos trivial])
  have hbt := bits_and63 b
  have hb0 : 0 ≤ b % 64 ∧ b % 64 < 64 := by omega
  have hd := fun W => Div_calls a b W
  have hw := fun c W => boolWord_calls c W
  have hu := wrapU64 a
  go_enter Try.func45, Try.ntmps45
  go_wp2
  go_ret
  rw [E.out, wrap64'_eq]
  refine ⟨by simp, rfl⟩
set_option maxHeartbeats 4000000 in
set_option maxRecDepth 100000 in
theorem Binary_14 (a b : Int) (w : World) : Calls Try.prog 45 #[.int .i64 14, .int .i64 a, .int .i64 b] w fun e w' => e = .returned (.int .i64 (binW 14 a b)) ∧ w' = w := by
  have E : Hid (binW 14 a b = a / 2 ^ (b % 64).toNat) := Lib.hid (by simp only [binW]; rw [if_neg (by decide), if_neg (by decide), if_neg (by decide), if_neg (by decide), if_neg (by decide), if_neg (by decide), if_neg (by decide), if_neg (by decide), if_neg (by decide), if_neg (by decide), if_pos trivial])
  have hbt := bits_and63 b
  have hb0 : 0 ≤ b % 64 ∧ b % 64 < 64 := by omega
  have hd := fun W => Div_calls a b W
  have hw := fun c W => boolWord_calls c W
  go_enter Try.func45, Try.ntmps45
  go_wp2
  go_ret
  rw [E.out]
  refine ⟨by simp, rfl⟩
set_option maxHeartbeats 4000000 in
set_option maxRecDepth 100000 in
theorem Binary_15 (a b : Int) (w : World) : Calls Try.prog 45 #[.int .i64 15, .int .i64 a, .int .i64 b] w fun e w' => e = .returned (.int .i64 (binW 15 a b)) ∧ w' = w := by
  have hbt := bits_and63 b
  have hb0 : 0 ≤ b % 64 ∧ b % 64 < 64 := by omega
  have hd := fun W => Div_calls a b W
  have hw := fun c W => boolWord_calls c W
  by_cases hc : a = b
  · subst hc
    go_enter Try.func45, Try.ntmps45
    go_wp2_with fail
    refine (hw _ _).mono ?_
    rintro e w' ⟨rfl, hw'⟩
    subst hw'
    go_wp2
    go_ret
    refine ⟨?_, rfl⟩
    simp [binW, b2w]
  · have ec := beq_no hc
    go_enter Try.func45, Try.ntmps45
    go_wp2_with fail
    refine (hw _ _).mono ?_
    rintro e w' ⟨rfl, hw'⟩
    subst hw'
    go_wp2
    go_ret
    refine ⟨?_, rfl⟩
    simp [binW, b2w, hc]
set_option maxHeartbeats 4000000 in
set_option maxRecDepth 100000 in
theorem Binary_16 (a b : Int) (w : World) : Calls Try.prog 45 #[.int .i64 16, .int .i64 a, .int .i64 b] w fun e w' => e = .returned (.int .i64 (binW 16 a b)) ∧ w' = w := by
  have hbt := bits_and63 b
  have hb0 : 0 ≤ b % 64 ∧ b % 64 < 64 := by omega
  have hd := fun W => Div_calls a b W
  have hw := fun c W => boolWord_calls c W
  by_cases hc : a = b
  · subst hc
    go_enter Try.func45, Try.ntmps45
    go_wp2_with fail
    refine (hw _ _).mono ?_
    rintro e w' ⟨rfl, hw'⟩
    subst hw'
    go_wp2
    go_ret
    refine ⟨?_, rfl⟩
    simp [binW, b2w]
  · have ec := beq_no hc
    have ec' : (a != b) = true := by simpa using hc
    go_enter Try.func45, Try.ntmps45
    go_wp2_with fail
    refine (hw _ _).mono ?_
    rintro e w' ⟨rfl, hw'⟩
    subst hw'
    go_wp2
    go_ret
    refine ⟨?_, rfl⟩
    simp [binW, b2w, hc]
set_option maxHeartbeats 4000000 in
set_option maxRecDepth 100000 in
theorem Binary_17 (a b : Int) (w : World) : Calls Try.prog 45 #[.int .i64 17, .int .i64 a, .int .i64 b] w fun e w' => e = .returned (.int .i64 (binW 17 a b)) ∧ w' = w := by
  have hbt := bits_and63 b
  have hb0 : 0 ≤ b % 64 ∧ b % 64 < 64 := by omega
  have hd := fun W => Div_calls a b W
  have hw := fun c W => boolWord_calls c W
  go_enter Try.func45, Try.ntmps45
  go_wp2_with fail
  refine (hw _ _).mono ?_
  rintro e w' ⟨rfl, hw'⟩
  subst hw'
  go_wp2
  go_ret
  exact ⟨rfl, rfl⟩
set_option maxHeartbeats 4000000 in
set_option maxRecDepth 100000 in
theorem Binary_18 (a b : Int) (w : World) : Calls Try.prog 45 #[.int .i64 18, .int .i64 a, .int .i64 b] w fun e w' => e = .returned (.int .i64 (binW 18 a b)) ∧ w' = w := by
  have hbt := bits_and63 b
  have hb0 : 0 ≤ b % 64 ∧ b % 64 < 64 := by omega
  have hd := fun W => Div_calls a b W
  have hw := fun c W => boolWord_calls c W
  go_enter Try.func45, Try.ntmps45
  go_wp2_with fail
  refine (hw _ _).mono ?_
  rintro e w' ⟨rfl, hw'⟩
  subst hw'
  go_wp2
  go_ret
  exact ⟨rfl, rfl⟩
set_option maxHeartbeats 4000000 in
set_option maxRecDepth 100000 in
theorem Binary_19 (a b : Int) (w : World) : Calls Try.prog 45 #[.int .i64 19, .int .i64 a, .int .i64 b] w fun e w' => e = .returned (.int .i64 (binW 19 a b)) ∧ w' = w := by
  have hbt := bits_and63 b
  have hb0 : 0 ≤ b % 64 ∧ b % 64 < 64 := by omega
  have hd := fun W => Div_calls a b W
  have hw := fun c W => boolWord_calls c W
  have hu := wrapU64 a
  have hv := wrapU64 b
  go_enter Try.func45, Try.ntmps45
  go_wp2_with fail
  refine (hw _ _).mono ?_
  rintro e w' ⟨rfl, hw'⟩
  subst hw'
  go_wp2
  go_ret
  exact ⟨rfl, rfl⟩
theorem Binary_calls (op a b : Int) (h : 4 ≤ op ∧ op ≤ 19) (w : World) : Calls Try.prog 45 #[.int .i64 op, .int .i64 a, .int .i64 b] w fun e w' => e = .returned (.int .i64 (binW op a b)) ∧ w' = w := by
  rcases (show op = 4 ∨ op = 5 ∨ op = 6 ∨ op = 7 ∨ op = 8 ∨ op = 9 ∨ op = 10 ∨ op = 11 ∨ op = 12 ∨ op = 13 ∨ op = 14 ∨ op = 15 ∨ op = 16 ∨ op = 17 ∨ op = 18 ∨ op = 19 by omega) with rfl | rfl | rfl | rfl | rfl | rfl | rfl | rfl | rfl | rfl | rfl | rfl | rfl | rfl | rfl | rfl
  · exact Binary_4 a b w
  · exact Binary_5 a b w
  · exact Binary_6 a b w
  · exact Binary_7 a b w
  · exact Binary_8 a b w
  · exact Binary_9 a b w
  · exact Binary_10 a b w
  · exact Binary_11 a b w
  · exact Binary_12 a b w
  · exact Binary_13 a b w
  · exact Binary_14 a b w
  · exact Binary_15 a b w
  · exact Binary_16 a b w
  · exact Binary_17 a b w
  · exact Binary_18 a b w
  · exact Binary_19 a b w
end Go.Proofs.Ytmdahjmkfipdfaa
