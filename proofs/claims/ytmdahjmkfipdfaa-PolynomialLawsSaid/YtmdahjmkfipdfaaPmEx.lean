/- rows written out by a call, read; walk: fullinglaw18.PolynomialExamples -/
import Derived.Test.YtmdahjmkfipdfaaPmSame
import Derived.Test.YtmdahjmkfipdfaaWRepsOne
namespace Go.Proofs.Ytmdahjmkfipdfaa
set_option linter.unusedVariables false
set_option linter.unusedSimpArgs false
open Go.RowKit Go.Proofs.YtmdahjmkfipdfaaW.PrintWords Go.Proofs.YtmdahjmkfipdfaaW.PrintLast Go.Proofs.YtmdahjmkfipdfaaW.PrintMore
theorem C_new {α : Type} (d : Kd α) (w : World) (xs : List α) (cells : List Value) (t : TypeId) (h : Reps (d.K w) d.sz xs cells) (hm : xs.length ≤ 9223372036854775807) :
    d.C (w.alloc (.cells cells.toArray t)) (some ⟨w.heap.size, 0, none⟩) xs.length xs := by
  refine ⟨rfl, hm, fun _ => ⟨_, rfl, fun j p hj => ⟨(cells.drop (j * d.sz)).take d.sz, ?_, d.K_below ((Below.refl _ _).alloc (Nat.le_refl _) _) (h.2 j p hj), fun i u hu => ?_⟩⟩⟩
  · have hjl := (List.getElem?_eq_some_iff.1 hj).1
    have h1 : j * d.sz + d.sz ≤ cells.length := by rw [h.1, ← Nat.succ_mul]; exact Nat.mul_le_mul_right _ hjl
    rw [List.length_take, List.length_drop]
    omega
  · rw [add_plain, blk_cell (blk_new w _)]
    rw [List.getElem?_take] at hu
    split at hu
    · rw [List.getElem?_drop] at hu
      simpa using hu
    · cases hu
theorem Reps.c1 {α : Type} {R : α → List Value → Prop} {ps : List α} {cs : List Value} {p : α} {va : Value} (hp : R p [va]) (h : Reps R 1 ps cs) : Reps R 1 (p :: ps) (va :: cs) := Reps.front hp rfl h rfl
theorem C_ints (w : World) (l : List Int) (t : TypeId) (hm : l.length ≤ 9223372036854775807) : (Kd.int .i64).C (w.alloc (.cells (nums .i64 l).toArray t)) (some ⟨w.heap.size, 0, none⟩) l.length l :=
  C_new (Kd.int .i64) w l (nums .i64 l) t (Kd.reps_scalar l) hm
/-- A pattern of an operation. -/
def opP (k : Int) (ks : List Pat) : Pat := ⟨0, k, 0, 0, ks⟩
def constP (n : Int) : Pat := ⟨0, 1, n, 0, []⟩
def varP (n : Int) : Pat := ⟨n, 0, 0, 0, []⟩
theorem K_const (w : World) (n : Int) : kPat.K w (constP n) [.int .i64 0, .int .i64 1, .int .i64 n, .int .i64 0, .slice none 0 0] := kPat_mk w (constP n) (Nat.le_refl _) (Kd.C_nil _ _)
theorem K_var (w : World) (n : Int) : kPat.K w (varP n) [.int .i64 n, .int .i64 0, .int .i64 0, .int .i64 0, .slice none 0 0] := kPat_mk w (varP n) (Nat.le_refl _) (Kd.C_nil _ _)
theorem K_op (w : World) (k : Int) (ks : List Pat) {A : Option Addr} {c : Nat} (hc : ks.length ≤ c) (h : kPat.C w A ks.length ks) : kPat.K w (opP k ks) [.int .i64 0, .int .i64 k, .int .i64 0, .int .i64 0, .slice A ks.length c] := kPat_mk w (opP k ks) hc h
theorem C_pats1 (w : World) (p : Pat) {a0 a1 a2 a3 a4 : Value} (hp : kPat.K w p [a0, a1, a2, a3, a4]) (t : TypeId) : kPat.C (w.alloc (.cells #[a0, a1, a2, a3, a4] t)) (some ⟨w.heap.size, 0, none⟩) 1 [p] :=
  C_new kPat w [p] [a0, a1, a2, a3, a4] t (Reps.c5 hp (Reps.none _ _)) (by simp)
theorem C_pats2 (w : World) (p q : Pat) {a0 a1 a2 a3 a4 b0 b1 b2 b3 b4 : Value} (hp : kPat.K w p [a0, a1, a2, a3, a4]) (hq : kPat.K w q [b0, b1, b2, b3, b4]) (t : TypeId) :
    kPat.C (w.alloc (.cells #[a0, a1, a2, a3, a4, b0, b1, b2, b3, b4] t)) (some ⟨w.heap.size, 0, none⟩) 2 [p, q] :=
  C_new kPat w [p, q] [a0, a1, a2, a3, a4, b0, b1, b2, b3, b4] t (Reps.c5 hp (Reps.c5 hq (Reps.none _ _))) (by simp)
end Go.Proofs.Ytmdahjmkfipdfaa
namespace Go.Proofs.Ytmdahjmkfipdfaa
set_option linter.unusedVariables false
set_option linter.unusedSimpArgs false
open Go.RowKit Go.Proofs.YtmdahjmkfipdfaaW.PrintWords Go.Proofs.YtmdahjmkfipdfaaW.PrintLast Go.Proofs.YtmdahjmkfipdfaaW.PrintMore
/-- The law's pattern: (x + 1) * (x - 1). -/
def exP : Pat := opP 6 [opP 4 [varP 1, constP 1], opP 5 [varP 1, constP 1]]
def exM : List Mono := [⟨[0], 18446744073709551615⟩, ⟨[2], 1⟩]
theorem exP_size : wrap64 exP.size = exP.size := by
  simp [exP, opP, varP, constP, Pat.size, Pat.sizes, wrap64]
theorem exP_valid : patValid exP 1 0 = true := by
  simp [patValid, exP, opP, varP, constP, Pat.size, Pat.sizes, wrap64', valid, valids, opSorts, validImm]
theorem exP_norm : polyNorm exP 1 = some exM := by
  unfold polyNorm
  rw [if_pos exP_valid]
  have h : pterms 1 exP = some (prodT [(unitK 1 0, 1), (zeroK 1, 1)] [(unitK 1 0, 1), (zeroK 1, 18446744073709551615)]) := by
    simp [exP, opP, varP, constP, pterms, ptermss, opTerms, scaleT]
  rw [show (1 : Int).toNat = 1 from rfl, h]
  have h1 : nzKeys (prodT [(unitK 1 0, 1), (zeroK 1, 1)] [(unitK 1 0, 1), (zeroK 1, 18446744073709551615)]) = [[2], [0]] := by decide +kernel
  have h2 : ([[2], [0]] : List (List UInt8)).mergeSort leB = [[0], [2]] := by
    rw [mergeSort_of_perm (List.Perm.swap [0] [2] [])]
    exact List.mergeSort_of_pairwise (by decide)
  simp only [Option.map_some, normOut, h1, h2]
  have h3 : ([[0], [2]] : List (List UInt8)).map (monoAt (prodT [(unitK 1 0, 1), (zeroK 1, 1)] [(unitK 1 0, 1), (zeroK 1, 18446744073709551615)])) = exM := by rfl
  rw [h3]
set_option maxHeartbeats 4000000 in
set_option maxRecDepth 100000 in
theorem examples18_calls (w : World) : Calls Try.prog 3 #[] w fun e w' => e = .returned (.bool true) ∧ Below w.heap.size w w' := by
  have hn := fun W h => Normalize_calls exP 1 (some ⟨w.heap.size + 3, 0, none⟩) 2 W h (Nat.le_refl _) exP_size
  rw [exP_norm] at hn
  go_enter Try.func3, Try.ntmps3
  go_wp2_with fail
  refine (hn _ ?_).mono ?_
  · refine Kd.C_alloc ?_ _
    have h1 := fun W : World => C_pats2 W (varP 1) (constP 1) (K_var W 1) (K_const W 1) 24
    have h2 := fun W : World => C_pats2 ((W.alloc (.cells _ 24)).alloc (.cells _ 24)) (opP 4 [varP 1, constP 1]) (opP 5 [varP 1, constP 1]) (K_op _ 4 _ (Nat.le_refl _) (Kd.C_alloc (h1 W) _)) (K_op _ 5 _ (Nat.le_refl _) (h1 (W.alloc _))) 24
    have h3 := h2 (w.alloc (.cells #[.int .i64 0, .int .i64 1, .int .i64 1, .int .i64 0, .slice none 0 0] 24))
    simp only [World.size_alloc] at h3
    exact h3
  rintro e w' ⟨hb, v, rfl, hv⟩
  obtain ⟨A, c, rfl, hc, hC⟩ := Kd.R_reads hv
  have hb1 : Below w.heap.size w w' := by
    refine below_then ?_ ?_ hb
    · exact (((((Below.refl _ _).alloc (Nat.le_refl _) _).alloc (by simp) _).alloc (by simp; omega) _).alloc (by simp; omega) _).alloc (by simp; omega) _
    · simp; omega
  clear hb hn hv
  have hs := fun W h1 h2 => same_calls exM exM A (some ⟨w'.heap.size + 2, 0, none⟩) c 2 W h1 h2 hc (Nat.le_refl _)
  rw [samePoly_true rfl] at hs
  go_wp2_with fail
  refine (hs _ ?_ ?_).mono ?_
  · exact Kd.C_alloc (Kd.C_alloc (Kd.C_alloc hC _) _) _
  · have h1 := fun W : World => C_new kMono ((W.alloc (.cells (nums .i64 [0]).toArray 3)).alloc (.cells (nums .i64 [2]).toArray 3)) exM _ 32
      (Reps.c2 (kMono_mk _ ⟨[0], 18446744073709551615⟩ (Nat.le_refl _) (Kd.C_alloc (C_ints W [0] 3 (by simp)) _)) (Reps.c2 (kMono_mk _ ⟨[2], 1⟩ (Nat.le_refl _) (C_ints (W.alloc _) [2] 3 (by simp))) (Reps.none _ _))) (by simp [exM])
    have h2 := h1 w'
    simp only [World.size_alloc] at h2
    exact h2
  rintro e w'' ⟨rfl, hb2⟩
  go_wp2
  go_ret
  refine ⟨rfl, below_then (((hb1.alloc hb1.size _).alloc (by simp; have := hb1.size; omega) _).alloc (by simp; have := hb1.size; omega) _) (by simp; have := hb1.size; omega) hb2⟩
end Go.Proofs.Ytmdahjmkfipdfaa
