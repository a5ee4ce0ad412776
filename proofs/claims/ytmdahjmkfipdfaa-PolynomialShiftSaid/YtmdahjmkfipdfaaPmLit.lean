/- rows written out by a call, read -/
import Derived.Test.YtmdahjmkfipdfaaPmSame
import Derived.Test.YtmdahjmkfipdfaaWRepsOne
namespace Go.Proofs.Ytmdahjmkfipdfaa
set_option linter.unusedVariables false
set_option linter.unusedSimpArgs false
open Go.RowKit Go.Proofs.YtmdahjmkfipdfaaW.PrintWords Go.Proofs.YtmdahjmkfipdfaaW.PrintLast Go.Proofs.YtmdahjmkfipdfaaW.PrintMore
theorem C_new {α : Type} (d : Kd α) (w : World) (xs : List α) (cells : List Value) (t : TypeId) (h : Reps (d.K w) d.sz xs cells) (hm : xs.length ≤ 9223372036854775807) :
    d.C (w.alloc (.cells cells.toArray t)) (some ⟨w.heap.size, 0, none⟩) xs.length xs := by
  refine ⟨rfl, hm, fun _ => ⟨_, rfl, fun j p hj => ⟨(cells.drop (j * d.sz)).take d.sz, ?_, d.K_below ((Below.refl _ _).alloc (Nat.le_refl _) _) (h.2 j p hj), fun i u hu => ?_⟩⟩⟩
  · have hjl := (List.getElem?_eq_some_iff.1 hj).1
    have h1 : j * d.sz + d.sz ≤ cells.length := by rw [h.1, ← Nat.succ_mul]; exact Nat.mul_le_mul_right _ hjl
    rw [List.length_take, List.length_drop]
    omega
  · rw [add_plain, blk_cell (blk_new w _)]
    rw [List.getElem?_take] at hu
    split at hu
    · rw [List.getElem?_drop] at hu
      simpa using hu
    · cases hu
theorem Reps.c1 {α : Type} {R : α → List Value → Prop} {ps : List α} {cs : List Value} {p : α} {va : Value} (hp : R p [va]) (h : Reps R 1 ps cs) : Reps R 1 (p :: ps) (va :: cs) := Reps.front hp rfl h rfl
theorem C_ints (w : World) (l : List Int) (t : TypeId) (hm : l.length ≤ 9223372036854775807) : (Kd.int .i64).C (w.alloc (.cells (nums .i64 l).toArray t)) (some ⟨w.heap.size, 0, none⟩) l.length l :=
  C_new (Kd.int .i64) w l (nums .i64 l) t (Kd.reps_scalar l) hm
/-- A pattern of an operation. -/
def opP (k : Int) (ks : List Pat) : Pat := ⟨0, k, 0, 0, ks⟩
def constP (n : Int) : Pat := ⟨0, 1, n, 0, []⟩
def varP (n : Int) : Pat := ⟨n, 0, 0, 0, []⟩
theorem K_const (w : World) (n : Int) : kPat.K w (constP n) [.int .i64 0, .int .i64 1, .int .i64 n, .int .i64 0, .slice none 0 0] := kPat_mk w (constP n) (Nat.le_refl _) (Kd.C_nil _ _)
theorem K_var (w : World) (n : Int) : kPat.K w (varP n) [.int .i64 n, .int .i64 0, .int .i64 0, .int .i64 0, .slice none 0 0] := kPat_mk w (varP n) (Nat.le_refl _) (Kd.C_nil _ _)
theorem K_op (w : World) (k : Int) (ks : List Pat) {A : Option Addr} {c : Nat} (hc : ks.length ≤ c) (h : kPat.C w A ks.length ks) : kPat.K w (opP k ks) [.int .i64 0, .int .i64 k, .int .i64 0, .int .i64 0, .slice A ks.length c] := kPat_mk w (opP k ks) hc h
theorem C_pats1 (w : World) (p : Pat) {a0 a1 a2 a3 a4 : Value} (hp : kPat.K w p [a0, a1, a2, a3, a4]) (t : TypeId) : kPat.C (w.alloc (.cells #[a0, a1, a2, a3, a4] t)) (some ⟨w.heap.size, 0, none⟩) 1 [p] :=
  C_new kPat w [p] [a0, a1, a2, a3, a4] t (Reps.c5 hp (Reps.none _ _)) (by simp)
theorem C_pats2 (w : World) (p q : Pat) {a0 a1 a2 a3 a4 b0 b1 b2 b3 b4 : Value} (hp : kPat.K w p [a0, a1, a2, a3, a4]) (hq : kPat.K w q [b0, b1, b2, b3, b4]) (t : TypeId) :
    kPat.C (w.alloc (.cells #[a0, a1, a2, a3, a4, b0, b1, b2, b3, b4] t)) (some ⟨w.heap.size, 0, none⟩) 2 [p, q] :=
  C_new kPat w [p, q] [a0, a1, a2, a3, a4, b0, b1, b2, b3, b4] t (Reps.c5 hp (Reps.c5 hq (Reps.none _ _))) (by simp)
end Go.Proofs.Ytmdahjmkfipdfaa
