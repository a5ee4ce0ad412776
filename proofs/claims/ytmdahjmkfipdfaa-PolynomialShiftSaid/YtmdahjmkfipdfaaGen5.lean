/- walk: fullinglaw18.op -/
import Derived.Test.YtmdahjmkfipdfaaGen4
import Derived.Test.YtmdahjmkfipdfaaWRepsOne
namespace Go.Proofs.Ytmdahjmkfipdfaa
set_option linter.unusedVariables false
set_option linter.unusedSimpArgs false
open Go.RowKit Go.Proofs.YtmdahjmkfipdfaaW.PrintWords Go.Proofs.YtmdahjmkfipdfaaW.PrintLast Go.Proofs.YtmdahjmkfipdfaaW.PrintMore
set_option maxHeartbeats 1000000 in
set_option maxRecDepth 100000 in
theorem op_calls (k : Int) (p q : Pat) (A B : Option Addr) (c d : Nat) (w : World) (hp : kPat.C w A p.kids.length p.kids) (hpc : p.kids.length ≤ c) (hq : kPat.C w B q.kids.length q.kids) (hqc : q.kids.length ≤ d) :
    Calls Try.prog 21 #[.int .i64 k, .agg #[.int .i64 p.var, .int .i64 p.op, .int .i64 p.imm, .int .i64 p.immVar, .slice A p.kids.length c], .agg #[.int .i64 q.var, .int .i64 q.op, .int .i64 q.imm, .int .i64 q.immVar, .slice B q.kids.length d]] w (NewPat w (opP k [p, q])) := by
  go_enter Try.func21, Try.ntmps21
  go_wp2
  have hb : ∀ o1 o2 o3 o4, ((((w.alloc o1).alloc o2).alloc o3).alloc o4).heap[w.heap.size + 1 + 1]? = some o3 := fun o1 o2 o3 o4 => by
    have h := blk_below (blk_new ((w.alloc o1).alloc o2) o3) ((Below.refl _ _).alloc (Nat.le_refl _) o4)
    simpa only [World.size_alloc] using h
  refine bodyPost_ret (results_cell_row rfl _ _ (w.heap.size + 1 + 1) 24 _ (0, 0) _ rfl (hb _ _ _ _) Try.underlying24 rfl (by kernel_rfl)) rfl ?_
  have hC := fun o1 o2 o3 => C_pats2 (((w.alloc o1).alloc o2).alloc o3) p q (kPat_mk _ p hpc (Kd.C_alloc (Kd.C_alloc (Kd.C_alloc hp _) _) _)) (kPat_mk _ q hqc (Kd.C_alloc (Kd.C_alloc (Kd.C_alloc hq _) _) _)) 24
  simp only [World.size_alloc] at hC
  exact ⟨_, 2, rfl, Nat.le_refl _, hC _ _ _, ((((Below.refl _ _).alloc (Nat.le_refl _) _).alloc (by simp) _).alloc (by simp; omega) _).alloc (by simp; omega) _⟩
end Go.Proofs.Ytmdahjmkfipdfaa
