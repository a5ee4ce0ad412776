/- walks -/
import Derived.Test.YtmdahjmkfipdfaaTypes
import Derived.Test.YtmdahjmkfipdfaaPure1
import Derived.Outline
import Derived.Lib.Hide
namespace Go.Proofs.Ytmdahjmkfipdfaa
set_option linter.unusedVariables false
set_option linter.unusedSimpArgs false
open Go.RowKit Go.Proofs.YtmdahjmkfipdfaaW.PrintWords Go.Proofs.YtmdahjmkfipdfaaW.PrintLast Go.Proofs.YtmdahjmkfipdfaaW.PrintMore
theorem wrap64_add (a b : Int) : wrap64 (wrap64 a + wrap64 b) = wrap64 (a + b) := by unfold wrap64; omega
set_option maxHeartbeats 1000000 in
set_option maxRecDepth 100000 in
theorem Size_calls : ∀ (p : Pat) (A : Option Addr) (c : Nat) (w : World) (hr : Kd.C kPat w A p.kids.length p.kids) (hc : p.kids.length ≤ c),
    Calls Try.prog 63 #[.agg #[.int .i64 p.var, .int .i64 p.op, .int .i64 p.imm, .int .i64 p.immVar, .slice A p.kids.length c]] w
      fun e w' => e = .returned (.int .i64 (wrap64 p.size)) ∧ Below w.heap.size w w' := by
  refine Pat.ind ?_
  intro p ih A c w hr hc
  have hmax := Kd.C_max hr
  go_enter Try.func63, Try.ntmps63
  go_wp2
  go_loopw [3, 9] (fun v3 v9 wr => ∃ k : Nat, k ≤ p.kids.length ∧ v9 = .int .i64 k ∧ v3 = .int .i64 (wrap64 (1 + Pat.sizes (p.kids.take k))) ∧ Below w.heap.size w wr)
    (fun _ v9 _ => p.kids.length - (intOf v9).toNat)
  case atStart => exact ⟨0, Nat.zero_le _, rfl, by simp [Pat.sizes, wrap64], (Below.refl _ _).alloc (Nat.le_refl _) _⟩
  case round =>
    obtain ⟨k, hk, rfl, rfl, hb⟩ := hrel
    by_cases hlt : k < p.kids.length
    · obtain ⟨q, hq⟩ : ∃ q, p.kids[k]? = some q := ⟨_, List.getElem?_eq_getElem hlt⟩
      obtain ⟨ad, A4, c4, rfl, h0, h1, h2, h3, h4, hl, hC⟩ := atN_Pat (Kd.C_below hr hb) hq
      have hs := Lib.hid (sizes_take_succ hq)
      have hm := Lib.hid (List.mem_of_getElem? hq)
      clear hq
      go_wp2_with fail
      refine (ih q hm.out _ _ _ (Kd.C_alloc hC _) hl).mono ?_
      rintro e w' ⟨rfl, hb2⟩
      go_wp2
      go_roundw
      case rel => exact ⟨k + 1, by omega, by go_num, by rw [hs.out, ← Int.add_assoc, wrap64_add], below_then (hb.alloc hb.size _) (by simp; have := hb.size; omega) hb2⟩
      case measure => simp [intOf]; omega
    · go_wp2
      go_ret
      have : k = p.kids.length := by omega
      subst this
      exact ⟨by rw [Pat.size_eq, List.take_length]; rfl, hb⟩
end Go.Proofs.Ytmdahjmkfipdfaa
