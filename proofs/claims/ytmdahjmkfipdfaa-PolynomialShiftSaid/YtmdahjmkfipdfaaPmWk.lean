/- walks: polynomial.constant, add, multiply -/
import Derived.Test.YtmdahjmkfipdfaaPm
import Derived.Test.YtmdahjmkfipdfaaPoly0
namespace Go.Proofs.Ytmdahjmkfipdfaa
set_option linter.unusedVariables false
set_option linter.unusedSimpArgs false
open Go.RowKit Go.Proofs.YtmdahjmkfipdfaaW.PrintWords Go.Proofs.YtmdahjmkfipdfaaW.PrintLast Go.Proofs.YtmdahjmkfipdfaaW.PrintMore
/-- A key's bytes out of the exponents. -/
def kb (xs : List Int) : List UInt8 := xs.map fun n => UInt8.ofNat n.toNat
theorem infoU8 : (Try.prog.info? 5).map (fun i => (i.zero, i.size, i.bytes)) = some (some (.int .u8 0), 1, 1) := by kernel_rfl
theorem conv_made (W : World) (v : Nat) (hv : v ≤ 6) : (convert 71 9 (.slice (some ⟨W.heap.size, 0, none⟩) v v)).run Try.prog (W.alloc (.cells (madeCells #[.int .u8 0] v) 5)) = .ok (.string (strOfNums (List.replicate v 0))) (W.alloc (.cells (madeCells #[.int .u8 0] v) 5)) :=
  own_string Try.underlying71 Try.underlying5 Try.underlying9 (own_made W W.heap.size 5 .u8 v (Nat.le_refl _) (by omega))
/-- A map that a call hands back. -/
def NewPoly (w : World) (n : Nat) (M : PM) (e : Ending) (w' : World) : Prop := ∃ b, e = .returned (.map (some b)) ∧ w.heap.size ≤ b ∧ PolyAt w' b n M ∧ Below w.heap.size w w'
def oneTerm (k : List UInt8) (c : Int) : PM := PM.put (fun _ => none) k c
set_option maxHeartbeats 1000000 in
set_option maxRecDepth 100000 in
theorem constant_calls (n : Int) (hn : (Lit.int .u64 n).wf = true) (v : Nat) (hv : v ≤ 6) (w : World) :
    Calls Try.prog 65 #[.int .u64 n, .int .i64 v] w (NewPoly w 1 (oneTerm (kb (List.replicate v 0)) n)) := by
  have hmm := @run_makeMap Try.prog
  have hmk := print_make (P := Try.prog) 71 5 .u8 1 Try.underlying71 infoU8 (by decide) v (by omega)
  have hcv := conv_made (w.alloc (.map #[] 0)) v hv
  simp only [World.size_alloc] at hcv
  have hsz : (strOfNums (List.replicate v 0)).size ≤ maxLen := by rw [strOfNums_size]; simp [maxLen]; omega
  obtain ⟨w2, hrun, hP, hg⟩ := ((PolyAt.made w).below ((Below.refl _ _).alloc (Nat.le_refl _) (.cells (madeCells #[.int .u8 0] v) 5))).update (by simp [maxLen]) _ hsz n hn
  have hb : Below w.heap.size w w2 := (((Below.refl _ _).alloc (Nat.le_refl _) _).alloc (by simp) _).grown hg (by simp; omega) (fun k hk => by cases hk; exact Nat.le_refl _)
  go_enter Try.func65, Try.ntmps65
  go_wp2
  go_ret
  exact ⟨_, rfl, Nat.le_refl _, hP, hb⟩
/-- s.add(t, times): at each key of t the sum. -/
def addPM (Ms Mt : PM) (times : Int) : PM := fun k => match Mt k with
  | none => Ms k
  | some c => some (IntKind.u64.wrap ((Ms k).getD 0 + IntKind.u64.wrap (times * c)))
theorem wrapU64 (x : Int) : IntKind.u64.wrap x = x % 18446744073709551616 := by
  have h : IntKind.u64.bits = 64 := by decide
  simp [IntKind.wrap, IntKind.signed, h]
theorem wrapU64_wf (x : Int) : (Lit.int .u64 (IntKind.u64.wrap x)).wf = true := by
  rw [wrapU64]
  have h1 : IntKind.u64.min = 0 := by decide
  have h2 : IntKind.u64.max = 18446744073709551615 := by decide
  simp only [Lit.wf, h1, h2, Bool.and_eq_true, decide_eq_true_eq]
  omega
set_option maxHeartbeats 1000000 in
set_option maxRecDepth 100000 in
theorem add_calls (bs bt ns nt : Nat) (Ms Mt : PM) (times : Int) (w : World) (hs : PolyAt w bs ns Ms) (ht : PolyAt w bt nt Mt) (hne : bs ≠ bt) (hn : ns + nt < maxLen) :
    Calls Try.prog 66 #[.map (some bs), .map (some bt), .int .u64 times] w fun e w' => e = .returned (.tuple #[]) ∧ PolyAt w' bs (ns + nt) (addPM Ms Mt times) ∧ w.grownBy w' (some bs) := by
  go_enter Try.func66, Try.ntmps66
  go_wp2_with (first
    | (at_range; refine poly_range _ rfl _ rfl bt nt Mt ht rfl w.heap.size rfl ?_; intro w0 cnt hrg0 hcn hb0)
    | go_in)
  go_frame
  go_loopw [10] (fun _ wr => ∃ (left : List UInt8 → Bool) (cnt : Nat) (M : PM), PolyRange wr bt w.heap.size nt Mt left cnt ∧ PolyAt wr bs (ns + (nt - cnt)) M ∧ cnt ≤ nt ∧ (∀ k, M k = if left k then Ms k else addPM Ms Mt times k) ∧ w.grownBy wr (some bs))
    (fun _ wr => wr.rangeLeft bt w.heap.size)
  case atStart =>
    refine ⟨_, cnt, Ms, hrg0, (hs.below hb0).mono (by omega), hcn, fun k => ?_, grown_of_below hb0 _⟩
    unfold addPM
    cases Mt k <;> simp
  case round =>
    obtain ⟨left, cnt, M, hrg, hP, hcn, hM, hgw⟩ := hrel
    go_wp2_with (first
      | (at_next; refine poly_next _ rfl _ rfl bt w.heap.size nt Mt left cnt hrg rfl ?_ ?_)
      | go_in)
    · intro _ hl0
      go_wp2
      go_end0
      have e : M = addPM Ms Mt times := by funext k; rw [hM, hl0]; simp
      exact ⟨rfl, e ▸ hP.mono (by omega), hgw⟩
    · intro s c w1 cnt1 hsz hwc hls hMs hrg1 hlt hg1 hs1 hen
      have hP1 := hP.kept hg1 (by have := hs.lt; simp; omega)
      go_wp2_with (first
        | (at_lookup; refine poly_lookup _ rfl _ _ rfl bs _ M hP1 rfl s hsz rfl ?_)
        | (at_mapUpdate; refine poly_update _ rfl _ _ _ rfl bs _ M hP1 (by omega) rfl s hsz rfl _ rfl (wrapU64_wf _) ?_; intro w2 hP2 hg2; go_frame)
        | go_in)
      have hbs := hs.lt
      have hrg2 := hrg1.kept hg2 (by simp; omega) (by simp; omega)
      refine ⟨⟨_, cnt1, _, hrg2, hP2.mono (by omega), by omega, fun k => ?_, ?_⟩, ?_⟩
      · unfold PM.put
        by_cases e : k = s.data.toList
        · subst e
          rw [if_pos rfl, if_neg (by simp)]
          unfold addPM
          rw [hMs]
        · rw [if_neg e, hM k]
          simp [e]
      · exact (hgw.andThen hg1 (fun j hj => by cases hj; exact Or.inl (Nat.le_refl _))).andThen hg2 (fun j hj => by cases hj; exact Or.inr rfl)
      · rw [hrg2.left_eq, hrg.left_eq]; exact hlt
/-- M says of each key what the terms T add up to. -/
def Rep (v : Nat) (M : PM) (T : List (List UInt8 × Int)) : Prop := (∀ k, (M k).isSome = true → k.length = v) ∧ ∀ k, (M k).getD 0 = tsum T k % 18446744073709551616
theorem Rep.empty (v : Nat) : Rep v (fun _ => none) [] := ⟨fun _ h => by simp at h, fun _ => by simp [tsum_nil]⟩
theorem Rep.step {v : Nat} {M : PM} {T : List (List UInt8 × Int)} (h : Rep v M T) (k : List UInt8) (hk : k.length = v) (c d : Int) : Rep v (M.put k (IntKind.u64.wrap ((M k).getD 0 + IntKind.u64.wrap (c * d)))) (T ++ [(k, c * d)]) := by
  refine ⟨fun x hx => ?_, fun x => ?_⟩
  · unfold PM.put at hx
    by_cases e : x = k
    · rw [e]; exact hk
    · rw [if_neg e] at hx; exact h.1 x hx
  · rw [tsum_append, tsum_cons, tsum_nil]
    unfold PM.put
    by_cases e : x = k
    · subst e
      rw [if_pos rfl, if_pos rfl, wrapU64, wrapU64, h.2]
      simp only [Option.getD_some]
      omega
    · rw [if_neg e, if_neg (fun h => e h.symm), h.2]
      simp
theorem Rep.perm {v : Nat} {M : PM} {T U : List (List UInt8 × Int)} (h : Rep v M T) (hp : T.Perm U) : Rep v M U := ⟨h.1, fun k => by rw [h.2, tsum_perm hp]⟩
/-- The block of a row of bytes. -/
def Bytes (w : World) (g : Nat) (l : List Int) : Prop := w.heap[g]? = some (.cells (nums .u8 l).toArray 5 (0, 0))
theorem Bytes.free {w : World} {g : Nat} {l : List Int} (h : Bytes w g l) (i : Nat) : w.frozen? ⟨g, i, none⟩ = false := blk_frozen h i
theorem Bytes.cell {w : World} {g : Nat} {l : List Int} (h : Bytes w g l) {i : Nat} {x : Int} (hx : l[i]? = some x) : w.cell? ⟨g, i, none⟩ = some (.int .u8 x) := by
  rw [blk_cell h]; simp [nums, hx]
theorem Bytes.set {w : World} {g : Nat} {l : List Int} (h : Bytes w g l) (i : Nat) (x : Int) : Bytes (w.setCell ⟨g, i, none⟩ (.int .u8 x)) g (l.set i x) := by
  have := blk_set h i (.int .u8 x)
  unfold Bytes
  rw [this]
  simp [nums]
theorem Bytes.below {w w' : World} {g : Nat} {l : List Int} (h : Bytes w g l) (hb : Below w.heap.size w w') : Bytes w' g l := blk_below h hb
theorem Bytes.lt {w : World} {g : Nat} {l : List Int} (h : Bytes w g l) : g < w.heap.size := blk_lt h
theorem made_bytes (W : World) (m : Nat) : Bytes (W.alloc (.cells (madeCells #[.int .u8 0] m) 5)) W.heap.size (List.replicate m 0) := by
  unfold Bytes
  rw [blk_new]
  have : (madeCells #[Value.int .u8 0] m) = (nums .u8 (List.replicate m 0)).toArray := by
    apply Array.ext'
    apply List.ext_getElem
    · simp [nums, madeCells]
    · intro i h1 h2
      simp [nums, madeCells, Nat.mod_one]
  rw [this]
theorem Bytes.conv {w : World} {g n c : Nat} {l : List Int} (h : Bytes w g l) (hn : l.length = n) (hl : n ≤ 6) : (convert 71 9 (.slice (some ⟨g, 0, none⟩) n c)).run Try.prog w = .ok (.string (strOfNums l)) w := by
  refine Kd.C_string Try.underlying71 Try.underlying5 Try.underlying9 ?_
  refine Kd.C_of_reads (enc := Value.int .u8) (d := (0 : Int)) (h1 := fun _ => rfl) ⟨hn, by omega, fun _ => ⟨_, rfl, fun j hj => ?_⟩⟩
  rw [add_plain]
  exact h.cell (by rw [List.getD_eq_getElem?_getD]; rw [List.getElem?_eq_getElem (by omega)]; rfl)
end Go.Proofs.Ytmdahjmkfipdfaa
