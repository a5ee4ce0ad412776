/- walks: polynomial.constant, add, multiply; walk: polynomial.multiply -/
import Derived.Test.YtmdahjmkfipdfaaPm
import Derived.Test.YtmdahjmkfipdfaaPoly1
namespace Go.Proofs.Ytmdahjmkfipdfaa
set_option linter.unusedVariables false
set_option linter.unusedSimpArgs false
open Go.RowKit Go.Proofs.YtmdahjmkfipdfaaW.PrintWords Go.Proofs.YtmdahjmkfipdfaaW.PrintLast Go.Proofs.YtmdahjmkfipdfaaW.PrintMore
/-- A key's bytes out of the exponents. -/
def kb (xs : List Int) : List UInt8 := xs.map fun n => UInt8.ofNat n.toNat
theorem infoU8 : (Try.prog.info? 5).map (fun i => (i.zero, i.size, i.bytes)) = some (some (.int .u8 0), 1, 1) := by kernel_rfl
theorem conv_made (W : World) (v : Nat) (hv : v ≤ 6) : (convert 71 9 (.slice (some ⟨W.heap.size, 0, none⟩) v v)).run Try.prog (W.alloc (.cells (madeCells #[.int .u8 0] v) 5)) = .ok (.string (strOfNums (List.replicate v 0))) (W.alloc (.cells (madeCells #[.int .u8 0] v) 5)) :=
  own_string Try.underlying71 Try.underlying5 Try.underlying9 (own_made W W.heap.size 5 .u8 v (Nat.le_refl _) (by omega))
/-- A map that a call hands back. -/
def NewPoly (w : World) (n : Nat) (M : PM) (e : Ending) (w' : World) : Prop := ∃ b, e = .returned (.map (some b)) ∧ w.heap.size ≤ b ∧ PolyAt w' b n M ∧ Below w.heap.size w w'
def oneTerm (k : List UInt8) (c : Int) : PM := PM.put (fun _ => none) k c
set_option maxHeartbeats 1000000 in
set_option maxRecDepth 100000 in
theorem constant_calls (n : Int) (hn : (Lit.int .u64 n).wf = true) (v : Nat) (hv : v ≤ 6) (w : World) :
    Calls Try.prog 65 #[.int .u64 n, .int .i64 v] w (NewPoly w 1 (oneTerm (kb (List.replicate v 0)) n)) := by
  have hmm := @run_makeMap Try.prog
  have hmk := print_make (P := Try.prog) 71 5 .u8 1 Try.underlying71 infoU8 (by decide) v (by omega)
  have hcv := conv_made (w.alloc (.map #[] 0)) v hv
  simp only [World.size_alloc] at hcv
  have hsz : (strOfNums (List.replicate v 0)).size ≤ maxLen := by rw [strOfNums_size]; simp [maxLen]; omega
  obtain ⟨w2, hrun, hP, hg⟩ := ((PolyAt.made w).below ((Below.refl _ _).alloc (Nat.le_refl _) (.cells (madeCells #[.int .u8 0] v) 5))).update (by simp [maxLen]) _ hsz n hn
  have hb : Below w.heap.size w w2 := (((Below.refl _ _).alloc (Nat.le_refl _) _).alloc (by simp) _).grown hg (by simp; omega) (fun k hk => by cases hk; exact Nat.le_refl _)
  go_enter Try.func65, Try.ntmps65
  go_wp2
  go_ret
  exact ⟨_, rfl, Nat.le_refl _, hP, hb⟩
/-- s.add(t, times): at each key of t the sum. -/
def addPM (Ms Mt : PM) (times : Int) : PM := fun k => match Mt k with
  | none => Ms k
  | some c => some (IntKind.u64.wrap ((Ms k).getD 0 + IntKind.u64.wrap (times * c)))
theorem wrapU64 (x : Int) : IntKind.u64.wrap x = x % 18446744073709551616 := by
  have h : IntKind.u64.bits = 64 := by decide
  simp [IntKind.wrap, IntKind.signed, h]
theorem wrapU64_wf (x : Int) : (Lit.int .u64 (IntKind.u64.wrap x)).wf = true := by
  rw [wrapU64]
  have h1 : IntKind.u64.min = 0 := by decide
  have h2 : IntKind.u64.max = 18446744073709551615 := by decide
  simp only [Lit.wf, h1, h2, Bool.and_eq_true, decide_eq_true_eq]
  omega
set_option maxHeartbeats 1000000 in
set_option maxRecDepth 100000 in
theorem add_calls (bs bt ns nt : Nat) (Ms Mt : PM) (times : Int) (w : World) (hs : PolyAt w bs ns Ms) (ht : PolyAt w bt nt Mt) (hne : bs ≠ bt) (hn : ns + nt < maxLen) :
    Calls Try.prog 66 #[.map (some bs), .map (some bt), .int .u64 times] w fun e w' => e = .returned (.tuple #[]) ∧ PolyAt w' bs (ns + nt) (addPM Ms Mt times) ∧ w.grownBy w' (some bs) := by
  go_enter Try.func66, Try.ntmps66
  go_wp2_with (first
    | (at_range; refine poly_range _ rfl _ rfl bt nt Mt ht rfl w.heap.size rfl ?_; intro w0 cnt hrg0 hcn hb0)
    | go_in)
  go_frame
  go_loopw [10] (fun _ wr => ∃ (left : List UInt8 → Bool) (cnt : Nat) (M : PM), PolyRange wr bt w.heap.size nt Mt left cnt ∧ PolyAt wr bs (ns + (nt - cnt)) M ∧ cnt ≤ nt ∧ (∀ k, M k = if left k then Ms k else addPM Ms Mt times k) ∧ w.grownBy wr (some bs))
    (fun _ wr => wr.rangeLeft bt w.heap.size)
  case atStart =>
    refine ⟨_, cnt, Ms, hrg0, (hs.below hb0).mono (by omega), hcn, fun k => ?_, grown_of_below hb0 _⟩
    unfold addPM
    cases Mt k <;> simp
  case round =>
    obtain ⟨left, cnt, M, hrg, hP, hcn, hM, hgw⟩ := hrel
    go_wp2_with (first
      | (at_next; refine poly_next _ rfl _ rfl bt w.heap.size nt Mt left cnt hrg rfl ?_ ?_)
      | go_in)
    · intro _ hl0
      go_wp2
      go_end0
      have e : M = addPM Ms Mt times := by funext k; rw [hM, hl0]; simp
      exact ⟨rfl, e ▸ hP.mono (by omega), hgw⟩
    · intro s c w1 cnt1 hsz hwc hls hMs hrg1 hlt hg1 hs1 hen
      have hP1 := hP.kept hg1 (by have := hs.lt; simp; omega)
      go_wp2_with (first
        | (at_lookup; refine poly_lookup _ rfl _ _ rfl bs _ M hP1 rfl s hsz rfl ?_)
        | (at_mapUpdate; refine poly_update _ rfl _ _ _ rfl bs _ M hP1 (by omega) rfl s hsz rfl _ rfl (wrapU64_wf _) ?_; intro w2 hP2 hg2; go_frame)
        | go_in)
      have hbs := hs.lt
      have hrg2 := hrg1.kept hg2 (by simp; omega) (by simp; omega)
      refine ⟨⟨_, cnt1, _, hrg2, hP2.mono (by omega), by omega, fun k => ?_, ?_⟩, ?_⟩
      · unfold PM.put
        by_cases e : k = s.data.toList
        · subst e
          rw [if_pos rfl, if_neg (by simp)]
          unfold addPM
          rw [hMs]
        · rw [if_neg e, hM k]
          simp [e]
      · exact (hgw.andThen hg1 (fun j hj => by cases hj; exact Or.inl (Nat.le_refl _))).andThen hg2 (fun j hj => by cases hj; exact Or.inr rfl)
      · rw [hrg2.left_eq, hrg.left_eq]; exact hlt
/-- M says of each key what the terms T add up to. -/
def Rep (v : Nat) (M : PM) (T : List (List UInt8 × Int)) : Prop := (∀ k, (M k).isSome = true → k.length = v) ∧ ∀ k, (M k).getD 0 = tsum T k % 18446744073709551616
theorem Rep.empty (v : Nat) : Rep v (fun _ => none) [] := ⟨fun _ h => by simp at h, fun _ => by simp [tsum_nil]⟩
theorem Rep.step {v : Nat} {M : PM} {T : List (List UInt8 × Int)} (h : Rep v M T) (k : List UInt8) (hk : k.length = v) (c d : Int) : Rep v (M.put k (IntKind.u64.wrap ((M k).getD 0 + IntKind.u64.wrap (c * d)))) (T ++ [(k, c * d)]) := by
  refine ⟨fun x hx => ?_, fun x => ?_⟩
  · unfold PM.put at hx
    by_cases e : x = k
    · rw [e]; exact hk
    · rw [if_neg e] at hx; exact h.1 x hx
  · rw [tsum_append, tsum_cons, tsum_nil]
    unfold PM.put
    by_cases e : x = k
    · subst e
      rw [if_pos rfl, if_pos rfl, wrapU64, wrapU64, h.2]
      simp only [Option.getD_some]
      omega
    · rw [if_neg e, if_neg (fun h => e h.symm), h.2]
      simp
theorem Rep.perm {v : Nat} {M : PM} {T U : List (List UInt8 × Int)} (h : Rep v M T) (hp : T.Perm U) : Rep v M U := ⟨h.1, fun k => by rw [h.2, tsum_perm hp]⟩
/-- The block of a row of bytes. -/
def Bytes (w : World) (g : Nat) (l : List Int) : Prop := w.heap[g]? = some (.cells (nums .u8 l).toArray 5 (0, 0))
theorem Bytes.free {w : World} {g : Nat} {l : List Int} (h : Bytes w g l) (i : Nat) : w.frozen? ⟨g, i, none⟩ = false := blk_frozen h i
theorem Bytes.cell {w : World} {g : Nat} {l : List Int} (h : Bytes w g l) {i : Nat} {x : Int} (hx : l[i]? = some x) : w.cell? ⟨g, i, none⟩ = some (.int .u8 x) := by
  rw [blk_cell h]; simp [nums, hx]
theorem Bytes.set {w : World} {g : Nat} {l : List Int} (h : Bytes w g l) (i : Nat) (x : Int) : Bytes (w.setCell ⟨g, i, none⟩ (.int .u8 x)) g (l.set i x) := by
  have := blk_set h i (.int .u8 x)
  unfold Bytes
  rw [this]
  simp [nums]
theorem Bytes.below {w w' : World} {g : Nat} {l : List Int} (h : Bytes w g l) (hb : Below w.heap.size w w') : Bytes w' g l := blk_below h hb
theorem Bytes.lt {w : World} {g : Nat} {l : List Int} (h : Bytes w g l) : g < w.heap.size := blk_lt h
theorem made_bytes (W : World) (m : Nat) : Bytes (W.alloc (.cells (madeCells #[.int .u8 0] m) 5)) W.heap.size (List.replicate m 0) := by
  unfold Bytes
  rw [blk_new]
  have : (madeCells #[Value.int .u8 0] m) = (nums .u8 (List.replicate m 0)).toArray := by
    apply Array.ext'
    apply List.ext_getElem
    · simp [nums, madeCells]
    · intro i h1 h2
      simp [nums, madeCells, Nat.mod_one]
  rw [this]
theorem Bytes.conv {w : World} {g n c : Nat} {l : List Int} (h : Bytes w g l) (hn : l.length = n) (hl : n ≤ 6) : (convert 71 9 (.slice (some ⟨g, 0, none⟩) n c)).run Try.prog w = .ok (.string (strOfNums l)) w := by
  refine Kd.C_string Try.underlying71 Try.underlying5 Try.underlying9 ?_
  refine Kd.C_of_reads (enc := Value.int .u8) (d := (0 : Int)) (h1 := fun _ => rfl) ⟨hn, by omega, fun _ => ⟨_, rfl, fun j hj => ?_⟩⟩
  rw [add_plain]
  exact h.cell (by rw [List.getD_eq_getElem?_getD]; rw [List.getElem?_eq_getElem (by omega)]; rfl)
end Go.Proofs.Ytmdahjmkfipdfaa
namespace Go.Proofs.Ytmdahjmkfipdfaa
set_option linter.unusedVariables false
set_option linter.unusedSimpArgs false
open Go.RowKit Go.Proofs.YtmdahjmkfipdfaaW.PrintWords Go.Proofs.YtmdahjmkfipdfaaW.PrintLast Go.Proofs.YtmdahjmkfipdfaaW.PrintMore
/-- The bytes of a string as whole numbers. -/
def nb (s : ByteArray) : List Int := s.data.toList.map fun b => (b.toNat : Int)
/-- The sums of two strings' bytes, the first k of them. -/
def sumTo (v k : Nat) (j l : ByteArray) : List Int := (List.range v).map fun i => if i < k then ((nb j).getD i 0 + (nb l).getD i 0) % 256 else 0
theorem sumTo_zero (v : Nat) (j l : ByteArray) : sumTo v 0 j l = List.replicate v 0 := by
  apply List.ext_getElem
  · simp [sumTo]
  · intro i h1 h2; simp [sumTo]
theorem nb_get (s : ByteArray) (k : Nat) (h : k < s.size) : (nb s).getD k 0 = (s[k].toNat : Int) := by
  have h' : k < s.data.toList.length := by rw [Array.length_toList]; exact h
  simp [nb, List.getD_eq_getElem?_getD, List.getElem?_eq_getElem h']
  rfl
theorem sumTo_succ (v k : Nat) (j l : ByteArray) (hj : k < j.size) (hl : k < l.size) (hk : k < v) : sumTo v (k + 1) j l = (sumTo v k j l).set k (((j[k].toNat : Int) + (l[k].toNat : Int)) % 256) := by
  apply List.ext_getElem
  · simp [sumTo]
  · intro i h1 h2
    have hi : i < v := by simpa [sumTo] using h1
    rw [List.getElem_set]
    by_cases e : k = i
    · subst e
      rw [if_pos rfl]
      simp only [sumTo, List.getElem_map, List.getElem_range]
      rw [if_pos (by omega), nb_get j k hj, nb_get l k hl]
    · rw [if_neg e]
      simp only [sumTo, List.getElem_map, List.getElem_range]
      by_cases h : i < k
      · rw [if_pos h, if_pos (by omega)]
      · rw [if_neg h, if_neg (by omega)]
theorem sumTo_key (v : Nat) (j l : ByteArray) (hj : j.size = v) (hl : l.size = v) : (strOfNums (sumTo v v j l)).data.toList = addK j.data.toList l.data.toList := by
  rw [strOfNums_data]
  have hj' : j.data.toList.length = v := by rw [Array.length_toList]; exact hj
  have hl' : l.data.toList.length = v := by rw [Array.length_toList]; exact hl
  apply List.ext_getElem
  · simp only [sumTo, List.length_map, List.length_range, addK, List.length_zipWith, hj', hl']; omega
  · intro i h1 h2
    have hi : i < v := by simpa [sumTo] using h1
    simp only [sumTo, addK, List.getElem_map, List.getElem_range, List.getElem_zipWith]
    rw [if_pos hi, nb_get j i (by omega), nb_get l i (by omega)]
    apply UInt8.toNat_inj.1
    rw [UInt8.toNat_add]
    have e1 : (j[i]'(by omega)).toNat = (j.data.toList[i]'(by omega)).toNat := rfl
    have e2 : (l[i]'(by omega)).toNat = (l.data.toList[i]'(by omega)).toNat := rfl
    rw [← e1, ← e2]
    generalize (j[i]'(by omega)).toNat = a
    generalize (l[i]'(by omega)).toNat = b
    have : (((a : Int) + (b : Int)) % 256).toNat = (a + b) % 256 := by omega
    rw [this]
    simp
set_option maxHeartbeats 4000000 in
set_option maxRecDepth 100000 in
theorem multiply_calls (ba bb na nb : Nat) (Ma Mb : PM) (v : Nat) (hv : v ≤ 6) (w : World) (ha : PolyAt w ba na Ma) (hb : PolyAt w bb nb Mb) (hn : na * nb < maxLen)
    (hka : ∀ k, (Ma k).isSome = true → k.length = v) (hkb : ∀ k, (Mb k).isSome = true → k.length = v) (TB : List (List UInt8 × Int)) (hTB : Terms Mb TB) :
    Calls Try.prog 67 #[.map (some ba), .map (some bb), .int .i64 v] w fun e w' => ∃ M TA, Terms Ma TA ∧ Rep v M (prodT TA TB) ∧ NewPoly w (na * nb) M e w' := by
  have hmm := @run_makeMap Try.prog
  have hmk := print_make (P := Try.prog) 71 5 .u8 1 Try.underlying71 infoU8 (by decide) v (by omega)
  have hla := ha.lt
  have hlb := hb.lt
  go_enter Try.func67, Try.ntmps67
  go_wp2_with (first
    | (at_range; refine poly_range _ rfl _ rfl ba na Ma (ha.below ((Below.refl _ _).alloc (Nat.le_refl _) _)) rfl (w.heap.size + 1) (by simp) ?_; intro w0 cnt hrg0 hcn hb0)
    | go_in)
  go_frame
  have hB0 : Below w.heap.size w w0 := below_then ((Below.refl _ _).alloc (Nat.le_refl _) _) (by simp) (by simpa using hb0)
  go_loopw [17] (fun _ wr => ∃ (left : List UInt8 → Bool) (cnt n : Nat) (M : PM) (T : List (List UInt8 × Int)), PolyRange wr ba (w.heap.size + 1) na Ma left cnt ∧ PolyAt wr w.heap.size n M ∧ n + cnt * nb ≤ na * nb ∧ Done Ma left T ∧ Rep v M (prodT T TB) ∧ Below w.heap.size w wr)
    (fun _ wr => wr.rangeLeft ba (w.heap.size + 1))
  case atStart => exact ⟨_, cnt, 0, _, [], hrg0, (PolyAt.made w).below (by simpa using hb0), by rw [Nat.zero_add]; exact Nat.mul_le_mul_right _ hcn, Done.start _, Rep.empty v, hB0⟩
  case round =>
    obtain ⟨left, cnt, n, M, T, hrg, hP, hnn, hD, hR, hBr⟩ := hrel
    obtain ⟨wo, rfl⟩ : ∃ wo : World, wo = wr := ⟨_, rfl⟩
    go_wp2_with (first
      | (at_next; refine poly_next _ rfl _ rfl ba (w.heap.size + 1) na Ma left cnt hrg rfl ?_ ?_)
      | go_in)
    · intro _ hl0
      go_wp2
      go_ret
      exact ⟨M, T, hD.end_ hl0, hR, _, rfl, Nat.le_refl _, hP.mono (by omega), hBr⟩
    · intro s c w1 cnt1 hsz hwc hls hMs hrg1 hlt hg1 hs1 hen
      have hsz0 := hBr.size
      have hB1 : Below w.heap.size w w1 := hBr.grown hg1 hBr.size (fun k hk => by cases hk; omega)
      have hP1 := hP.kept hg1 (by simp)
      have hb1 := hb.below hB1
      have hD1 := hD.step hls hMs
      have hlv : s.size = v := by have := hka s.data.toList (by rw [hMs]; rfl); simpa using this
      have hnn1 : n + cnt1 * nb + nb ≤ na * nb := by have : (cnt1 + 1) * nb ≤ cnt * nb := Nat.mul_le_mul_right _ hlt; rw [Nat.succ_mul] at this; omega
      have hmu : w1.rangeLeft ba (w.heap.size + 1) < wo.rangeLeft ba (w.heap.size + 1) := by rw [hrg1.left_eq, hrg.left_eq]; exact hlt
      have HMU := Lib.hid hmu
      clear hmu hrg hP hD hBr hg1 hlt hnn hls
      obtain ⟨r2, hr2⟩ : ∃ r2, r2 = w1.heap.size := ⟨_, rfl⟩
      have hr2' := Lib.hid hr2.symm
      have hlr := hrg1.lt
      clear hr2
      go_wp2_with (first
        | (at_range; refine poly_range _ rfl _ rfl bb nb Mb hb1 rfl r2 hr2'.out ?_; intro w2 cnt2 hrg2 hcn2 hb2)
        | go_in)
      go_frame
      have hb2' : Below w1.heap.size w1 w2 := by rw [hr2'.out]; exact hb2
      go_loopw [24] (fun _ wr => ∃ (left2 : List UInt8 → Bool) (cnt2 n2 : Nat) (M2 : PM) (T2 : List (List UInt8 × Int)), PolyRange wr bb r2 nb Mb left2 cnt2 ∧ PolyRange wr ba (w.heap.size + 1) na Ma (fun k => left k && !decide (k = s.data.toList)) cnt1 ∧ PolyAt wr w.heap.size n2 M2 ∧ n2 + cnt1 * nb + cnt2 ≤ na * nb ∧ Done Mb left2 T2 ∧ Rep v M2 (prodT T TB ++ T2.map (fun q => (addK s.data.toList q.1, c * q.2))) ∧ Below w.heap.size w wr)
        (fun _ wr => wr.rangeLeft bb r2)
      case atStart => exact ⟨_, cnt2, n, M, [], hrg2, hrg1.kept (grown_of_below hb2' none) (by simp) (by simp), hP1.below hb2', by omega, Done.start _, by simpa using hR, below_then hB1 hB1.size hb2'⟩
      case round =>
        obtain ⟨left2, cnt2, n2, M2, T2, hrgb, hrga, hP2, hnn2, hD2, hR2, hBr2⟩ := hrel
        obtain ⟨wi, rfl⟩ : ∃ wi : World, wi = wr := ⟨_, rfl⟩
        go_wp2_with (first
          | (at_next; refine poly_next _ rfl _ rfl bb r2 nb Mb left2 cnt2 hrgb rfl ?_ ?_)
          | go_in)
        · intro _ hl0
          go_wp2
          refine ⟨⟨_, cnt1, n2, M2, _, hrga, hP2, by omega, hD1, hR2.perm ?_, hBr2⟩, ?_⟩
          · have hp := (hD2.end_ hl0).perm hTB
            unfold prodT
            rw [List.flatMap_append]
            refine List.Perm.append_left _ ?_
            simpa using hp.map _
          · rw [hrga.left_eq, ← hrg1.left_eq]; exact HMU.out
        · intro s2 c2 w3 cnt3 hsz2 hwc2 hls2 hMs2 hrg3 hlt2 hg3 hs3 hen2
          have hsz1 := hBr2.size
          have hr2g : w.heap.size < r2 := by have := hr2'.out; have := hB1.size; omega
          have hB3 : Below w.heap.size w w3 := hBr2.grown hg3 hBr2.size (fun k hk => by cases hk; omega)
          have hP3 := hP2.kept hg3 (by simp; omega)
          have hrga3 := hrga.kept hg3 (by simp; omega) (by have := hr2'.out; simp; omega)
          have hD3 := hD2.step hls2 hMs2
          have hlv2 : s2.size = v := by have := hkb s2.data.toList (by rw [hMs2]; rfl); simpa using this
          have HM2 := Lib.hid (show w3.rangeLeft bb r2 < wi.rangeLeft bb r2 by rw [hrg3.left_eq, hrgb.left_eq]; exact hlt2)
          clear hrgb hrga hP2 hD2 hBr2 hg3 hls2
          obtain ⟨g, hgg⟩ : ∃ g, g = w3.heap.size := ⟨_, rfl⟩
          have hmb := made_bytes w3 v
          rw [← hgg] at hmb
          have hmk3 := hmk w3
          rw [← hgg] at hmk3
          have hB4 : ∀ ob, Below w3.heap.size w3 (w3.alloc ob) := fun ob => (Below.refl _ _).alloc (Nat.le_refl _) _
          clear hmk
          replace hgg := Lib.hid hgg
          go_wp2
          go_loopw [33] (fun v33 wr => ∃ k : Nat, k ≤ v ∧ v33 = .int .i64 k ∧ Bytes wr g (sumTo v k s s2) ∧ Below w3.heap.size w3 wr)
            (fun v33 _ => v - (intOf v33).toNat)
          case atStart => exact ⟨0, Nat.zero_le _, rfl, by rw [sumTo_zero]; exact hmb, hB4 _⟩
          case round =>
            obtain ⟨k, hk, rfl, hBy, hBk⟩ := hrel
            by_cases hlt : k < v
            · have hk1 : k < s.size := by omega
              have hk2 : k < s2.size := by omega
              have hf := hBy.free k
              have hcl : ∃ y, wr.cell? ⟨g, k, none⟩ = some (.int .u8 y) := ⟨_, hBy.cell (List.getElem?_eq_getElem (by simp [sumTo]; omega))⟩
              obtain ⟨y, hcl⟩ := hcl
              have HBy := Lib.hid hBy
              clear hBy
              go_wp2
              go_region
              go_wp2
              go_roundw
              case rel => exact ⟨k + 1, by omega, by go_num, by rw [sumTo_succ v k s s2 hk1 hk2 hlt]; exact HBy.out.set k _, below_drew (hBk.setCell (p := ⟨g, k, none⟩) (show w3.heap.size ≤ g by rw [hgg.out]; exact Nat.le_refl _) _)⟩
              case measure => simp [intOf]; omega
            · have ek : k = v := by omega
              subst ek
              have hcv := hBy.conv (n := k) (c := k) (by simp [sumTo]) hv
              have hPr := hP3.below hBk
              obtain ⟨key, hkey⟩ : ∃ key, key = strOfNums (sumTo k k s s2) := ⟨_, rfl⟩
              rw [← hkey] at hcv
              have hks : key.size ≤ maxLen := by rw [hkey, strOfNums_size]; simp [sumTo, maxLen]; omega
              have hkd : Hid (key.data.toList = addK s.data.toList s2.data.toList) := Lib.hid (by rw [hkey, sumTo_key k s s2 hlv hlv2])
              clear hkey
              have hn2 : n2 < maxLen := by omega
              go_wp2_with (first
                | (at_lookup; refine poly_lookup _ rfl _ _ rfl w.heap.size n2 M2 hPr rfl key hks rfl ?_)
                | (at_mapUpdate; refine poly_update _ rfl _ _ _ rfl w.heap.size n2 M2 hPr hn2 rfl key hks rfl _ rfl (wrapU64_wf _) ?_; intro w5 hP5 hg5; go_frame)
                | go_in)
              rw [hkd.out] at hP5
              have hrgb5 := (hrg3.kept (grown_of_below hBk none) (by simp) (by simp)).kept hg5 (by simp; omega) (by simp; omega)
              have hrga5 := (hrga3.kept (grown_of_below hBk none) (by simp) (by simp)).kept hg5 (by simp; omega) (by simp)
              refine ⟨⟨_, cnt3, n2 + 1, _, _, hrgb5, hrga5, hP5, by omega, hD3, ?_, ?_⟩, ?_⟩
              · rw [List.map_append, ← List.append_assoc]
                exact hR2.step _ (by simp [addK]; omega) c c2
              · exact (below_then hB3 hB3.size hBk).grown hg5 (by have := hB3.size; have := hBk.size; omega) (fun k hk => by cases hk; exact Nat.le_refl _)
              · rw [hrgb5.left_eq, ← hrg3.left_eq]; exact HM2.out
end Go.Proofs.Ytmdahjmkfipdfaa
