/- sort.Strings at a row of the call's own; walk: polynomial.Normalize -/
import Derived.Test.YtmdahjmkfipdfaaPmNorm2
import Derived.Test.YtmdahjmkfipdfaaPoly2
import Derived.Test.YtmdahjmkfipdfaaShelf
import Derived.Sort.OwnSorted
import Derived.Deep.RegionLaw
namespace Go.Proofs.Ytmdahjmkfipdfaa
set_option linter.unusedVariables false
set_option linter.unusedSimpArgs false
open Go.RowKit Go.Sort Go.Proofs.YtmdahjmkfipdfaaW.PrintWords Go.Proofs.YtmdahjmkfipdfaaW.PrintLast Go.Proofs.YtmdahjmkfipdfaaW.PrintMore
theorem sortStrings_calls (base : Nat) (v : Value) (ss : List (List UInt8)) (w : World) (h : w.ownsRow base 9 1 v ss.length (ss.map encStr)) (hl : ss.length < 4611686018427387904) :
    Calls Try.prog 39 #[v] w fun e w' => e = .returned (.tuple #[]) ∧ w'.ownsRow base 9 1 v ss.length ((ss.mergeSort leB).map encStr) ∧ w.grownBy w' v.ownBlock := by
  rcases h.2 with ⟨rfl, h0⟩ | ⟨g, cap, cur, rfl, hbase, hb, h1, h2, h3, h4⟩
  · rw [h0]
    have e := List.eq_nil_of_length_eq_zero h0
    subst e
    refine (shelf_sort_Strings_none none 0 w).mono ?_
    rintro e w' ⟨rfl, rfl⟩
    refine ⟨rfl, by simpa using h, rfl, rfl, rfl, Nat.le_refl _, fun _ _ _ => rfl⟩
  · refine (shelf_sort_Strings g 0 cap ss w (holds_of_block hb (by simpa using h4)) (Array.getElem?_eq_some_iff.1 hb).1 hl).mono ?_
    rintro e w' ⟨rfl, n, os, rfl⟩
    have hm : (ss.mergeSort leB).length = ss.length := List.length_mergeSort ss
    have q := ownsRow_sorted (n := n) (os := os) (ss := ss) (ts := ss.mergeSort leB) hm hbase hb h1 h2 h3
    refine ⟨rfl, q, ?_⟩
    exact grownBy_sorted _
end Go.Proofs.Ytmdahjmkfipdfaa
namespace Go.Proofs.Ytmdahjmkfipdfaa
set_option linter.unusedVariables false
set_option linter.unusedSimpArgs false
open Go.RowKit Go.Proofs.YtmdahjmkfipdfaaW.PrintWords Go.Proofs.YtmdahjmkfipdfaaW.PrintLast Go.Proofs.YtmdahjmkfipdfaaW.PrintMore
/-- A list of monomials of the call's own, handed back, or none. -/
def MonosRes (w : World) (o : Option (List Mono)) (e : Ending) (w' : World) : Prop := Below w.heap.size w w' ∧ match o with
  | none => e = .returned (.tuple #[.slice none 0 0, .bool false])
  | some ms => ∃ v, e = .returned (.tuple #[v, .bool true]) ∧ kMono.R 32 w' w.heap.size (fun _ => True) v ms
theorem infoStr : (Try.prog.info? 9).map (fun i => (i.zero, i.size, i.bytes)) = some (some (.string ByteArray.empty), 1, 16) := by kernel_rfl
theorem infoInt' : (Try.prog.info? 3).map (fun i => (i.zero, i.size, i.bytes)) = some (some (.int .i64 0), 1, 8) := by kernel_rfl
theorem infoMono : (Try.prog.info? 32).map (fun i => (i.zero, i.size, i.bytes)) = some (some (.agg #[.slice none 0 0, .int .u64 0]), 2, 32) := by kernel_rfl
theorem own_kept {w w' : World} {base e size n : Nat} {v : Value} {xs : List Value} (h : w.ownsRow base e size v n xs) {row : Option Nat} (hg : w.grownBy w' row) (hr : ∀ r, row = some r → r < base) : w'.ownsRow base e size v n xs :=
  own_move h fun k hk => hg.block k (own_lt h k hk) (fun e => by have := hr k e.symm; have := own_base h k hk; omega)
theorem own_reads {w : World} {base e : Nat} {v : Value} {xs : List Value} (h : w.ownsRow base e 1 v xs.length xs) :
    ∃ A c, v = .slice A xs.length c ∧ ∀ j x, xs[j]? = some x → ∃ ad, A = some ad ∧ base ≤ ad.block ∧ ad.block < w.heap.size ∧ w.cell? (ad.add j) = some x := by
  rcases h.2 with ⟨rfl, h0⟩ | ⟨g, cap, cur, rfl, hg, hh, r⟩
  · rw [h0]
    refine ⟨none, 0, rfl, fun j x hx => ?_⟩
    rw [List.eq_nil_of_length_eq_zero h0] at hx
    simp at hx
  · refine ⟨some ⟨g, 0, none⟩, cap, rfl, fun j x hx => ⟨_, rfl, hg, own_lt h g rfl, ?_⟩⟩
    exact h.cells (g := g) rfl j x hx
section
variable {P : Program} {ops : Array Oper} {o : Oper} {a : Act} {Q : Exit → Act → World → Prop} {Kc : Act → World → Prop} {α : Type}
/-- append as one step of a region that draws its order (go_region_law). -/
theorem law_append {E : Prop} (d : Kd α) {w0 W : World} (base : Nat) (hg : o.guard = none) (s x : Operand) (t e : TypeId) (z : Value) (bytes : Nat)
    (ho : o.op = .call { callee := .builtin .append, args := #[s, x], argTypes := #[t, t] })
    (ht : P.underlying t = some (.slice e)) (hinfo : (P.info? e).map (fun i => (i.zero, i.size, i.bytes)) = some (some z, d.sz, bytes)) (hz : z.cells.size = d.sz) (hs0 : 0 < d.sz) (hb0 : 0 < bytes)
    (v : Value) (xs : List α) (p : α) (cs : List Value) (ok okp : Nat → Prop) (hs : a.eval s = v) (hx : a.eval x = .slice (some ⟨W.heap.size, 0, none⟩) 1 1) (hp : d.M W base okp p cs) (hokp : ∀ k, okp k → ok k ∧ some k ≠ v.ownBlock) (hfresh : ∀ k, W.heap.size ≤ k → ok k)
    (HO : d.R e W base ok v xs) (HB : Below base w0 W) (hbase : base ≤ W.heap.size) (hl : (xs.length + 1) * bytes ≤ 140737488355328)
    (h : ∀ v1 w1, d.R e w1 base ok v1 (xs ++ [p]) → Below base w0 w1 → W.grownBy w1 v.ownBlock → (v1.ownBlock = v.ownBlock ∨ ∃ b, v1.ownBlock = some b ∧ W.heap.size ≤ b) → Kc (a.put o.dst v1) w1) :
    if Region.wanted o (yielded ops a.tmps) = true then Oper.wp P o a (W.alloc (.cells cs.toArray e)) Kc Q else E := by
  have hw : Region.wanted o (yielded ops a.tmps) = true := by simp [Region.wanted, hg]
  have q := Kd.R_append_step (Q := Q) d base hw s x t e z bytes ho ht hinfo hz hs0 hb0 v xs p cs ok okp hs hx hp hokp hfresh HO HB hbase hl h
  rw [if_pos hw] at q ⊢
  exact q
end
theorem R_sl {α : Type} {d : Kd α} {e : Nat} {w : World} {base : Nat} {ok : Nat → Prop} {v : Value} {xs : List α} (h : d.R e w base ok v xs) : ∃ A n c, v = .slice A n c := by
  obtain ⟨A, c, h⟩ := Kd.R_slice h
  exact ⟨A, _, c, h⟩
/-- The keys collected so far. -/
def Coll (M : PM) (left : List UInt8 → Bool) (ks : List (List UInt8)) : Prop := ks.Nodup ∧ ∀ k, k ∈ ks ↔ (left k = false ∧ (M k).getD 0 ≠ 0)
theorem Coll.start (M : PM) : Coll M (fun k => (M k).isSome) [] := ⟨List.nodup_nil, fun k => by cases h : M k <;> simp [h]⟩
theorem Coll.skip {M : PM} {left : List UInt8 → Bool} {ks : List (List UInt8)} (h : Coll M left ks) {s : List UInt8} (hs : M s = some 0) : Coll M (fun k => left k && !decide (k = s)) ks := by
  refine ⟨h.1, fun k => ?_⟩
  rw [h.2]
  by_cases e : k = s
  · subst e; simp [hs]
  · simp [e]
theorem Coll.add {M : PM} {left : List UInt8 → Bool} {ks : List (List UInt8)} (h : Coll M left ks) {s : List UInt8} {c : Int} (hs : M s = some c) (hc : c ≠ 0) (hl : left s = true) : Coll M (fun k => left k && !decide (k = s)) (ks ++ [s]) := by
  refine ⟨List.nodup_append.2 ⟨h.1, List.nodup_cons.2 ⟨by simp, List.nodup_nil⟩, fun a ha b hb e => ?_⟩, fun k => ?_⟩
  · have h1 := ((h.2 a).1 ha).1
    rw [e, List.mem_singleton.1 hb, hl] at h1
    cases h1
  · rw [List.mem_append, h.2]
    by_cases e : k = s
    · subst e; simp [hs, hc]
    · simp [e]
theorem Coll.perm {v : Nat} {M : PM} {T : Tm} {left : List UInt8 → Bool} {ks : List (List UInt8)} (h : Coll M left ks) (hR : Rep v M T) (hl : ∀ k, left k = false) : ks.mergeSort leB = (nzKeys T).mergeSort leB := by
  refine mergeSort_of_perm ?_
  refine (List.perm_ext_iff_of_nodup h.1 (nzKeys_nodup T)).2 fun k => ?_
  rw [h.2, mem_nzKeys, hR.2]
  simp [hl]
theorem Coll.len {v : Nat} {M : PM} {T : Tm} {left : List UInt8 → Bool} {ks : List (List UInt8)} (h : Coll M left ks) (hR : Rep v M T) : ∀ k ∈ ks.mergeSort leB, k.length = v ∧ (M k).getD 0 = tsum T k % 18446744073709551616 := by
  intro k hk
  have := (h.2 k).1 ((List.mergeSort_perm _ _).mem_iff.1 hk)
  refine ⟨hR.1 k ?_, hR.2 k⟩
  revert this
  cases M k <;> simp
theorem nz_invalid (p : Pat) (vars : Int) (A : Option Addr) (c : Nat) (w : World) (hr : Kd.C kPat w A p.kids.length p.kids) (hcl : p.kids.length ≤ c) (hpv : patValid p vars 0 = false) :
    Calls Try.prog 15 #[.agg #[.int .i64 p.var, .int .i64 p.op, .int .i64 p.imm, .int .i64 p.immVar, .slice A p.kids.length c], .int .i64 vars] w (MonosRes w none) := by
  have hW := fun ob => (Below.refl w.heap.size w).alloc (Nat.le_refl _) ob
  have hc := patValid_calls p vars 0 A c
  rw [hpv] at hc
  go_enter Try.func15, Try.ntmps15
  go_wp2_with fail
  refine (hc _ (Kd.C_below hr (hW _)) hcl).mono ?_
  rintro e w1 ⟨rfl, hb⟩
  go_wp2
  go_ret2
  exact ⟨below_then (hW _) (by simp) hb, rfl⟩
theorem patValid_size {p : Pat} {vars : Int} (hs : wrap64 p.size = p.size) (h : patValid p vars 0 = true) : 0 ≤ vars ∧ vars ≤ 6 ∧ p.size ≤ 24 ∧ shape vars.toNat p := by
  unfold patValid at h
  by_cases e : vars < 0 ∨ vars > 6 ∨ (0 : Int) < 0 ∨ (0 : Int) > 6 ∨ wrap64' p.size > 24
  · rw [if_pos e] at h; cases h
  · rw [if_neg e] at h
    have := valid_shape _ _ _ _ h
    rw [List.length_replicate] at this
    rw [← wrap64'_eq] at hs
    exact ⟨by omega, by omega, by omega, this⟩
set_option maxHeartbeats 4000000 in
set_option maxRecDepth 100000 in
theorem Normalize_calls (p : Pat) (vars : Int) (A : Option Addr) (c : Nat) (w : World) (hr : Kd.C kPat w A p.kids.length p.kids) (hcl : p.kids.length ≤ c) (hsz : wrap64 p.size = p.size) :
    Calls Try.prog 15 #[.agg #[.int .i64 p.var, .int .i64 p.op, .int .i64 p.imm, .int .i64 p.immVar, .slice A p.kids.length c], .int .i64 vars] w (MonosRes w (polyNorm p vars)) := by
  by_cases hpv : patValid p vars 0 = true
  rotate_left
  · unfold polyNorm
    rw [if_neg hpv]
    exact nz_invalid p vars A c w hr hcl (by simpa using hpv)
  have hW := fun ob => (Below.refl w.heap.size w).alloc (Nat.le_refl _) ob
  obtain ⟨hv0, hv6, hz, hsh⟩ := patValid_size hsz hpv
  have hc := patValid_calls p vars 0 A c
  rw [hpv] at hc
  obtain ⟨v, rfl⟩ : ∃ v : Nat, vars = v := ⟨vars.toNat, by omega⟩
  rw [Int.toNat_natCast] at hsh
  have hn := fun W h => normalize_calls v (by omega) p hsh hz A c W h hcl
  have E : Hid (polyNorm p v = (pterms v p).map normOut) := Lib.hid (by unfold polyNorm; rw [if_pos hpv, Int.toNat_natCast])
  have hzt : Hid (2 ^ p.size.toNat ≤ 2 ^ 24) := Lib.hid (Nat.pow_le_pow_right (by decide) (by omega))
  clear hpv hsz hsh hz
  go_enter Try.func15, Try.ntmps15
  go_wp2_with fail
  refine (hc _ (Kd.C_below hr (hW _)) hcl).mono ?_
  rintro e w1 ⟨rfl, hb⟩
  have hB1 := below_then (hW _) (by simp) hb
  have hbk : w1.heap[w.heap.size]? = some (.cells #[.int .i64 p.var, .int .i64 p.op, .int .i64 p.imm, .int .i64 p.immVar, .slice A p.kids.length c] 24 (0, 0)) := blk_below (blk_new w _) hb
  have b0 := (blk_cell hbk 0).trans rfl
  have b1 := (blk_cell hbk 1).trans rfl
  have b2 := (blk_cell hbk 2).trans rfl
  have b3 := (blk_cell hbk 3).trans rfl
  have b4 := (blk_cell hbk 4).trans rfl
  rcases hT : pterms v p with _ | T
  · rw [hT] at hn
    rw [hT] at E
    go_wp2_with fail
    refine (hn _ (Kd.C_below hr hB1)).mono ?_
    rintro e w2 ⟨rfl, hb2⟩
    go_wp2
    go_ret2
    rw [E.out]
    exact ⟨below_then hB1 hB1.size hb2, rfl⟩
  rw [hT] at hn E
  clear hT
  go_wp2_with fail
  refine (hn _ (Kd.C_below hr hB1)).mono ?_
  rintro e w2 ⟨b, M, rfl, hwb, hP, hR, hb2⟩
  have hB2 := below_then hB1 hB1.size hb2
  have hwb' : w.heap.size ≤ b := Nat.le_trans hB1.size hwb
  clear hn hc hbk b0 b1 b2 b3 b4 hr hB1 hb
  obtain ⟨n, hn⟩ : ∃ n, n = 2 ^ p.size.toNat := ⟨_, rfl⟩
  rw [← hn] at hP hzt
  clear hn
  go_wp2_with (first
    | (at_range; refine poly_range _ rfl _ rfl b n M hP rfl w2.heap.size rfl ?_; intro w3 cnt hrg0 hcn hb3)
    | go_in)
  go_frame
  have hB3 := below_then hB2 hB2.size hb3
  obtain ⟨r, hrr⟩ : ∃ r, r = w2.heap.size := ⟨_, rfl⟩
  rw [← hrr] at hrg0
  have hr3 : r < w3.heap.size := hrg0.lt
  have hbr : b < r := by rw [hrr]; exact hP.lt
  have hwr : w.heap.size ≤ r := by omega
  replace hrr := Lib.hid hrr.symm
  have hrr' := hrr.out
  rw [hrr']
  clear hrr'
  go_loopw [8] (fun v8 wr => ∃ (left : List UInt8 → Bool) (cnt : Nat) (ks : List (List UInt8)), PolyRange wr b r n M left cnt ∧ wr.ownsRow (r + 1) 9 1 v8 (ks.map encStr).length (ks.map encStr) ∧ ks.length + cnt ≤ n ∧ Coll M left ks ∧ Below w.heap.size w wr)
    (fun _ wr => wr.rangeLeft b r)
  case atStart => exact ⟨_, cnt, [], hrg0, own_nil _ _ _ _, by simpa using hcn, Coll.start M, hB3⟩
  case round =>
    obtain ⟨left, cnt, ks, hrg, hown, hkn, hcoll, hBr⟩ := hrel
    have hsr := hBr.size
    have hrlt := hrg.lt
    go_wp2_with (first
      | (at_next; refine poly_next _ rfl _ rfl b r n M left cnt hrg rfl ?_ ?_)
      | go_in)
    · intro _ hl0
      have hkl2 : ks.length < 4611686018427387904 := by have := hzt.out; omega
      have hPw := hrg.owns
      have hperm := Lib.hid (hcoll.perm hR hl0)
      have hlens := Lib.hid (hcoll.len hR)
      have hkl := Lib.hid (List.length_mergeSort (le := leB) ks)
      rw [List.length_map] at hown
      clear hcoll hrg
      go_wp2_with fail
      refine (sortStrings_calls (r + 1) _ ks _ hown hkl2).mono ?_
      rintro e w5 ⟨rfl, hown5, hg5⟩
      have hgb : ∀ k, u8.ownBlock = some k → r + 1 ≤ k := own_base hown
      have hB5 := hBr.grown hg5 hsr (fun k hk => by have := hgb k hk; omega)
      have hP5 := hPw.kept hg5 (fun e => by have := hgb b e.symm; omega)
      obtain ⟨S, hS⟩ : ∃ S, S = ks.mergeSort leB := ⟨_, rfl⟩
      rw [← hS] at hown5 hperm hlens hkl
      rw [← hkl.out] at hown5
      have hSl : S.length < 4611686018427387904 := by have := hkl.out; omega
      have hSn : S.length ≤ 2 ^ 24 := by have := hkl.out; have := hzt.out; omega
      rw [← List.length_map (f := encStr)] at hown5
      obtain ⟨A5, c5, hu8, hrd⟩ := own_reads hown5
      rw [List.length_map] at hu8
      subst hu8
      clear hown hg5 hS hPw hBr hsr hrlt hkl hkl2 hown5
      go_wp2
      go_loopw [45, 11] (fun v45 v11 wr => ∃ (i : Nat), i ≤ S.length ∧ v45 = .int .i64 i ∧ kMono.R 32 wr w5.heap.size (fun k => w5.heap.size ≤ k) v11 ((S.take i).map (monoAt T)) ∧ Below w5.heap.size w5 wr)
        (fun v45 _ _ => S.length - (intOf v45).toNat)
      case atStart => exact ⟨0, Nat.zero_le _, rfl, Kd.R_nil _ _ _ _ _, Below.refl _ _⟩
      case round =>
        obtain ⟨i, hi, rfl, hrow, hBi⟩ := hrel
        by_cases hlt : i < S.length
        · obtain ⟨l, hl⟩ : ∃ l, S[i]? = some l := ⟨_, List.getElem?_eq_getElem hlt⟩
          obtain ⟨hlv, hlc⟩ := hlens.out l (List.mem_of_getElem? hl)
          obtain ⟨ad, rfl, _, _, had⟩ := hrd i (encStr l) (by rw [List.getElem?_map, hl]; try rfl)
          replace had := pw_cell_below hBi had
          have hPi := hP5.below hBi
          obtain ⟨s, hs⟩ : ∃ s : ByteArray, s = ⟨⟨l⟩⟩ := ⟨_, rfl⟩
          have hsd : s.data.toList = l := by rw [hs]
          have hss : s.size = v := by rw [hs]; exact hlv
          have hsm : s.size ≤ maxLen := by rw [hss]; unfold maxLen; omega
          have hes : encStr l = .string s := by rw [hs]
          rw [hes] at had
          have hsd' := Lib.hid hsd
          rw [← hsd] at hlc
          have hl' := Lib.hid hl
          have hel : Hid ((expsOf l).length = v) := Lib.hid (by unfold expsOf; rw [List.length_map]; exact hlv)
          clear hs hes hlv hl hsd
          obtain ⟨g, hg⟩ : ∃ g, g = wr.heap.size := ⟨_, rfl⟩
          replace hrow : kMono.R 32 wr w5.heap.size (fun k => w5.heap.size ≤ k ∧ k < g) u11 ((S.take i).map (monoAt T)) := by
            rw [hg]; exact Kd.R_mono (Kd.R_bound hrow) (fun k hk => ⟨hk.1, hk.2.2.1⟩)
          have hwg : w5.heap.size ≤ g := by rw [hg]; exact hBi.size
          have hnew := fun ob => blk_new wr ob
          rw [← hg] at hnew
          have hWg := fun ob => (Below.refl wr.heap.size wr).alloc (Nat.le_refl _) ob
          rw [← hg] at hWg
          replace hg := Lib.hid hg
          replace hlc := Lib.hid hlc
          go_wp2_with (first
            | (at_lookup; refine poly_lookup _ rfl _ _ rfl b n M hPi rfl s hsm rfl ?_)
            | go_in)
          obtain ⟨val, hval⟩ : ∃ val, val = (M s.data.toList).getD 0 := ⟨_, rfl⟩
          rw [← hval, ← hg.out]
          replace hval := Lib.hid hval
          obtain ⟨wo, rfl⟩ : ∃ wo : World, wo = wr := ⟨_, rfl⟩
          go_loopw [15] (fun v15 wi => ∃ (k : Nat) (vx : Value), k ≤ v ∧ v15 = .int .i64 k ∧ wi.heap[g]? = some (.cells #[vx, .int .u64 val] 32 (0, 0)) ∧ (Kd.int .i64).R 3 wi (g + 1) (fun k => g + 1 ≤ k) vx ((expsOf l).take k) ∧ Below g wo wi)
            (fun v15 _ => v - (intOf v15).toNat)
          case atStart => exact ⟨0, _, Nat.zero_le _, rfl, hnew _, Kd.R_nil _ _ _ _ _, hWg _⟩
          case round =>
            obtain ⟨k, vx, hk, rfl, hbox, hrx, hBx⟩ := hrel
            by_cases hlt2 : k < v
            · have hk1 : k < s.size := by omega
              have c0 := (blk_cell hbox 0).trans rfl
              have c1 := (blk_cell hbox 1).trans rfl
              have hf := blk_frozen hbox 0
              have hglt := blk_lt hbox
              have hgs : g + 1 ≤ wr.drew.heap.size := hglt
              have hfr : ∀ k, wr.drew.heap.size ≤ k → g + 1 ≤ k := fun k hk => Nat.le_trans hgs hk
              have hle : (((expsOf l).take k).length + 1) * 8 ≤ 140737488355328 := by have := List.length_take_le k (expsOf l); omega
              have hbx : ∀ w2 : World, wr.drew.grownBy w2 vx.ownBlock → w2.heap[g]? = some (.cells #[vx, .int .u64 val] 32 (0, 0)) := fun w2 h => (h.block g hglt (fun e => by have := Kd.R_base hrx g e.symm; omega)).trans hbox
              have hst : ∀ (w2 : World), wr.drew.grownBy w2 vx.ownBlock → ∀ v1 : Value, (w2.setCell ⟨g, 0, none⟩ v1).heap[g]? = some (.cells #[v1, .int .u64 val] 32 (0, 0)) := fun w2 h v1 => by
                rw [blk_set (hbx w2 h) 0 v1]; rfl
              have hex : (P : List Int → Prop) → P ((expsOf l).take k ++ [IntKind.i64.wrap (s[k].toNat : Int)]) → P ((expsOf l).take (k + 1)) := by
                intro P h
                have e : (expsOf l)[k]? = some (IntKind.i64.wrap (s[k].toNat : Int)) := by
                  have e2 : (expsOf l)[k]? = some (s[k].toNat : Int) := by
                    unfold expsOf
                    rw [List.getElem?_map, ← hsd'.out, List.getElem?_eq_getElem (show k < s.data.toList.length from by rw [Array.length_toList]; exact hk1)]
                    rfl
                  rw [e2]
                  have hb := s[k].toNat_lt
                  generalize s[k].toNat = m at hb ⊢
                  congr 1
                  symm
                  rw [IntKind.wrap_i64]
                  omega
                rw [take_succ_of e]; exact h
              have hBg : ∀ w2 : World, Below (g + 1) wr.drew w2 → Below g wo w2 := fun w2 h => (below_drew hBx).trans (h.mono (Nat.le_succ g))
              go_wp2
              go_region_law (refine law_append (Kd.int .i64) (w0 := wr.drew) (W := wr.drew) (g + 1) rfl (.tmp 59) (.tmp 64) 29 3 (.int .i64 0) 8 rfl Try.underlying29 infoInt' rfl (by decide) (by decide) vx ((expsOf l).take k) (IntKind.i64.wrap (s[k].toNat : Int)) [.int .i64 (IntKind.i64.wrap (s[k].toNat : Int))] (fun k => g + 1 ≤ k) (fun _ => False) rfl rfl rfl (fun _ h => h.elim) hfr (Kd.R_drew hrx) (Below.refl _ _) hgs hle ?_; intro v1 w2 hr2 hb2 hg2 _; obtain ⟨A1, n1, cp1, rfl⟩ := R_sl hr2; have hbox2 := hbx _ hg2; have c02 := (blk_cell hbox2 0).trans rfl; have hf2 := blk_frozen hbox2 0)
              all_goals go_wp2
              all_goals go_roundw
              all_goals first | (case measure => simp [intOf]; omega) | skip
              all_goals (case rel => exact ⟨k + 1, _, by omega, by go_num, hst w2 hg2 _, hex _ (Kd.R_far hr2 (p := ⟨g, 0, none⟩) (fun k hk e => by simp at e; omega) _), (hBg w2 hb2).setCell (p := ⟨g, 0, none⟩) (Nat.le_refl _) _⟩)
            · obtain rfl : k = v := by omega
              have c0 := (blk_cell hbox 0).trans rfl
              have c1 := (blk_cell hbox 1).trans rfl
              have hrow2 := Kd.R_step (w1 := wr) hrow (fun k hk _ => hBx.block k hk.2)
              have hBi2 := hBi.trans (hBx.mono hwg)
              have hgs : g + 1 ≤ wr.heap.size := blk_lt hbox
              have hlt3 : ∀ k, u11.ownBlock = some k → k < g := fun k hk => (hrow2.1 k hk).2
              have hpm := kMono_mkM wr w5.heap.size (fun k => g + 1 ≤ k) (monoAt T l) (v0 := vx) (by
                have hx := hrx
                rw [List.take_of_length_le (by rw [hel.out]; exact Nat.le_refl _)] at hx
                exact Kd.R_lower hx (by omega))
              have hrow3 := Kd.R_mono hrow2 (ok' := fun k => w5.heap.size ≤ k) (fun k hk => hk.1)
              have hle : (((S.take i).map (monoAt T)).length + 1) * 32 ≤ 140737488355328 := by rw [List.length_map]; have := List.length_take_le i S; omega
              have hokp : ∀ k, g + 1 ≤ k → w5.heap.size ≤ k ∧ some k ≠ u11.ownBlock := fun k hk => ⟨by omega, fun e => by have := hlt3 k e.symm; omega⟩
              have hfr : ∀ k, wr.heap.size ≤ k → w5.heap.size ≤ k := fun k hk => by omega
              have hval' : (monoAt T l).coef = val := by rw [hval.out, hlc.out, hsd'.out]; rfl
              rw [hval'] at hpm
              go_wp2_with (first
                | (at_builtin; (refine Kd.R_append kMono (w0 := w5) w5.heap.size rfl _ _ 25 32 (.agg #[.slice none 0 0, .int .u64 0]) 32 rfl Try.underlying25 infoMono rfl (by decide) (by decide) u11 _ (monoAt T l) [vx, .int .u64 val] (fun k => w5.heap.size ≤ k) (fun k => g + 1 ≤ k) rfl rfl hpm hokp hfr hrow3 hBi2 hBi2.size hle ?_); intro v1 w6 hr6 hb6 hg6 _)
                | go_in)
              refine ⟨⟨i + 1, by omega, by go_num, ?_, hb6⟩, by simp [intOf]; omega⟩
              rw [take_succ_of hl'.out, List.map_append]
              exact hr6
        · obtain rfl : i = S.length := by omega
          clear hlt
          rw [List.take_length] at hrow
          go_wp2
          go_ret2
          rw [E.out]
          refine ⟨below_then hB5 hB5.size hBi, _, rfl, ?_⟩
          unfold normOut
          rw [← hperm.out]
          exact Kd.R_mono (Kd.R_lower hrow hB5.size) (fun _ _ => trivial)
    · intro s c1 w4 cnt1 hsz hwc hls hMs hrg1 hlt hg1 hs1 hen
      have hB4 : Below w.heap.size w w4 := hBr.grown hg1 hsr (fun k hk => by cases hk; omega)
      have hown1 := own_kept hown hg1 (fun k hk => by cases hk; omega)
      have hmu : w4.rangeLeft b r < wr.rangeLeft b r := by rw [hrg1.left_eq, hrg.left_eq]; exact hlt
      have hsr4 : r + 1 ≤ w4.heap.size := by omega
      clear hs1 hsr hrlt
      by_cases hc0 : c1 = 0
      · subst hc0
        go_wp2
        exact ⟨⟨_, cnt1, ks, hrg1, hown1, by omega, hcoll.skip hMs, hB4⟩, hmu⟩
      · have ec : (c1 != 0) = true := by simpa using hc0
        have hkl : ((ks.map encStr).length + 1) * 16 ≤ 140737488355328 := by have := hzt.out; rw [List.length_map]; omega
        go_wp2_with (first
          | (at_builtin; (refine print_append (w0 := w4) (r + 1) rfl _ _ 81 9 (.string ByteArray.empty) 16 rfl Try.underlying81 infoStr rfl (by decide) u8 (ks.map encStr) (.string s) rfl rfl rfl hown1 (Below.refl _ _) hsr4 hkl ?_); intro v1 w5 hown2 hb5 hg5 _)
          | go_in)
        have hgb : ∀ k, u8.ownBlock = some k → r + 1 ≤ k := own_base hown1
        refine ⟨⟨_, cnt1, ks ++ [s.data.toList], hrg1.kept hg5 (fun e => by have := hgb b e.symm; omega) (fun e => by have := hgb r e.symm; omega), ?_, by simp; omega, hcoll.add hMs hc0 hls, hB4.grown hg5 (by omega) (fun k hk => by have := hgb k hk; omega)⟩, ?_⟩
        · have e : (ks ++ [s.data.toList]).map encStr = ks.map encStr ++ [.string s] := by rw [List.map_append]; rfl
          rw [e]; exact hown2
        · rw [(hrg1.kept hg5 (fun e => by have := hgb b e.symm; omega) (fun e => by have := hgb r e.symm; omega)).left_eq, hrg.left_eq]; exact hlt
end Go.Proofs.Ytmdahjmkfipdfaa
