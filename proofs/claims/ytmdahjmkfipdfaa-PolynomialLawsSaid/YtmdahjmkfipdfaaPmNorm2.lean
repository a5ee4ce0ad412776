/- walk: polynomial.normalize, the operations with a loop over the operands -/
import Derived.Test.YtmdahjmkfipdfaaPmShl
import Derived.Sort.KeysCollected
namespace Go.Proofs.Ytmdahjmkfipdfaa
set_option linter.unusedVariables false
set_option linter.unusedSimpArgs false
open Go.RowKit Go.Proofs.YtmdahjmkfipdfaaW.PrintWords Go.Proofs.YtmdahjmkfipdfaaW.PrintLast Go.Proofs.YtmdahjmkfipdfaaW.PrintMore
/-- The maps of the operands so far. -/
def Polys (v : Nat) (w : World) : List Pat → List Nat → List Tm → Prop
  | [], [], [] => True
  | p :: ps, b :: bs, T :: Ts => (∃ M, PolyAt w b (2 ^ p.size.toNat) M ∧ Rep v M T) ∧ Polys v w ps bs Ts
  | _, _, _ => False
theorem Polys.move {v : Nat} {w w' : World} : ∀ {ps : List Pat} {bs : List Nat} {Ts : List Tm}, Polys v w ps bs Ts → (∀ b n M, PolyAt w b n M → PolyAt w' b n M) → Polys v w' ps bs Ts
  | [], [], [], _, _ => trivial
  | p :: ps, b :: bs, T :: Ts, h, hm => by
    obtain ⟨⟨M, h1, h2⟩, h3⟩ := h
    exact ⟨⟨M, hm _ _ _ h1, h2⟩, Polys.move h3 hm⟩
  | [], [], _ :: _, h, _ => h.elim
  | [], _ :: _, _, h, _ => h.elim
  | _ :: _, [], _, h, _ => h.elim
  | _ :: _, _ :: _, [], h, _ => h.elim
theorem Polys.snoc {v : Nat} {w : World} {p : Pat} {b : Nat} {T : Tm} {M : PM} (h1 : PolyAt w b (2 ^ p.size.toNat) M) (h2 : Rep v M T) : ∀ {ps : List Pat} {bs : List Nat} {Ts : List Tm}, Polys v w ps bs Ts → Polys v w (ps ++ [p]) (bs ++ [b]) (Ts ++ [T])
  | [], [], [], _ => ⟨⟨M, h1, h2⟩, trivial⟩
  | q :: ps, c :: bs, U :: Ts, h => ⟨h.1, Polys.snoc h1 h2 h.2⟩
  | [], [], _ :: _, h => h.elim
  | [], _ :: _, _, h => h.elim
  | _ :: _, [], _, h => h.elim
  | _ :: _, _ :: _, [], h => h.elim
theorem ptermss_snoc {v : Nat} : ∀ {ps : List Pat} {Ts : List Tm} {q : Pat} {T : Tm}, ptermss v ps = some Ts → pterms v q = some T → ptermss v (ps ++ [q]) = some (Ts ++ [T])
  | [], Ts, q, T, h, hq => by
    rw [ptermss] at h
    injection h with h
    subst h
    simp [ptermss, hq]
  | p :: ps, Ts, q, T, h, hq => by
    rw [ptermss] at h
    rcases hp : pterms v p with _ | t
    · rw [hp] at h; cases h
    · rw [hp] at h
      rcases hs : ptermss v ps with _ | ts
      · rw [hs] at h; cases h
      · rw [hs] at h
        have h : t :: ts = Ts := by simpa using h
        subst h
        rw [List.cons_append, ptermss, hp, ptermss_snoc hs hq]
        rfl
theorem ptermss_none {v : Nat} : ∀ {ps : List Pat} {k : Nat} {q : Pat}, ps[k]? = some q → pterms v q = none → ptermss v ps = none
  | [], _, _, h, _ => by simp at h
  | p :: ps, 0, q, h, hq => by
    simp at h
    subst h
    rw [ptermss, hq]; rfl
  | p :: ps, k + 1, q, h, hq => by
    rw [ptermss, ptermss_none (by simpa using h) hq]
    cases pterms v p <;> rfl
theorem infoPoly : (Try.prog.info? 78).map (fun i => (i.zero, i.size, i.bytes)) = some (some (.map none), 1, 8) := by kernel_rfl
theorem poly_not_row {w : World} {b n : Nat} {M : PM} (h : PolyAt w b n M) {v : Value} {base e s k : Nat} {xs : List Value} (ho : w.ownsRow base e s v k xs) : some b ≠ v.ownBlock := by
  intro he
  obtain ⟨cells, hc⟩ := own_typed ho b he.symm
  obtain ⟨D, ⟨es, clock, hb, _⟩, _⟩ := h
  rw [hb] at hc
  cases hc
def maps (bs : List Nat) : List Value := bs.map fun b => Value.map (some b)
theorem two_maps {v : Nat} {w : World} {base : Nat} {u : Value} {p0 p1 : Pat} {bs : List Nat} {Ts : List Tm} (h : Polys v w [p0, p1] bs Ts) (ho : w.ownsRow base 78 1 u (maps bs).length (maps bs)) :
    ∃ b0 b1 T0 T1 M0 M1 g cap, bs = [b0, b1] ∧ Ts = [T0, T1] ∧ PolyAt w b0 (2 ^ p0.size.toNat) M0 ∧ Rep v M0 T0 ∧ PolyAt w b1 (2 ^ p1.size.toNat) M1 ∧ Rep v M1 T1 ∧ u = .slice (some ⟨g, 0, none⟩) 2 cap ∧ g < w.heap.size ∧
      w.cell? ⟨g, 0, none⟩ = some (.map (some b0)) ∧ w.cell? ⟨g, 1, none⟩ = some (.map (some b1)) := by
  match bs, Ts, h with
  | [b0, b1], [T0, T1], h =>
    obtain ⟨⟨M0, hP0, hR0⟩, ⟨M1, hP1, hR1⟩, _⟩ := h
    obtain ⟨g, cap, hu, hgb, hgl⟩ := ho.form (by simp [maps])
    have hb : u.ownBlock = some g := by rw [hu]; rfl
    exact ⟨b0, b1, T0, T1, M0, M1, g, cap, rfl, rfl, hP0, hR0, hP1, hR1, hu, hgl, ho.cells hb 0 _ rfl, ho.cells hb 1 _ rfl⟩
  | [], _, h => exact h.elim
  | [_], _ :: _, h => exact h.2.elim
  | [_], [], h => exact h.elim
  | _ :: _ :: _, [], h => exact h.elim
  | _ :: _ :: _, [_], h => exact h.2.elim
  | _ :: _ :: _ :: _, _ :: _ :: _, h => exact h.2.2.elim
  | [_, _], _ :: _ :: _ :: _, h => exact h.2.2.elim
theorem one_map {v : Nat} {w : World} {base : Nat} {u : Value} {p0 : Pat} {bs : List Nat} {Ts : List Tm} (h : Polys v w [p0] bs Ts) (ho : w.ownsRow base 78 1 u (maps bs).length (maps bs)) :
    ∃ b0 T0 M0 g cap, bs = [b0] ∧ Ts = [T0] ∧ PolyAt w b0 (2 ^ p0.size.toNat) M0 ∧ Rep v M0 T0 ∧ u = .slice (some ⟨g, 0, none⟩) 1 cap ∧ g < w.heap.size ∧ w.cell? ⟨g, 0, none⟩ = some (.map (some b0)) := by
  match bs, Ts, h with
  | [b0], [T0], h =>
    obtain ⟨⟨M0, hP0, hR0⟩, _⟩ := h
    obtain ⟨g, cap, hu, hgb, hgl⟩ := ho.form (by simp [maps])
    have hb : u.ownBlock = some g := by rw [hu]; rfl
    exact ⟨b0, T0, M0, g, cap, rfl, rfl, hP0, hR0, hu, hgl, ho.cells hb 0 _ rfl⟩
  | [], _, h => exact h.elim
  | _ :: _, [], h => exact h.elim
  | _ :: _ :: _, _ :: _, h => exact h.2.elim
  | [_], _ :: _ :: _, h => exact h.2.elim
theorem keep_of_grown {w w' : World} {S : Nat} (h : w.grownBy w' (some S)) : KeepBut w w' S none := ⟨h.size, fun i hi hne _ => h.block i hi (fun e => hne (by injection e))⟩
theorem two_mul {a b : Int} (h : a + b ≤ 24) (ha : 1 ≤ a) (hb : 1 ≤ b) : 2 ^ a.toNat * 2 ^ b.toNat < maxLen := by
  rw [← Nat.pow_add]
  have h2 : 2 ^ (a.toNat + b.toNat) ≤ 2 ^ 24 := Nat.pow_le_pow_right (by decide) (by omega)
  unfold maxLen
  omega
theorem two_mul_le (p q : Pat) : 2 ^ p.size.toNat * 2 ^ q.size.toNat ≤ 2 ^ (1 + Pat.sizes [p, q]).toNat := by
  rw [← Nat.pow_add]
  have h1 := size_pos p
  have h2 := size_pos q
  exact Nat.pow_le_pow_right (by decide) (by simp [Pat.sizes]; omega)
theorem not_le (p : Pat) : 0 + 1 + 2 ^ p.size.toNat ≤ 2 ^ (1 + Pat.sizes [p]).toNat := by
  have h1 := size_pos p
  have : (1 + Pat.sizes [p]).toNat = 1 + p.size.toNat := by simp [Pat.sizes]; omega
  rw [this, Nat.pow_add]
  have := Nat.one_le_two_pow (n := p.size.toNat)
  omega
/-- A map's entries can be listed. -/
theorem PolyAt.terms {w : World} {b n : Nat} {M : PM} (h : PolyAt w b n M) : ∃ T, Terms M T := by
  obtain ⟨D, hD, hS⟩ := h
  obtain ⟨es, rfl, hp, hk⟩ := hD.canon strKey
  have hs : ∀ p ∈ es, ∃ k, p.1 = Lit.string k := by
    obtain ⟨es', e', hk'⟩ := hD.keysOf
    injection e' with e'
    subst e'
    intro p hp
    obtain ⟨key, hkey⟩ := hk' p hp
    obtain ⟨x, _, hx, _⟩ := Maps.keyOf_str Try.underlying9 hkey
    exact ⟨x, hx⟩
  have hne := Maps.apart_of_rising hp
  have hmem : ∀ k, k ∈ es.map (fun p => strOf p.1) ↔ (M k).isSome = true := by
    intro k
    rw [← hS.has k, Maps.has_eq, List.any_eq_true, List.mem_map]
    constructor
    · rintro ⟨p, hp', rfl⟩
      obtain ⟨a, ha⟩ := hs p hp'
      exact ⟨p, hp', by rw [ha]; simp [Lit.sameKey, strOf]⟩
    · rintro ⟨p, hp', hk'⟩
      obtain ⟨a, ha⟩ := hs p hp'
      rw [ha] at hk'
      exact ⟨p, hp', by rw [ha]; simpa [Lit.sameKey, strOf] using hk'⟩
  refine ⟨(es.map (fun p => strOf p.1)).map (fun k => (k, (M k).getD 0)), ?_, fun k c => ?_⟩
  · rw [List.map_map]
    have : ((fun x : List UInt8 × Int => x.1) ∘ fun k => (k, (M k).getD 0)) = id := rfl
    rw [this, List.map_id]
    refine List.pairwise_map.2 (hne.imp_of_mem fun {p q} hp' hq' hne e => hne ?_)
    obtain ⟨a, ha⟩ := hs p hp'
    obtain ⟨b, hb⟩ := hs q hq'
    rw [ha, hb] at e ⊢
    exact congrArg _ e
  · rw [List.mem_map]
    constructor
    · rintro ⟨k', hk', e⟩
      obtain ⟨rfl, rfl⟩ := Prod.mk.inj e
      have := (hmem k').1 hk'
      revert this
      cases M k' with
      | none => intro h; cases h
      | some c => intro _; rfl
    · intro hM
      exact ⟨k, (hmem k).2 (by rw [hM]; rfl), by rw [hM]; rfl⟩
theorem scale_one (T : Tm) : scaleT 1 T = T := by simp [scaleT]
theorem two_pow_add (a b : Nat) : 2 ^ a + 2 ^ b ≤ 2 ^ (1 + a + b) := by
  have h1 : 2 ^ a ≤ 2 ^ (a + b) := Nat.pow_le_pow_right (by decide) (by omega)
  have h2 : 2 ^ b ≤ 2 ^ (a + b) := Nat.pow_le_pow_right (by decide) (by omega)
  have h3 : 2 ^ (1 + a + b) = 2 * 2 ^ (a + b) := by rw [Nat.add_assoc, Nat.pow_add]
  omega
theorem two_le (p q : Pat) : 0 + 2 ^ p.size.toNat + 2 ^ q.size.toNat ≤ 2 ^ (1 + Pat.sizes [p, q]).toNat := by
  have h1 := size_pos p
  have h2 := size_pos q
  have : (1 + Pat.sizes [p, q]).toNat = 1 + p.size.toNat + q.size.toNat := by simp [Pat.sizes]; omega
  rw [this, Nat.zero_add]
  exact two_pow_add _ _
theorem two_lt {a b : Int} (h : a + b ≤ 24) (ha : 1 ≤ a) (hb : 1 ≤ b) : 0 + 2 ^ a.toNat + 2 ^ b.toNat < maxLen := by
  have h1 := two_pow_add a.toNat b.toNat
  have h2 : 2 ^ (1 + a.toNat + b.toNat) ≤ 2 ^ 25 := Nat.pow_le_pow_right (by decide) (by omega)
  unfold maxLen
  omega
set_option maxHeartbeats 4000000 in
set_option maxRecDepth 100000 in
theorem normalize_op (v : Nat) (hv : v ≤ 6) (p : Pat) (A : Option Addr) (c : Nat) (w : World) (h0 : p.var = 0) (h1 : p.op ≠ 1) (h2 : p.op ≠ 12) (kids : List Int) (own : Int) (hos : opSorts p.op = some (kids, own)) (hkl : p.kids.length = kids.length)
    (ih : ∀ q ∈ p.kids, NormC v q) (hsz : p.size ≤ 24) (hr : Kd.C kPat w A p.kids.length p.kids) (hcl : p.kids.length ≤ c) :
    Calls Try.prog 38 #[.agg #[.int .i64 p.var, .int .i64 p.op, .int .i64 p.imm, .int .i64 p.immVar, .slice A p.kids.length c], .int .i64 v] w (NormRes v w (2 ^ p.size.toNat) (pterms v p)) := by
  have hk3 := opSorts_kids hos
  obtain ⟨var, op, imm, iv, ks⟩ := p
  simp only at h0 h1 h2 hos hkl ih hr hcl ⊢
  subst h0
  have E : Hid (pterms v ⟨0, op, imm, iv, ks⟩ = (ptermss v ks).bind (opTerms v op)) := Lib.hid (by rw [pterms, if_neg (by omega), if_neg h1, if_neg h2])
  have e1 := beq_no h1
  have e2 := beq_no h2
  have hmm := @run_makeMap Try.prog
  have hmax := Kd.C_max hr
  clear h1 h2
  replace hkl := Lib.hid hkl
  replace hos := Lib.hid hos
  go_enter Try.func38, Try.ntmps38
  go_wp2
  obtain ⟨wb, hwb⟩ : ∃ wb, wb = w.alloc (.cells #[.int .i64 0, .int .i64 op, .int .i64 imm, .int .i64 iv, .slice A ks.length c] 24) := ⟨_, rfl⟩
  have hwb' := Lib.hid hwb
  clear hwb
  have hs0 : wb.heap.size = w.heap.size + 1 := by rw [hwb'.out]; simp
  have hs0' := Lib.hid hs0
  clear hs0
  have hBw : Below w.heap.size w wb := by rw [hwb'.out]; exact (Below.refl _ _).alloc (Nat.le_refl _) _
  have hbk : wb.heap[w.heap.size]? = some (.cells #[.int .i64 0, .int .i64 op, .int .i64 imm, .int .i64 iv, .slice A ks.length c] 24 (0, 0)) := by rw [hwb'.out]; exact blk_new w _
  go_loopw [76, 10] (fun v76 v10 wr => ∃ (k : Nat) (bs : List Nat) (Ts : List Tm), k ≤ ks.length ∧ v76 = .int .i64 k ∧ wr.ownsRow wb.heap.size 78 1 v10 (maps bs).length (maps bs) ∧ Hid (bs.length = k) ∧ Hid (ptermss v (ks.take k) = some Ts) ∧ Polys v wr (ks.take k) bs Ts ∧ Below wb.heap.size wb wr)
    (fun v76 _ _ => ks.length - (intOf v76).toNat)
  case atStart => exact ⟨0, [], [], Nat.zero_le _, rfl, own_nil _ _ _ _, Lib.hid rfl, Lib.hid rfl, trivial, by rw [hwb'.out]; exact Below.refl _ _⟩
  case round =>
    obtain ⟨k, bs, Ts, hk, rfl, hown, hbl, hpt, hPs, hB⟩ := hrel
    have hBr := below_then hBw hBw.size hB
    by_cases hlt : k < ks.length
    · obtain ⟨q, hq⟩ : ∃ q, ks[k]? = some q := ⟨_, List.getElem?_eq_getElem hlt⟩
      obtain ⟨ad, A4, c4, rfl, a0, a1, a2, a3, a4, hl, hC⟩ := atN_Pat hr hq
      replace a0 := pw_cell_below hBr a0
      replace a1 := pw_cell_below hBr a1
      replace a2 := pw_cell_below hBr a2
      replace a3 := pw_cell_below hBr a3
      replace a4 := pw_cell_below hBr a4
      have hq' := Lib.hid hq
      have ihq := fun W h => ih q (List.mem_of_getElem? hq) A4 c4 W h hl
      clear hq
      rcases hpq : pterms v q with _ | T
      · rw [hpq] at ihq
        rw [E.out, ptermss_none hq'.out hpq]
        clear E hpq
        go_wp2_with fail
        refine (ihq _ (Kd.C_alloc (Kd.C_below hC hBr) _)).mono ?_
        rintro e w1 ⟨rfl, hb⟩
        go_wp2
        go_ret2
        exact ⟨rfl, below_then (hBr.alloc hBr.size _) (by simp; have := hBr.size; omega) hb⟩
      · rw [hpq] at ihq
        go_wp2_with fail
        refine (ihq _ (Kd.C_alloc (Kd.C_below hC hBr) _)).mono ?_
        rintro e w1 ⟨bm, M, rfl, hbm, hP, hR, hb⟩
        have hB1 := below_then (hB.alloc hB.size _) (by simp; have := hB.size; omega) hb
        have hown1 := pw_own_below (hown.alloc _) hb
        have hPs1 := hPs.move (fun b n M h => (h.below ((Below.refl _ _).alloc (Nat.le_refl _) _)).below hb)
        have hlen : (maps bs).length ≤ 3 := by simp [maps]; have := hbl.out; have := hkl.out; omega
        go_wp2_with (first
          | (at_builtin; (refine print_append wb.heap.size rfl _ _ 117 78 (.map none) 8 rfl Try.underlying117 infoPoly rfl (by decide) u10 (maps bs) (.map (some bm)) rfl rfl rfl hown1 hB1 hB1.size (by omega) ?_); intro v1 w2 hown2 hB2 hg2 _)
          | go_in)
        refine ⟨⟨k + 1, bs ++ [bm], Ts ++ [T], by omega, by go_num, ?_, Lib.hid (by simp [hbl.out]), Lib.hid ?_, ?_, hB2⟩, by simp [intOf]; omega⟩
        · have em : maps (bs ++ [bm]) = maps bs ++ [Value.map (some bm)] := by simp [maps]
          rw [em]; exact hown2
        · rw [take_succ_of hq'.out]; exact ptermss_snoc hpt.out hpq
        · rw [take_succ_of hq'.out]
          exact (Polys.snoc hP hR hPs1).move (fun b n M h => h.kept hg2 (poly_not_row h hown1))
    · have ek : k = ks.length := by omega
      subst ek
      have hbl' : bs.length = ks.length := hbl.out
      have hb0 := fun j => (blk_cell (blk_below hbk hB) j)
      have b1 := (hb0 1).trans rfl
      have b1' := fun ob => pw_cell_below ((Below.refl wr.heap.size wr).alloc (Nat.le_refl _) ob) b1
      clear hb0 b1
      rw [List.take_length] at hPs hpt
      have E2 : Hid (pterms v ⟨0, op, imm, iv, ks⟩ = opTerms v op Ts) := Lib.hid (by rw [E.out, hpt.out]; rfl)
      have hszs : Hid ((⟨0, op, imm, iv, ks⟩ : Pat).size = 1 + Pat.sizes ks) := Lib.hid (Pat.size_eq _)
      rw [hszs.out] at hsz
      clear E hpt
      have hWr := fun ob => (Below.refl wr.heap.size wr).alloc (Nat.le_refl _) ob
      have hS := PolyAt.made wr
      by_cases o4 : op = 4
      · subst o4
        obtain ⟨rfl, rfl⟩ : kids = [1, 1] ∧ own = 1 := by have h := hos.out; simp [opSorts] at h; exact ⟨h.1.symm, h.2.symm⟩
        obtain ⟨p0, p1, rfl⟩ : ∃ p0 p1, ks = [p0, p1] := by have h := hkl.out; match ks, h with | [a, b], _ => exact ⟨a, b, rfl⟩
        obtain ⟨b0, b1, T0, T1, M0, M1, g, cap, rfl, rfl, hP0, hR0, hP1, hR1, rfl, hgb, c0, c1⟩ := two_maps hPs hown
        have c0' := fun ob => pw_cell_below (hWr ob) c0
        go_wp2_with fail
        refine (add_calls wr.heap.size b0 0 _ (fun _ => none) M0 _ _ hS (hP0.below (hWr _)) (by have := hP0.lt; omega) (by rw [Nat.zero_add]; exact pow24 (by simp [Pat.sizes] at hsz; have := size_pos p1; omega))).mono ?_
        rintro e w1 ⟨rfl, hS1, hg1⟩
        have c1' := keep_cell (keep_of_grown hg1) (pw_cell_below (hWr _) c1) (by simp; omega)
        have hP1' := (hP1.below (hWr (.map #[] 0))).kept hg1 (by have := hP1.lt; simp; omega)
        go_wp2_with fail
        refine (add_calls wr.heap.size b1 _ _ _ M1 _ _ hS1 hP1' (by have := hP1.lt; omega) (two_lt (by simp [Pat.sizes] at hsz; omega) (size_pos _) (size_pos _))).mono ?_
        rintro e w2 ⟨rfl, hS2, hg2⟩
        go_wp2
        go_ret2
        have hR := Rep.add (Rep.add (Rep.empty v) hR0 1) hR1 1
        rw [scale_one, scale_one, List.nil_append] at hR
        rw [E2.out, hszs.out, show opTerms v 4 [T0, T1] = some (T0 ++ T1) from by simp [opTerms]]
        exact ⟨_, _, rfl, hBr.size, hS2.mono (two_le p0 p1), hR, ((hBr.alloc hBr.size _).grown hg1 (by simp; have := hBr.size; omega) (fun k hk => by cases hk; exact hBr.size)).grown hg2 (by have := hBr.size; have := hg1.size; simp at this; omega) (fun k hk => by cases hk; exact hBr.size)⟩
      by_cases o5 : op = 5
      · subst o5
        obtain ⟨rfl, rfl⟩ : kids = [1, 1] ∧ own = 1 := by have h := hos.out; simp [opSorts] at h; exact ⟨h.1.symm, h.2.symm⟩
        obtain ⟨p0, p1, rfl⟩ : ∃ p0 p1, ks = [p0, p1] := by have h := hkl.out; match ks, h with | [a, b], _ => exact ⟨a, b, rfl⟩
        obtain ⟨b0, b1, T0, T1, M0, M1, g, cap, rfl, rfl, hP0, hR0, hP1, hR1, rfl, hgb, c0, c1⟩ := two_maps hPs hown
        have c0' := fun ob => pw_cell_below (hWr ob) c0
        go_wp2_with fail
        refine (add_calls wr.heap.size b0 0 _ (fun _ => none) M0 _ _ hS (hP0.below (hWr _)) (by have := hP0.lt; omega) (by rw [Nat.zero_add]; exact pow24 (by simp [Pat.sizes] at hsz; have := size_pos p1; omega))).mono ?_
        rintro e w1 ⟨rfl, hS1, hg1⟩
        have c1' := keep_cell (keep_of_grown hg1) (pw_cell_below (hWr _) c1) (by simp; omega)
        have hP1' := (hP1.below (hWr (.map #[] 0))).kept hg1 (by have := hP1.lt; simp; omega)
        go_wp2_with fail
        refine (add_calls wr.heap.size b1 _ _ _ M1 _ _ hS1 hP1' (by have := hP1.lt; omega) (two_lt (by simp [Pat.sizes] at hsz; omega) (size_pos _) (size_pos _))).mono ?_
        rintro e w2 ⟨rfl, hS2, hg2⟩
        go_wp2
        go_ret2
        have hR := Rep.add (Rep.add (Rep.empty v) hR0 1) hR1 18446744073709551615
        rw [scale_one, List.nil_append] at hR
        rw [E2.out, hszs.out, show opTerms v 5 [T0, T1] = some (T0 ++ scaleT 18446744073709551615 T1) from by simp [opTerms]]
        exact ⟨_, _, rfl, hBr.size, hS2.mono (two_le p0 p1), hR, ((hBr.alloc hBr.size _).grown hg1 (by simp; have := hBr.size; omega) (fun k hk => by cases hk; exact hBr.size)).grown hg2 (by have := hBr.size; have := hg1.size; simp at this; omega) (fun k hk => by cases hk; exact hBr.size)⟩
      by_cases o6 : op = 6
      · subst o6
        obtain ⟨rfl, rfl⟩ : kids = [1, 1] ∧ own = 1 := by have h := hos.out; simp [opSorts] at h; exact ⟨h.1.symm, h.2.symm⟩
        obtain ⟨p0, p1, rfl⟩ : ∃ p0 p1, ks = [p0, p1] := by have h := hkl.out; match ks, h with | [a, b], _ => exact ⟨a, b, rfl⟩
        obtain ⟨b0, b1, T0, T1, M0, M1, g, cap, rfl, rfl, hP0, hR0, hP1, hR1, rfl, hgb, c0, c1⟩ := two_maps hPs hown
        have c0' := fun ob => pw_cell_below (hWr ob) c0
        have c1' := fun ob => pw_cell_below (hWr ob) c1
        obtain ⟨TB, hTB⟩ := hP1.terms
        have mc := fun W hp0 hp1 => multiply_calls b0 b1 _ _ M0 M1 v hv W hp0 hp1 (two_mul (by simp [Pat.sizes] at hsz; omega) (size_pos p0) (size_pos p1)) hR0.1 hR1.1 TB hTB
        have hWd := fun ob => below_drew (hWr ob)
        go_wp2
        go_region_with (go_at_call 67; refine (mc _ ?_ ?_).mono ?_; exact hP0.below (hWd _); exact hP1.below (hWd _); rintro e w1 ⟨M, TA, hTA, hRM, bm, rfl, hbm, hPm, hBm⟩)
        all_goals
          go_wp2
          go_ret2
          rw [E2.out, hszs.out, show opTerms v 6 [T0, T1] = some (prodT T0 T1) from by simp [opTerms]]
          have hbm' : wr.heap.size + 1 ≤ bm := by simpa using hbm
          exact ⟨bm, M, rfl, by have := hBr.size; omega, hPm.mono (two_mul_le p0 p1), ⟨hRM.1, fun k => (hRM.2 k).trans (prodT_congr (fun k => by rw [hTA.tsum, hR0.2, Int.emod_emod]) (fun k => by rw [hTB.tsum, hR1.2, Int.emod_emod]) k)⟩, below_then (below_drew (hBr.alloc hBr.size _)) (by simp; have := hBr.size; omega) hBm⟩
      by_cases o20 : op = 20
      · subst o20
        obtain ⟨rfl, rfl⟩ : kids = [1] ∧ own = 1 := by have h := hos.out; simp [opSorts] at h; exact ⟨h.1.symm, h.2.symm⟩
        obtain ⟨p0, rfl⟩ : ∃ p0, ks = [p0] := by have h := hkl.out; match ks, h with | [a], _ => exact ⟨a, rfl⟩
        obtain ⟨b0, T0, M0, g, cap, rfl, rfl, hP0, hR0, rfl, hgb, c0⟩ := one_map hPs hown
        have c0' := fun ob => pw_cell_below (hWr ob) c0
        have z0 := size_pos p0
        go_wp2_with fail
        refine (add_calls wr.heap.size b0 0 _ (fun _ => none) M0 _ _ hS (hP0.below (hWr _)) (by have := hP0.lt; omega) (by rw [Nat.zero_add]; exact pow24 (by simp [Pat.sizes] at hsz; omega))).mono ?_
        rintro e w1 ⟨rfl, hS1, hg1⟩
        go_wp2
        go_ret2
        have hR := Rep.add (Rep.empty v) hR0 18446744073709551615
        rw [List.nil_append] at hR
        rw [E2.out, hszs.out, show opTerms v 20 [T0] = some (scaleT 18446744073709551615 T0) from by simp [opTerms]]
        exact ⟨_, _, rfl, hBr.size, hS1.mono (by rw [Nat.zero_add]; exact Nat.pow_le_pow_right (by decide) (by simp [Pat.sizes]; omega)), hR, (hBr.alloc hBr.size _).grown hg1 (by simp; have := hBr.size; omega) (fun k hk => by cases hk; exact hBr.size)⟩
      by_cases o21 : op = 21
      · subst o21
        obtain ⟨rfl, rfl⟩ : kids = [1] ∧ own = 1 := by have h := hos.out; simp [opSorts] at h; exact ⟨h.1.symm, h.2.symm⟩
        obtain ⟨p0, rfl⟩ : ∃ p0, ks = [p0] := by have h := hkl.out; match ks, h with | [a], _ => exact ⟨a, rfl⟩
        obtain ⟨b0, T0, M0, g, cap, rfl, rfl, hP0, hR0, rfl, hgb, c0⟩ := one_map hPs hown
        have z0 := size_pos p0
        have l0 := hP0.lt
        have cc := fun W => constant_calls 18446744073709551615 (by decide) v hv W
        go_wp2_with fail
        refine (cc _).mono ?_
        rintro e w1 ⟨b1, rfl, hb1, hP1, hB1⟩
        have hb1' : wr.heap.size + 1 ≤ b1 := by simpa using hb1
        go_wp2_with fail
        refine (add_calls wr.heap.size b1 0 1 (fun _ => none) _ _ _ (hS.below hB1) hP1 (by omega) (by simp [maxLen])).mono ?_
        rintro e w2 ⟨rfl, hS2, hg2⟩
        have hP0' := ((hP0.below (hWr (.map #[] 0))).below hB1).kept hg2 (by simp; omega)
        have c0' := keep_cell (keep_of_grown hg2) (pw_cell_below hB1 (pw_cell_below (hWr _) c0)) (by simp; omega)
        go_wp2_with fail
        refine (add_calls wr.heap.size b0 _ _ _ M0 _ _ hS2 hP0' (by omega) (by have := pow24 (s := p0.size) (by simp [Pat.sizes] at hsz; omega); have h2 : 2 ^ p0.size.toNat ≤ 2 ^ 24 := Nat.pow_le_pow_right (by decide) (by simp [Pat.sizes] at hsz; omega); unfold maxLen; omega)).mono ?_
        rintro e w3 ⟨rfl, hS3, hg3⟩
        go_wp2
        go_ret2
        have hR := Rep.add (Rep.add (Rep.empty v) (Rep.one v (kb (List.replicate v 0)) (by simp [kb]) 18446744073709551615 18446744073709551615 (by decide)) 1) hR0 18446744073709551615
        rw [scale_one, List.nil_append, kb_zero] at hR
        rw [E2.out, hszs.out, show opTerms v 21 [T0] = some ((zeroK v, 18446744073709551615) :: scaleT 18446744073709551615 T0) from by simp [opTerms]]
        have q1 := below_then (hBr.alloc hBr.size (.map #[] 0)) (by simp; have := hBr.size; omega) hB1
        rw [kb_zero] at hS3
        exact ⟨_, _, rfl, hBr.size, hS3.mono (not_le p0), hR, (q1.grown hg2 q1.size (fun k hk => by cases hk; exact hBr.size)).grown hg3 (Nat.le_trans q1.size hg2.size) (fun k hk => by cases hk; exact hBr.size)⟩
      have o4' := beq_no o4
      have o5' := beq_no o5
      have o6' := beq_no o6
      have o20' := beq_no o20
      have o21' := beq_no o21
      have E3 : Hid (opTerms v op Ts = none) := Lib.hid (by simp [opTerms, o4, o5, o6, o20, o21])
      clear o4 o5 o6 o20 o21
      go_wp2
      go_ret2
      rw [E2.out, E3.out]
      exact ⟨rfl, hBr.alloc hBr.size _⟩
theorem NormRes.mono {v : Nat} {w : World} {n m : Nat} {o : Option Tm} {e : Ending} {w' : World} (h : NormRes v w n o e w') (hn : n ≤ m) : NormRes v w m o e w' := by
  cases o with
  | none => exact h
  | some T =>
    obtain ⟨b, M, h1, h2, h3, h4⟩ := h
    exact ⟨b, M, h1, h2, h3.mono hn, h4⟩
theorem normalize_calls (v : Nat) (hv : v ≤ 6) : ∀ p : Pat, shape v p → p.size ≤ 24 → NormC v p := by
  refine Pat.ind ?_
  intro p ih hs hz A c w hr hcl
  by_cases h0 : p.var = 0
  · have hs' : (∃ kids s, opSorts p.op = some (kids, s) ∧ p.kids.length = kids.length) ∧ shapes v p.kids := by
      obtain ⟨var, op, imm, iv, ks⟩ := p
      simp only at h0
      subst h0
      rw [shape, if_neg (by simp)] at hs
      exact hs
    obtain ⟨⟨kids, own, hos, hkl⟩, hsk⟩ := hs'
    have ih' : ∀ q ∈ p.kids, NormC v q := fun q hq => by
      obtain ⟨i, hi⟩ := List.getElem?_of_mem hq
      exact ih q hq (shapes_get hsk hi) (by have := size_kid hi; omega)
    by_cases h1 : p.op = 1
    · exact (normalize_const v hv p A c w h0 h1).mono fun e w' h => h.mono Nat.one_le_two_pow
    · by_cases h2 : p.op = 12
      · have hk2 : kids.length = 2 := by rw [h2] at hos; simp [opSorts] at hos; rw [← hos.1]; rfl
        obtain ⟨a, b, hab⟩ : ∃ a b, p.kids = [a, b] := by
          have h := hkl.trans hk2
          match p.kids, h with
          | [a, b], _ => exact ⟨a, b, rfl⟩
        have ha : p.kids[0]? = some a := by rw [hab]; rfl
        have hza := size_kid ha
        have hpa := size_pos a
        exact (normalize_shl v hv p A c w h0 h2 a b hab (ih' a (by rw [hab]; simp)) (by omega) hr hcl).mono fun e w' h => h.mono (Nat.pow_le_pow_right (by decide) (by omega))
      · exact normalize_op v hv p A c w h0 h1 h2 kids own hos hkl ih' hz hr hcl
  · have hs' : 1 ≤ p.var ∧ p.var ≤ v := by
      obtain ⟨var, op, imm, iv, ks⟩ := p
      rw [shape, if_pos h0] at hs
      exact hs
    exact (normalize_var v hv p A c w hs'.1 hs'.2).mono fun e w' h => h.mono Nat.one_le_two_pow
end Go.Proofs.Ytmdahjmkfipdfaa
