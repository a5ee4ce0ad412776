/- The kinds of the Go types of the statements: how their values lie in memory. Written by a program (mktypes.py) out of the kit's kinds. -/
import Derived.Test.YtmdahjmkfipdfaaProg
import Derived.Test.YtmdahjmkfipdfaaWWords
import Derived.Test.YtmdahjmkfipdfaaWLast
import Derived.Test.YtmdahjmkfipdfaaWMore
import Derived.Test.YtmdahjmkfipdfaaPure0
namespace Go.Proofs.Ytmdahjmkfipdfaa
open Go.RowKit Go.Proofs.YtmdahjmkfipdfaaW.PrintWords Go.Proofs.YtmdahjmkfipdfaaW.PrintLast Go.Proofs.YtmdahjmkfipdfaaW.PrintMore
set_option linter.unusedVariables false
set_option linter.unusedSimpArgs false
def rd_L5 (xs : List (List Int)) (i : Int) : (List Int) := xs.getD i.toNat ([] : List Int)
theorem at_L5 {w : World} {A : Option Addr} {n : Nat} {xs : List (List Int)} (h : Kd.C (Kd.slice 3 (Kd.int .i64)) w A n xs) (i : Int) (h0 : 0 ≤ i) (h1 : i < n) : ∃ ad A0 c0, A = some ad ∧ w.cell? (ad.add i.toNat) = some (.slice A0 (rd_L5 xs i).length c0) ∧ (rd_L5 xs i).length ≤ c0 ∧ (Kd.int .i64).C w A0 (rd_L5 xs i).length (rd_L5 xs i) := by
  obtain ⟨ad, c, e, _, hK, hc0⟩ := Kd.C_get h ([] : List Int) i h0 h1
  have hc : ∀ j u, c[j]? = some u → w.cell? (ad.add (i.toNat * 1 + j)) = some u := hc0
  obtain ⟨A0, c0, rfl, l0, g0⟩ := hK
  exact ⟨ad, A0, c0, e, by have hq := hc 0 _ rfl; rwa [Nat.mul_one, Nat.add_zero] at hq, l0, g0⟩

def rd_L6 (xs : List (List Int)) (i : Int) : (List Int) := xs.getD i.toNat ([] : List Int)
theorem at_L6 {w : World} {A : Option Addr} {n : Nat} {xs : List (List Int)} (h : Kd.C (Kd.slice 5 (Kd.int .u8)) w A n xs) (i : Int) (h0 : 0 ≤ i) (h1 : i < n) : ∃ ad A0 c0, A = some ad ∧ w.cell? (ad.add i.toNat) = some (.slice A0 (rd_L6 xs i).length c0) ∧ (rd_L6 xs i).length ≤ c0 ∧ (Kd.int .u8).C w A0 (rd_L6 xs i).length (rd_L6 xs i) := by
  obtain ⟨ad, c, e, _, hK, hc0⟩ := Kd.C_get h ([] : List Int) i h0 h1
  have hc : ∀ j u, c[j]? = some u → w.cell? (ad.add (i.toNat * 1 + j)) = some u := hc0
  obtain ⟨A0, c0, rfl, l0, g0⟩ := hK
  exact ⟨ad, A0, c0, e, by have hq := hc 0 _ rfl; rwa [Nat.mul_one, Nat.add_zero] at hq, l0, g0⟩

/-! #### struct type 24, nested in itself -/
def FPat (d : Kd Pat) : Kd Pat := Kd.iso (Kd.pair (Kd.int .i64) (Kd.pair (Kd.int .i64) (Kd.pair (Kd.int .i64) (Kd.pair (Kd.int .i64) (Kd.slice 24 d))))) (fun x : Pat => (x.var, x.op, x.imm, x.immVar, x.kids))
theorem monoPat : Kd.Mono FPat := Kd.mono_iso _ (Kd.mono_pair (Kd.mono_const _) (Kd.mono_pair (Kd.mono_const _) (Kd.mono_pair (Kd.mono_const _) (Kd.mono_pair (Kd.mono_const _) (Kd.mono_slice 24 Kd.mono_id)))))
theorem subPat : Kd.Sub FPat [24] := Kd.sub_iso _ (Kd.sub_pair (Kd.sub_const _ (by decide)) (Kd.sub_pair (Kd.sub_const _ (by decide)) (Kd.sub_pair (Kd.sub_const _ (by decide)) (Kd.sub_pair (Kd.sub_const _ (by decide)) (Kd.sub_slice 24 (by decide) Kd.sub_id)))))
theorem szPat : ∀ n, (Kd.upto FPat 5 [24] n).sz = 5 := Kd.upto_sz (fun _ => rfl)
def kPat : Kd Pat := Kd.fix FPat 5 [24] szPat (Kd.upto_E subPat)
theorem kPat_heap : Kd.Heap kPat := Kd.heap_fix (fun _ h_ => Kd.heap_iso _ (Kd.heap_pair (Kd.heap_int .i64) (Kd.heap_pair (Kd.heap_int .i64) (Kd.heap_pair (Kd.heap_int .i64) (Kd.heap_pair (Kd.heap_int .i64) (Kd.heap_slice 24 h_))))))
theorem kPat_open {w : World} {x : Pat} {cs : List Value} (h : kPat.K w x cs) : ∃ A4 c4, cs = [.int .i64 x.var, .int .i64 x.op, .int .i64 x.imm, .int .i64 x.immVar, .slice A4 x.kids.length c4] ∧ x.kids.length ≤ c4 ∧ kPat.C w A4 x.kids.length x.kids := by
  obtain ⟨n, h⟩ := h
  cases n with
  | zero => exact h.elim
  | succ n =>
    obtain ⟨_, _, rfl, rfl, ⟨_, _, rfl, rfl, ⟨_, _, rfl, rfl, ⟨_, _, rfl, rfl, ⟨A4, c4, rfl, l4, g4⟩⟩⟩⟩⟩ := h
    exact ⟨A4, c4, rfl, l4, Kd.fix_C g4⟩
theorem kPat_openM {w : World} {base : Nat} {ok : Nat → Prop} {x : Pat} {cs : List Value} (h : kPat.M w base ok x cs) : ∃ v4, cs = [.int .i64 x.var, .int .i64 x.op, .int .i64 x.imm, .int .i64 x.immVar, v4] ∧ kPat.R 24 w base ok v4 x.kids := by
  obtain ⟨n, h⟩ := h
  cases n with
  | zero => exact h.elim
  | succ n =>
    obtain ⟨_, _, rfl, rfl, ⟨_, _, rfl, rfl, ⟨_, _, rfl, rfl, ⟨_, _, rfl, rfl, ⟨v4, rfl, g4⟩⟩⟩⟩⟩ := h
    exact ⟨v4, rfl, Kd.fix_R g4⟩
theorem kPat_mk (w : World) (x : Pat) {A4 : Option Addr} {c4 : Nat} (l4 : x.kids.length ≤ c4) (g4 : kPat.C w A4 x.kids.length x.kids) : kPat.K w x [.int .i64 x.var, .int .i64 x.op, .int .i64 x.imm, .int .i64 x.immVar, .slice A4 x.kids.length c4] := by
  obtain ⟨n4, q4⟩ := Kd.fix_C_back monoPat g4
  have r4 := Kd.upto_C_le monoPat szPat (show n4 ≤ n4 by omega) q4
  exact ⟨n4 + 1, ⟨[.int .i64 x.var], [.int .i64 x.op, .int .i64 x.imm, .int .i64 x.immVar, .slice A4 x.kids.length c4], rfl, rfl, ⟨[.int .i64 x.op], [.int .i64 x.imm, .int .i64 x.immVar, .slice A4 x.kids.length c4], rfl, rfl, ⟨[.int .i64 x.imm], [.int .i64 x.immVar, .slice A4 x.kids.length c4], rfl, rfl, ⟨[.int .i64 x.immVar], [.slice A4 x.kids.length c4], rfl, rfl, ⟨A4, c4, rfl, l4, r4⟩⟩⟩⟩⟩⟩
theorem kPat_mkM (w : World) (base : Nat) (ok : Nat → Prop) (x : Pat) {v4 : Value} (g4 : kPat.R 24 w base ok v4 x.kids) : kPat.M w base ok x [.int .i64 x.var, .int .i64 x.op, .int .i64 x.imm, .int .i64 x.immVar, v4] := by
  obtain ⟨n4, q4⟩ := Kd.fix_R_back monoPat g4
  have r4 := Kd.upto_R_le monoPat szPat (show n4 ≤ n4 by omega) q4
  exact ⟨n4 + 1, ⟨[.int .i64 x.var], [.int .i64 x.op, .int .i64 x.imm, .int .i64 x.immVar, v4], rfl, rfl, ⟨[.int .i64 x.op], [.int .i64 x.imm, .int .i64 x.immVar, v4], rfl, rfl, ⟨[.int .i64 x.imm], [.int .i64 x.immVar, v4], rfl, rfl, ⟨[.int .i64 x.immVar], [v4], rfl, rfl, ⟨v4, rfl, r4⟩⟩⟩⟩⟩⟩
theorem kPat_openF {W : World} {ok : Nat → Prop} {x : Pat} {cs : List Value} (h : Kd.FK kPat W ok x cs) : ∃ A4 c4, cs = [.int .i64 x.var, .int .i64 x.op, .int .i64 x.imm, .int .i64 x.immVar, .slice A4 x.kids.length c4] ∧ x.kids.length ≤ c4 ∧ Kd.F kPat W ok A4 x.kids.length x.kids := by
  obtain ⟨A4, c4, rfl, l4, _⟩ := kPat_open (Kd.FK_now h)
  exact ⟨A4, c4, rfl, l4, (fun W' hW => by obtain ⟨A4_, c4_, he, l4_, g4_⟩ := kPat_open (h W' hW); injection (Option.some.inj (show some (Value.slice A4 x.kids.length c4) = some (Value.slice A4_ x.kids.length c4_) from congrArg (fun l => l[4]?) he)) with ha_ _ _; rw [ha_]; exact g4_)⟩
theorem kPat_mkF (W : World) (ok : Nat → Prop) (x : Pat) {A4 : Option Addr} {c4 : Nat} (l4 : x.kids.length ≤ c4) (g4 : Kd.F kPat W ok A4 x.kids.length x.kids) : Kd.FK kPat W ok x [.int .i64 x.var, .int .i64 x.op, .int .i64 x.imm, .int .i64 x.immVar, .slice A4 x.kids.length c4] := fun W2 hW => kPat_mk W2 x l4 (g4 W2 hW)
def rd_Pat (xs : List Pat) (i : Int) : Pat := xs.getD i.toNat zPat
theorem at_Pat {w : World} {A : Option Addr} {n : Nat} {xs : List Pat} (h : Kd.C kPat w A n xs) (i : Int) (h0 : 0 ≤ i) (h1 : i < n) : ∃ ad A4 c4, A = some ad ∧ w.cell? (ad.add (i.toNat * 5)) = some (.int .i64 (rd_Pat xs i).var) ∧ w.cell? ⟨(ad.add (i.toNat * 5)).block, (ad.add (i.toNat * 5)).off + 1, none⟩ = some (.int .i64 (rd_Pat xs i).op) ∧ w.cell? ⟨(ad.add (i.toNat * 5)).block, (ad.add (i.toNat * 5)).off + 2, none⟩ = some (.int .i64 (rd_Pat xs i).imm) ∧ w.cell? ⟨(ad.add (i.toNat * 5)).block, (ad.add (i.toNat * 5)).off + 3, none⟩ = some (.int .i64 (rd_Pat xs i).immVar) ∧ w.cell? ⟨(ad.add (i.toNat * 5)).block, (ad.add (i.toNat * 5)).off + 4, none⟩ = some (.slice A4 (rd_Pat xs i).kids.length c4) ∧ (rd_Pat xs i).kids.length ≤ c4 ∧ kPat.C w A4 (rd_Pat xs i).kids.length (rd_Pat xs i).kids := by
  obtain ⟨ad, c, e, _, hK, hc0⟩ := Kd.C_get h zPat i h0 h1
  have hc : ∀ j u, c[j]? = some u → w.cell? (ad.add (i.toNat * 5 + j)) = some u := hc0
  obtain ⟨A4, c4, rfl, l4, g4⟩ := kPat_open hK
  exact ⟨ad, A4, c4, e, hc 0 _ rfl, by rw [← add_field _ _ 1 (by omega)]; exact hc 1 _ rfl, by rw [← add_field _ _ 2 (by omega)]; exact hc 2 _ rfl, by rw [← add_field _ _ 3 (by omega)]; exact hc 3 _ rfl, by rw [← add_field _ _ 4 (by omega)]; exact hc 4 _ rfl, l4, g4⟩

/-! #### struct type 32 -/
def kMono : Kd Mono := Kd.iso (Kd.pair (Kd.slice 3 (Kd.int .i64)) (Kd.int .u64)) (fun x : Mono => (x.exps, x.coef))
theorem kMono_heap : Kd.Heap kMono := Kd.heap_iso _ (Kd.heap_pair (Kd.heap_slice 3 (Kd.heap_int .i64)) (Kd.heap_int .u64))
theorem kMono_open {w : World} {x : Mono} {cs : List Value} (h : kMono.K w x cs) : ∃ A0 c0, cs = [.slice A0 x.exps.length c0, .int .u64 x.coef] ∧ x.exps.length ≤ c0 ∧ (Kd.int .i64).C w A0 x.exps.length x.exps := by
  obtain ⟨_, _, rfl, ⟨A0, c0, rfl, l0, g0⟩, rfl⟩ := h
  exact ⟨A0, c0, rfl, l0, g0⟩
theorem kMono_openM {w : World} {base : Nat} {ok : Nat → Prop} {x : Mono} {cs : List Value} (h : kMono.M w base ok x cs) : ∃ v0, cs = [v0, .int .u64 x.coef] ∧ (Kd.int .i64).R 3 w base ok v0 x.exps := by
  obtain ⟨_, _, rfl, ⟨v0, rfl, g0⟩, rfl⟩ := h
  exact ⟨v0, rfl, g0⟩
theorem kMono_mk (w : World) (x : Mono) {A0 : Option Addr} {c0 : Nat} (l0 : x.exps.length ≤ c0) (g0 : (Kd.int .i64).C w A0 x.exps.length x.exps) : kMono.K w x [.slice A0 x.exps.length c0, .int .u64 x.coef] := ⟨[.slice A0 x.exps.length c0], [.int .u64 x.coef], rfl, ⟨A0, c0, rfl, l0, g0⟩, rfl⟩
theorem kMono_mkM (w : World) (base : Nat) (ok : Nat → Prop) (x : Mono) {v0 : Value} (g0 : (Kd.int .i64).R 3 w base ok v0 x.exps) : kMono.M w base ok x [v0, .int .u64 x.coef] := ⟨[v0], [.int .u64 x.coef], rfl, ⟨v0, rfl, g0⟩, rfl⟩
theorem kMono_openF {W : World} {ok : Nat → Prop} {x : Mono} {cs : List Value} (h : Kd.FK kMono W ok x cs) : ∃ A0 c0, cs = [.slice A0 x.exps.length c0, .int .u64 x.coef] ∧ x.exps.length ≤ c0 ∧ Kd.F (Kd.int .i64) W ok A0 x.exps.length x.exps := by
  obtain ⟨A0, c0, rfl, l0, _⟩ := kMono_open (Kd.FK_now h)
  exact ⟨A0, c0, rfl, l0, (fun W' hW => by obtain ⟨A0_, c0_, he, l0_, g0_⟩ := kMono_open (h W' hW); injection (Option.some.inj (show some (Value.slice A0 x.exps.length c0) = some (Value.slice A0_ x.exps.length c0_) from congrArg (fun l => l[0]?) he)) with ha_ _ _; rw [ha_]; exact g0_)⟩
theorem kMono_mkF (W : World) (ok : Nat → Prop) (x : Mono) {A0 : Option Addr} {c0 : Nat} (l0 : x.exps.length ≤ c0) (g0 : Kd.F (Kd.int .i64) W ok A0 x.exps.length x.exps) : Kd.FK kMono W ok x [.slice A0 x.exps.length c0, .int .u64 x.coef] := fun W2 hW => kMono_mk W2 x l0 (g0 W2 hW)
def rd_Mono (xs : List Mono) (i : Int) : Mono := xs.getD i.toNat zMono
theorem at_Mono {w : World} {A : Option Addr} {n : Nat} {xs : List Mono} (h : Kd.C kMono w A n xs) (i : Int) (h0 : 0 ≤ i) (h1 : i < n) : ∃ ad A0 c0, A = some ad ∧ w.cell? (ad.add (i.toNat * 2)) = some (.slice A0 (rd_Mono xs i).exps.length c0) ∧ w.cell? ⟨(ad.add (i.toNat * 2)).block, (ad.add (i.toNat * 2)).off + 1, none⟩ = some (.int .u64 (rd_Mono xs i).coef) ∧ (rd_Mono xs i).exps.length ≤ c0 ∧ (Kd.int .i64).C w A0 (rd_Mono xs i).exps.length (rd_Mono xs i).exps := by
  obtain ⟨ad, c, e, _, hK, hc0⟩ := Kd.C_get h zMono i h0 h1
  have hc : ∀ j u, c[j]? = some u → w.cell? (ad.add (i.toNat * 2 + j)) = some u := hc0
  obtain ⟨A0, c0, rfl, l0, g0⟩ := kMono_open hK
  exact ⟨ad, A0, c0, e, hc 0 _ rfl, by rw [← add_field _ _ 1 (by omega)]; exact hc 1 _ rfl, l0, g0⟩

def rd_L9 (xs : List (List Mono)) (i : Int) : (List Mono) := xs.getD i.toNat ([] : List Mono)
theorem at_L9 {w : World} {A : Option Addr} {n : Nat} {xs : List (List Mono)} (h : Kd.C (Kd.slice 32 kMono) w A n xs) (i : Int) (h0 : 0 ≤ i) (h1 : i < n) : ∃ ad A0 c0, A = some ad ∧ w.cell? (ad.add i.toNat) = some (.slice A0 (rd_L9 xs i).length c0) ∧ (rd_L9 xs i).length ≤ c0 ∧ kMono.C w A0 (rd_L9 xs i).length (rd_L9 xs i) := by
  obtain ⟨ad, c, e, _, hK, hc0⟩ := Kd.C_get h ([] : List Mono) i h0 h1
  have hc : ∀ j u, c[j]? = some u → w.cell? (ad.add (i.toNat * 1 + j)) = some u := hc0
  obtain ⟨A0, c0, rfl, l0, g0⟩ := hK
  exact ⟨ad, A0, c0, e, by have hq := hc 0 _ rfl; rwa [Nat.mul_one, Nat.add_zero] at hq, l0, g0⟩

/-! #### struct type 94 -/
def kCond : Kd Cond := Kd.iso (Kd.pair (Kd.int .i64) (Kd.pair (Kd.int .i64) (Kd.pair (Kd.int .i64) (Kd.int .i64)))) (fun x : Cond => (x.kind, x.a, x.b, x.n))
theorem kCond_heap : Kd.Heap kCond := Kd.heap_iso _ (Kd.heap_pair (Kd.heap_int .i64) (Kd.heap_pair (Kd.heap_int .i64) (Kd.heap_pair (Kd.heap_int .i64) (Kd.heap_int .i64))))
theorem kCond_open {w : World} {x : Cond} {cs : List Value} (h : kCond.K w x cs) : cs = [.int .i64 x.kind, .int .i64 x.a, .int .i64 x.b, .int .i64 x.n] := by
  obtain ⟨_, _, rfl, rfl, ⟨_, _, rfl, rfl, ⟨_, _, rfl, rfl, rfl⟩⟩⟩ := h
  exact rfl
theorem kCond_openM {w : World} {base : Nat} {ok : Nat → Prop} {x : Cond} {cs : List Value} (h : kCond.M w base ok x cs) : cs = [.int .i64 x.kind, .int .i64 x.a, .int .i64 x.b, .int .i64 x.n] := by
  obtain ⟨_, _, rfl, rfl, ⟨_, _, rfl, rfl, ⟨_, _, rfl, rfl, rfl⟩⟩⟩ := h
  exact rfl
theorem kCond_mk (w : World) (x : Cond)  : kCond.K w x [.int .i64 x.kind, .int .i64 x.a, .int .i64 x.b, .int .i64 x.n] := ⟨[.int .i64 x.kind], [.int .i64 x.a, .int .i64 x.b, .int .i64 x.n], rfl, rfl, ⟨[.int .i64 x.a], [.int .i64 x.b, .int .i64 x.n], rfl, rfl, ⟨[.int .i64 x.b], [.int .i64 x.n], rfl, rfl, rfl⟩⟩⟩
theorem kCond_mkM (w : World) (base : Nat) (ok : Nat → Prop) (x : Cond)  : kCond.M w base ok x [.int .i64 x.kind, .int .i64 x.a, .int .i64 x.b, .int .i64 x.n] := ⟨[.int .i64 x.kind], [.int .i64 x.a, .int .i64 x.b, .int .i64 x.n], rfl, rfl, ⟨[.int .i64 x.a], [.int .i64 x.b, .int .i64 x.n], rfl, rfl, ⟨[.int .i64 x.b], [.int .i64 x.n], rfl, rfl, rfl⟩⟩⟩
theorem kCond_mkF (W : World) (ok : Nat → Prop) (x : Cond) : Kd.FK kCond W ok x [.int .i64 x.kind, .int .i64 x.a, .int .i64 x.b, .int .i64 x.n] := fun W2 _ => kCond_mk W2 x
def rd_Cond (xs : List Cond) (i : Int) : Cond := xs.getD i.toNat zCond
theorem at_Cond {w : World} {A : Option Addr} {n : Nat} {xs : List Cond} (h : Kd.C kCond w A n xs) (i : Int) (h0 : 0 ≤ i) (h1 : i < n) : ∃ ad , A = some ad ∧ w.cell? (ad.add (i.toNat * 4)) = some (.int .i64 (rd_Cond xs i).kind) ∧ w.cell? ⟨(ad.add (i.toNat * 4)).block, (ad.add (i.toNat * 4)).off + 1, none⟩ = some (.int .i64 (rd_Cond xs i).a) ∧ w.cell? ⟨(ad.add (i.toNat * 4)).block, (ad.add (i.toNat * 4)).off + 2, none⟩ = some (.int .i64 (rd_Cond xs i).b) ∧ w.cell? ⟨(ad.add (i.toNat * 4)).block, (ad.add (i.toNat * 4)).off + 3, none⟩ = some (.int .i64 (rd_Cond xs i).n) := by
  obtain ⟨ad, c, e, _, hK, hc0⟩ := Kd.C_get h zCond i h0 h1
  have hc : ∀ j u, c[j]? = some u → w.cell? (ad.add (i.toNat * 4 + j)) = some u := hc0
  obtain rfl := kCond_open hK
  exact ⟨ad, e, hc 0 _ rfl, by rw [← add_field _ _ 1 (by omega)]; exact hc 1 _ rfl, by rw [← add_field _ _ 2 (by omega)]; exact hc 2 _ rfl, by rw [← add_field _ _ 3 (by omega)]; exact hc 3 _ rfl⟩

def rd_L11 (xs : List (List Cond)) (i : Int) : (List Cond) := xs.getD i.toNat ([] : List Cond)
theorem at_L11 {w : World} {A : Option Addr} {n : Nat} {xs : List (List Cond)} (h : Kd.C (Kd.slice 94 kCond) w A n xs) (i : Int) (h0 : 0 ≤ i) (h1 : i < n) : ∃ ad A0 c0, A = some ad ∧ w.cell? (ad.add i.toNat) = some (.slice A0 (rd_L11 xs i).length c0) ∧ (rd_L11 xs i).length ≤ c0 ∧ kCond.C w A0 (rd_L11 xs i).length (rd_L11 xs i) := by
  obtain ⟨ad, c, e, _, hK, hc0⟩ := Kd.C_get h ([] : List Cond) i h0 h1
  have hc : ∀ j u, c[j]? = some u → w.cell? (ad.add (i.toNat * 1 + j)) = some u := hc0
  obtain ⟨A0, c0, rfl, l0, g0⟩ := hK
  exact ⟨ad, A0, c0, e, by have hq := hc 0 _ rfl; rwa [Nat.mul_one, Nat.add_zero] at hq, l0, g0⟩

/-! #### struct type 51 -/
def kRule : Kd Rule := Kd.iso (Kd.pair Kd.string (Kd.pair kPat (Kd.pair kPat (Kd.pair (Kd.slice 94 kCond) (Kd.pair (Kd.int .i64) (Kd.int .i64)))))) (fun x : Rule => (x.name, x.left, x.right, x.conds, x.vars, x.immVars))
theorem kRule_heap : Kd.Heap kRule := Kd.heap_iso _ (Kd.heap_pair Kd.heap_string (Kd.heap_pair kPat_heap (Kd.heap_pair kPat_heap (Kd.heap_pair (Kd.heap_slice 94 kCond_heap) (Kd.heap_pair (Kd.heap_int .i64) (Kd.heap_int .i64))))))
theorem kRule_open {w : World} {x : Rule} {cs : List Value} (h : kRule.K w x cs) : ∃ A5 c5 A10 c10 A11 c11, cs = [.string x.name, .int .i64 x.left.var, .int .i64 x.left.op, .int .i64 x.left.imm, .int .i64 x.left.immVar, .slice A5 x.left.kids.length c5, .int .i64 x.right.var, .int .i64 x.right.op, .int .i64 x.right.imm, .int .i64 x.right.immVar, .slice A10 x.right.kids.length c10, .slice A11 x.conds.length c11, .int .i64 x.vars, .int .i64 x.immVars] ∧ x.left.kids.length ≤ c5 ∧ kPat.C w A5 x.left.kids.length x.left.kids ∧ x.right.kids.length ≤ c10 ∧ kPat.C w A10 x.right.kids.length x.right.kids ∧ x.conds.length ≤ c11 ∧ kCond.C w A11 x.conds.length x.conds := by
  obtain ⟨_, _, rfl, rfl, ⟨_, _, rfl, s1, ⟨_, _, rfl, s6, ⟨_, _, rfl, ⟨A11, c11, rfl, l11, g11⟩, ⟨_, _, rfl, rfl, rfl⟩⟩⟩⟩⟩ := h
  obtain ⟨A5, c5, rfl, l5, g5⟩ := kPat_open s1
  obtain ⟨A10, c10, rfl, l10, g10⟩ := kPat_open s6
  exact ⟨A5, c5, A10, c10, A11, c11, rfl, l5, g5, l10, g10, l11, g11⟩
theorem kRule_openM {w : World} {base : Nat} {ok : Nat → Prop} {x : Rule} {cs : List Value} (h : kRule.M w base ok x cs) : ∃ v5 v10 v11, cs = [.string x.name, .int .i64 x.left.var, .int .i64 x.left.op, .int .i64 x.left.imm, .int .i64 x.left.immVar, v5, .int .i64 x.right.var, .int .i64 x.right.op, .int .i64 x.right.imm, .int .i64 x.right.immVar, v10, v11, .int .i64 x.vars, .int .i64 x.immVars] ∧ kPat.R 24 w base ok v5 x.left.kids ∧ kPat.R 24 w base ok v10 x.right.kids ∧ kCond.R 94 w base ok v11 x.conds := by
  obtain ⟨_, _, rfl, rfl, ⟨_, _, rfl, s1, ⟨_, _, rfl, s6, ⟨_, _, rfl, ⟨v11, rfl, g11⟩, ⟨_, _, rfl, rfl, rfl⟩⟩⟩⟩⟩ := h
  obtain ⟨v5, rfl, g5⟩ := kPat_openM s1
  obtain ⟨v10, rfl, g10⟩ := kPat_openM s6
  exact ⟨v5, v10, v11, rfl, g5, g10, g11⟩
theorem kRule_mk (w : World) (x : Rule) {A5 : Option Addr} {c5 : Nat} (l5 : x.left.kids.length ≤ c5) (g5 : kPat.C w A5 x.left.kids.length x.left.kids) {A10 : Option Addr} {c10 : Nat} (l10 : x.right.kids.length ≤ c10) (g10 : kPat.C w A10 x.right.kids.length x.right.kids) {A11 : Option Addr} {c11 : Nat} (l11 : x.conds.length ≤ c11) (g11 : kCond.C w A11 x.conds.length x.conds) : kRule.K w x [.string x.name, .int .i64 x.left.var, .int .i64 x.left.op, .int .i64 x.left.imm, .int .i64 x.left.immVar, .slice A5 x.left.kids.length c5, .int .i64 x.right.var, .int .i64 x.right.op, .int .i64 x.right.imm, .int .i64 x.right.immVar, .slice A10 x.right.kids.length c10, .slice A11 x.conds.length c11, .int .i64 x.vars, .int .i64 x.immVars] := ⟨[.string x.name], [.int .i64 x.left.var, .int .i64 x.left.op, .int .i64 x.left.imm, .int .i64 x.left.immVar, .slice A5 x.left.kids.length c5, .int .i64 x.right.var, .int .i64 x.right.op, .int .i64 x.right.imm, .int .i64 x.right.immVar, .slice A10 x.right.kids.length c10, .slice A11 x.conds.length c11, .int .i64 x.vars, .int .i64 x.immVars], rfl, rfl, ⟨[.int .i64 x.left.var, .int .i64 x.left.op, .int .i64 x.left.imm, .int .i64 x.left.immVar, .slice A5 x.left.kids.length c5], [.int .i64 x.right.var, .int .i64 x.right.op, .int .i64 x.right.imm, .int .i64 x.right.immVar, .slice A10 x.right.kids.length c10, .slice A11 x.conds.length c11, .int .i64 x.vars, .int .i64 x.immVars], rfl, (kPat_mk w x.left l5 g5), ⟨[.int .i64 x.right.var, .int .i64 x.right.op, .int .i64 x.right.imm, .int .i64 x.right.immVar, .slice A10 x.right.kids.length c10], [.slice A11 x.conds.length c11, .int .i64 x.vars, .int .i64 x.immVars], rfl, (kPat_mk w x.right l10 g10), ⟨[.slice A11 x.conds.length c11], [.int .i64 x.vars, .int .i64 x.immVars], rfl, ⟨A11, c11, rfl, l11, g11⟩, ⟨[.int .i64 x.vars], [.int .i64 x.immVars], rfl, rfl, rfl⟩⟩⟩⟩⟩
theorem kRule_mkM (w : World) (base : Nat) (ok : Nat → Prop) (x : Rule) {v5 : Value} (g5 : kPat.R 24 w base ok v5 x.left.kids) {v10 : Value} (g10 : kPat.R 24 w base ok v10 x.right.kids) {v11 : Value} (g11 : kCond.R 94 w base ok v11 x.conds) : kRule.M w base ok x [.string x.name, .int .i64 x.left.var, .int .i64 x.left.op, .int .i64 x.left.imm, .int .i64 x.left.immVar, v5, .int .i64 x.right.var, .int .i64 x.right.op, .int .i64 x.right.imm, .int .i64 x.right.immVar, v10, v11, .int .i64 x.vars, .int .i64 x.immVars] := ⟨[.string x.name], [.int .i64 x.left.var, .int .i64 x.left.op, .int .i64 x.left.imm, .int .i64 x.left.immVar, v5, .int .i64 x.right.var, .int .i64 x.right.op, .int .i64 x.right.imm, .int .i64 x.right.immVar, v10, v11, .int .i64 x.vars, .int .i64 x.immVars], rfl, rfl, ⟨[.int .i64 x.left.var, .int .i64 x.left.op, .int .i64 x.left.imm, .int .i64 x.left.immVar, v5], [.int .i64 x.right.var, .int .i64 x.right.op, .int .i64 x.right.imm, .int .i64 x.right.immVar, v10, v11, .int .i64 x.vars, .int .i64 x.immVars], rfl, (kPat_mkM w base ok x.left g5), ⟨[.int .i64 x.right.var, .int .i64 x.right.op, .int .i64 x.right.imm, .int .i64 x.right.immVar, v10], [v11, .int .i64 x.vars, .int .i64 x.immVars], rfl, (kPat_mkM w base ok x.right g10), ⟨[v11], [.int .i64 x.vars, .int .i64 x.immVars], rfl, ⟨v11, rfl, g11⟩, ⟨[.int .i64 x.vars], [.int .i64 x.immVars], rfl, rfl, rfl⟩⟩⟩⟩⟩
theorem kRule_openF {W : World} {ok : Nat → Prop} {x : Rule} {cs : List Value} (h : Kd.FK kRule W ok x cs) : ∃ A5 c5 A10 c10 A11 c11, cs = [.string x.name, .int .i64 x.left.var, .int .i64 x.left.op, .int .i64 x.left.imm, .int .i64 x.left.immVar, .slice A5 x.left.kids.length c5, .int .i64 x.right.var, .int .i64 x.right.op, .int .i64 x.right.imm, .int .i64 x.right.immVar, .slice A10 x.right.kids.length c10, .slice A11 x.conds.length c11, .int .i64 x.vars, .int .i64 x.immVars] ∧ x.left.kids.length ≤ c5 ∧ Kd.F kPat W ok A5 x.left.kids.length x.left.kids ∧ x.right.kids.length ≤ c10 ∧ Kd.F kPat W ok A10 x.right.kids.length x.right.kids ∧ x.conds.length ≤ c11 ∧ Kd.F kCond W ok A11 x.conds.length x.conds := by
  obtain ⟨A5, c5, A10, c10, A11, c11, rfl, l5, _, l10, _, l11, _⟩ := kRule_open (Kd.FK_now h)
  exact ⟨A5, c5, A10, c10, A11, c11, rfl, l5, (fun W' hW => by obtain ⟨A5_, c5_, A10_, c10_, A11_, c11_, he, l5_, g5_, l10_, g10_, l11_, g11_⟩ := kRule_open (h W' hW); injection (Option.some.inj (show some (Value.slice A5 x.left.kids.length c5) = some (Value.slice A5_ x.left.kids.length c5_) from congrArg (fun l => l[5]?) he)) with ha_ _ _; rw [ha_]; exact g5_), l10, (fun W' hW => by obtain ⟨A5_, c5_, A10_, c10_, A11_, c11_, he, l5_, g5_, l10_, g10_, l11_, g11_⟩ := kRule_open (h W' hW); injection (Option.some.inj (show some (Value.slice A10 x.right.kids.length c10) = some (Value.slice A10_ x.right.kids.length c10_) from congrArg (fun l => l[10]?) he)) with ha_ _ _; rw [ha_]; exact g10_), l11, (fun W' hW => by obtain ⟨A5_, c5_, A10_, c10_, A11_, c11_, he, l5_, g5_, l10_, g10_, l11_, g11_⟩ := kRule_open (h W' hW); injection (Option.some.inj (show some (Value.slice A11 x.conds.length c11) = some (Value.slice A11_ x.conds.length c11_) from congrArg (fun l => l[11]?) he)) with ha_ _ _; rw [ha_]; exact g11_)⟩
theorem kRule_mkF (W : World) (ok : Nat → Prop) (x : Rule) {A5 : Option Addr} {c5 : Nat} (l5 : x.left.kids.length ≤ c5) (g5 : Kd.F kPat W ok A5 x.left.kids.length x.left.kids) {A10 : Option Addr} {c10 : Nat} (l10 : x.right.kids.length ≤ c10) (g10 : Kd.F kPat W ok A10 x.right.kids.length x.right.kids) {A11 : Option Addr} {c11 : Nat} (l11 : x.conds.length ≤ c11) (g11 : Kd.F kCond W ok A11 x.conds.length x.conds) : Kd.FK kRule W ok x [.string x.name, .int .i64 x.left.var, .int .i64 x.left.op, .int .i64 x.left.imm, .int .i64 x.left.immVar, .slice A5 x.left.kids.length c5, .int .i64 x.right.var, .int .i64 x.right.op, .int .i64 x.right.imm, .int .i64 x.right.immVar, .slice A10 x.right.kids.length c10, .slice A11 x.conds.length c11, .int .i64 x.vars, .int .i64 x.immVars] := fun W2 hW => kRule_mk W2 x l5 (g5 W2 hW) l10 (g10 W2 hW) l11 (g11 W2 hW)
def rd_Rule (xs : List Rule) (i : Int) : Rule := xs.getD i.toNat zRule
theorem at_Rule {w : World} {A : Option Addr} {n : Nat} {xs : List Rule} (h : Kd.C kRule w A n xs) (i : Int) (h0 : 0 ≤ i) (h1 : i < n) : ∃ ad A5 c5 A10 c10 A11 c11, A = some ad ∧ w.cell? (ad.add (i.toNat * 14)) = some (.string (rd_Rule xs i).name) ∧ w.cell? ⟨(ad.add (i.toNat * 14)).block, (ad.add (i.toNat * 14)).off + 1, none⟩ = some (.int .i64 (rd_Rule xs i).left.var) ∧ w.cell? ⟨(ad.add (i.toNat * 14)).block, (ad.add (i.toNat * 14)).off + 2, none⟩ = some (.int .i64 (rd_Rule xs i).left.op) ∧ w.cell? ⟨(ad.add (i.toNat * 14)).block, (ad.add (i.toNat * 14)).off + 3, none⟩ = some (.int .i64 (rd_Rule xs i).left.imm) ∧ w.cell? ⟨(ad.add (i.toNat * 14)).block, (ad.add (i.toNat * 14)).off + 4, none⟩ = some (.int .i64 (rd_Rule xs i).left.immVar) ∧ w.cell? ⟨(ad.add (i.toNat * 14)).block, (ad.add (i.toNat * 14)).off + 5, none⟩ = some (.slice A5 (rd_Rule xs i).left.kids.length c5) ∧ w.cell? ⟨(ad.add (i.toNat * 14)).block, (ad.add (i.toNat * 14)).off + 6, none⟩ = some (.int .i64 (rd_Rule xs i).right.var) ∧ w.cell? ⟨(ad.add (i.toNat * 14)).block, (ad.add (i.toNat * 14)).off + 7, none⟩ = some (.int .i64 (rd_Rule xs i).right.op) ∧ w.cell? ⟨(ad.add (i.toNat * 14)).block, (ad.add (i.toNat * 14)).off + 8, none⟩ = some (.int .i64 (rd_Rule xs i).right.imm) ∧ w.cell? ⟨(ad.add (i.toNat * 14)).block, (ad.add (i.toNat * 14)).off + 9, none⟩ = some (.int .i64 (rd_Rule xs i).right.immVar) ∧ w.cell? ⟨(ad.add (i.toNat * 14)).block, (ad.add (i.toNat * 14)).off + 10, none⟩ = some (.slice A10 (rd_Rule xs i).right.kids.length c10) ∧ w.cell? ⟨(ad.add (i.toNat * 14)).block, (ad.add (i.toNat * 14)).off + 11, none⟩ = some (.slice A11 (rd_Rule xs i).conds.length c11) ∧ w.cell? ⟨(ad.add (i.toNat * 14)).block, (ad.add (i.toNat * 14)).off + 12, none⟩ = some (.int .i64 (rd_Rule xs i).vars) ∧ w.cell? ⟨(ad.add (i.toNat * 14)).block, (ad.add (i.toNat * 14)).off + 13, none⟩ = some (.int .i64 (rd_Rule xs i).immVars) ∧ (rd_Rule xs i).left.kids.length ≤ c5 ∧ kPat.C w A5 (rd_Rule xs i).left.kids.length (rd_Rule xs i).left.kids ∧ (rd_Rule xs i).right.kids.length ≤ c10 ∧ kPat.C w A10 (rd_Rule xs i).right.kids.length (rd_Rule xs i).right.kids ∧ (rd_Rule xs i).conds.length ≤ c11 ∧ kCond.C w A11 (rd_Rule xs i).conds.length (rd_Rule xs i).conds := by
  obtain ⟨ad, c, e, _, hK, hc0⟩ := Kd.C_get h zRule i h0 h1
  have hc : ∀ j u, c[j]? = some u → w.cell? (ad.add (i.toNat * 14 + j)) = some u := hc0
  obtain ⟨A5, c5, A10, c10, A11, c11, rfl, l5, g5, l10, g10, l11, g11⟩ := kRule_open hK
  exact ⟨ad, A5, c5, A10, c10, A11, c11, e, hc 0 _ rfl, by rw [← add_field _ _ 1 (by omega)]; exact hc 1 _ rfl, by rw [← add_field _ _ 2 (by omega)]; exact hc 2 _ rfl, by rw [← add_field _ _ 3 (by omega)]; exact hc 3 _ rfl, by rw [← add_field _ _ 4 (by omega)]; exact hc 4 _ rfl, by rw [← add_field _ _ 5 (by omega)]; exact hc 5 _ rfl, by rw [← add_field _ _ 6 (by omega)]; exact hc 6 _ rfl, by rw [← add_field _ _ 7 (by omega)]; exact hc 7 _ rfl, by rw [← add_field _ _ 8 (by omega)]; exact hc 8 _ rfl, by rw [← add_field _ _ 9 (by omega)]; exact hc 9 _ rfl, by rw [← add_field _ _ 10 (by omega)]; exact hc 10 _ rfl, by rw [← add_field _ _ 11 (by omega)]; exact hc 11 _ rfl, by rw [← add_field _ _ 12 (by omega)]; exact hc 12 _ rfl, by rw [← add_field _ _ 13 (by omega)]; exact hc 13 _ rfl, l5, g5, l10, g10, l11, g11⟩

/-! #### struct type 73 -/
def kASt : Kd ASt := Kd.iso (Kd.pair (Kd.int .i64) (Kd.slice 5 (Kd.int .u8))) (fun x : ASt => (x.pos, x.bits))
theorem kASt_heap : Kd.Heap kASt := Kd.heap_iso _ (Kd.heap_pair (Kd.heap_int .i64) (Kd.heap_slice 5 (Kd.heap_int .u8)))
theorem kASt_open {w : World} {x : ASt} {cs : List Value} (h : kASt.K w x cs) : ∃ A1 c1, cs = [.int .i64 x.pos, .slice A1 x.bits.length c1] ∧ x.bits.length ≤ c1 ∧ (Kd.int .u8).C w A1 x.bits.length x.bits := by
  obtain ⟨_, _, rfl, rfl, ⟨A1, c1, rfl, l1, g1⟩⟩ := h
  exact ⟨A1, c1, rfl, l1, g1⟩
theorem kASt_openM {w : World} {base : Nat} {ok : Nat → Prop} {x : ASt} {cs : List Value} (h : kASt.M w base ok x cs) : ∃ v1, cs = [.int .i64 x.pos, v1] ∧ (Kd.int .u8).R 5 w base ok v1 x.bits := by
  obtain ⟨_, _, rfl, rfl, ⟨v1, rfl, g1⟩⟩ := h
  exact ⟨v1, rfl, g1⟩
theorem kASt_mk (w : World) (x : ASt) {A1 : Option Addr} {c1 : Nat} (l1 : x.bits.length ≤ c1) (g1 : (Kd.int .u8).C w A1 x.bits.length x.bits) : kASt.K w x [.int .i64 x.pos, .slice A1 x.bits.length c1] := ⟨[.int .i64 x.pos], [.slice A1 x.bits.length c1], rfl, rfl, ⟨A1, c1, rfl, l1, g1⟩⟩
theorem kASt_mkM (w : World) (base : Nat) (ok : Nat → Prop) (x : ASt) {v1 : Value} (g1 : (Kd.int .u8).R 5 w base ok v1 x.bits) : kASt.M w base ok x [.int .i64 x.pos, v1] := ⟨[.int .i64 x.pos], [v1], rfl, rfl, ⟨v1, rfl, g1⟩⟩
theorem kASt_openF {W : World} {ok : Nat → Prop} {x : ASt} {cs : List Value} (h : Kd.FK kASt W ok x cs) : ∃ A1 c1, cs = [.int .i64 x.pos, .slice A1 x.bits.length c1] ∧ x.bits.length ≤ c1 ∧ Kd.F (Kd.int .u8) W ok A1 x.bits.length x.bits := by
  obtain ⟨A1, c1, rfl, l1, _⟩ := kASt_open (Kd.FK_now h)
  exact ⟨A1, c1, rfl, l1, (fun W' hW => by obtain ⟨A1_, c1_, he, l1_, g1_⟩ := kASt_open (h W' hW); injection (Option.some.inj (show some (Value.slice A1 x.bits.length c1) = some (Value.slice A1_ x.bits.length c1_) from congrArg (fun l => l[1]?) he)) with ha_ _ _; rw [ha_]; exact g1_)⟩
theorem kASt_mkF (W : World) (ok : Nat → Prop) (x : ASt) {A1 : Option Addr} {c1 : Nat} (l1 : x.bits.length ≤ c1) (g1 : Kd.F (Kd.int .u8) W ok A1 x.bits.length x.bits) : Kd.FK kASt W ok x [.int .i64 x.pos, .slice A1 x.bits.length c1] := fun W2 hW => kASt_mk W2 x l1 (g1 W2 hW)
def rd_ASt (xs : List ASt) (i : Int) : ASt := xs.getD i.toNat zASt
theorem at_ASt {w : World} {A : Option Addr} {n : Nat} {xs : List ASt} (h : Kd.C kASt w A n xs) (i : Int) (h0 : 0 ≤ i) (h1 : i < n) : ∃ ad A1 c1, A = some ad ∧ w.cell? (ad.add (i.toNat * 2)) = some (.int .i64 (rd_ASt xs i).pos) ∧ w.cell? ⟨(ad.add (i.toNat * 2)).block, (ad.add (i.toNat * 2)).off + 1, none⟩ = some (.slice A1 (rd_ASt xs i).bits.length c1) ∧ (rd_ASt xs i).bits.length ≤ c1 ∧ (Kd.int .u8).C w A1 (rd_ASt xs i).bits.length (rd_ASt xs i).bits := by
  obtain ⟨ad, c, e, _, hK, hc0⟩ := Kd.C_get h zASt i h0 h1
  have hc : ∀ j u, c[j]? = some u → w.cell? (ad.add (i.toNat * 2 + j)) = some u := hc0
  obtain ⟨A1, c1, rfl, l1, g1⟩ := kASt_open hK
  exact ⟨ad, A1, c1, e, hc 0 _ rfl, by rw [← add_field _ _ 1 (by omega)]; exact hc 1 _ rfl, l1, g1⟩

def rd_L14 (xs : List (List ASt)) (i : Int) : (List ASt) := xs.getD i.toNat ([] : List ASt)
theorem at_L14 {w : World} {A : Option Addr} {n : Nat} {xs : List (List ASt)} (h : Kd.C (Kd.slice 73 kASt) w A n xs) (i : Int) (h0 : 0 ≤ i) (h1 : i < n) : ∃ ad A0 c0, A = some ad ∧ w.cell? (ad.add i.toNat) = some (.slice A0 (rd_L14 xs i).length c0) ∧ (rd_L14 xs i).length ≤ c0 ∧ kASt.C w A0 (rd_L14 xs i).length (rd_L14 xs i) := by
  obtain ⟨ad, c, e, _, hK, hc0⟩ := Kd.C_get h ([] : List ASt) i h0 h1
  have hc : ∀ j u, c[j]? = some u → w.cell? (ad.add (i.toNat * 1 + j)) = some u := hc0
  obtain ⟨A0, c0, rfl, l0, g0⟩ := hK
  exact ⟨ad, A0, c0, e, by have hq := hc 0 _ rfl; rwa [Nat.mul_one, Nat.add_zero] at hq, l0, g0⟩

theorem atN_L5 {w : World} {A : Option Addr} {n : Nat} {xs : List (List Int)} {x : List Int} {k : Nat} (h : Kd.C (Kd.slice 3 (Kd.int .i64)) w A n xs) (hx : xs[k]? = some x) : ∃ ad A0 c0, A = some ad ∧ w.cell? (ad.add k) = some (.slice A0 x.length c0) ∧ x.length ≤ c0 ∧ (Kd.int .i64).C w A0 x.length x := by
  obtain ⟨hk, hx'⟩ := List.getElem?_eq_some_iff.1 hx
  have hn := Kd.C_len h
  have e : rd_L5 xs (k : Int) = x := by simp [rd_L5, hx]
  have q := at_L5 h (k : Int) (by omega) (by omega)
  rw [e] at q
  exact q
theorem atN_L6 {w : World} {A : Option Addr} {n : Nat} {xs : List (List Int)} {x : List Int} {k : Nat} (h : Kd.C (Kd.slice 5 (Kd.int .u8)) w A n xs) (hx : xs[k]? = some x) : ∃ ad A0 c0, A = some ad ∧ w.cell? (ad.add k) = some (.slice A0 x.length c0) ∧ x.length ≤ c0 ∧ (Kd.int .u8).C w A0 x.length x := by
  obtain ⟨hk, hx'⟩ := List.getElem?_eq_some_iff.1 hx
  have hn := Kd.C_len h
  have e : rd_L6 xs (k : Int) = x := by simp [rd_L6, hx]
  have q := at_L6 h (k : Int) (by omega) (by omega)
  rw [e] at q
  exact q
theorem atN_Pat {w : World} {A : Option Addr} {n : Nat} {xs : List (Pat)} {x : Pat} {k : Nat} (h : Kd.C kPat w A n xs) (hx : xs[k]? = some x) : ∃ ad A4 c4, A = some ad ∧ w.cell? (ad.add (k * 5)) = some (.int .i64 x.var) ∧ w.cell? ⟨(ad.add (k * 5)).block, (ad.add (k * 5)).off + 1, none⟩ = some (.int .i64 x.op) ∧ w.cell? ⟨(ad.add (k * 5)).block, (ad.add (k * 5)).off + 2, none⟩ = some (.int .i64 x.imm) ∧ w.cell? ⟨(ad.add (k * 5)).block, (ad.add (k * 5)).off + 3, none⟩ = some (.int .i64 x.immVar) ∧ w.cell? ⟨(ad.add (k * 5)).block, (ad.add (k * 5)).off + 4, none⟩ = some (.slice A4 x.kids.length c4) ∧ x.kids.length ≤ c4 ∧ kPat.C w A4 x.kids.length x.kids := by
  obtain ⟨hk, hx'⟩ := List.getElem?_eq_some_iff.1 hx
  have hn := Kd.C_len h
  have e : rd_Pat xs (k : Int) = x := by simp [rd_Pat, hx]
  have q := at_Pat h (k : Int) (by omega) (by omega)
  rw [e] at q
  exact q
theorem atN_Mono {w : World} {A : Option Addr} {n : Nat} {xs : List (Mono)} {x : Mono} {k : Nat} (h : Kd.C kMono w A n xs) (hx : xs[k]? = some x) : ∃ ad A0 c0, A = some ad ∧ w.cell? (ad.add (k * 2)) = some (.slice A0 x.exps.length c0) ∧ w.cell? ⟨(ad.add (k * 2)).block, (ad.add (k * 2)).off + 1, none⟩ = some (.int .u64 x.coef) ∧ x.exps.length ≤ c0 ∧ (Kd.int .i64).C w A0 x.exps.length x.exps := by
  obtain ⟨hk, hx'⟩ := List.getElem?_eq_some_iff.1 hx
  have hn := Kd.C_len h
  have e : rd_Mono xs (k : Int) = x := by simp [rd_Mono, hx]
  have q := at_Mono h (k : Int) (by omega) (by omega)
  rw [e] at q
  exact q
theorem atN_L9 {w : World} {A : Option Addr} {n : Nat} {xs : List (List Mono)} {x : List Mono} {k : Nat} (h : Kd.C (Kd.slice 32 kMono) w A n xs) (hx : xs[k]? = some x) : ∃ ad A0 c0, A = some ad ∧ w.cell? (ad.add k) = some (.slice A0 x.length c0) ∧ x.length ≤ c0 ∧ kMono.C w A0 x.length x := by
  obtain ⟨hk, hx'⟩ := List.getElem?_eq_some_iff.1 hx
  have hn := Kd.C_len h
  have e : rd_L9 xs (k : Int) = x := by simp [rd_L9, hx]
  have q := at_L9 h (k : Int) (by omega) (by omega)
  rw [e] at q
  exact q
theorem atN_Cond {w : World} {A : Option Addr} {n : Nat} {xs : List (Cond)} {x : Cond} {k : Nat} (h : Kd.C kCond w A n xs) (hx : xs[k]? = some x) : ∃ ad , A = some ad ∧ w.cell? (ad.add (k * 4)) = some (.int .i64 x.kind) ∧ w.cell? ⟨(ad.add (k * 4)).block, (ad.add (k * 4)).off + 1, none⟩ = some (.int .i64 x.a) ∧ w.cell? ⟨(ad.add (k * 4)).block, (ad.add (k * 4)).off + 2, none⟩ = some (.int .i64 x.b) ∧ w.cell? ⟨(ad.add (k * 4)).block, (ad.add (k * 4)).off + 3, none⟩ = some (.int .i64 x.n) := by
  obtain ⟨hk, hx'⟩ := List.getElem?_eq_some_iff.1 hx
  have hn := Kd.C_len h
  have e : rd_Cond xs (k : Int) = x := by simp [rd_Cond, hx]
  have q := at_Cond h (k : Int) (by omega) (by omega)
  rw [e] at q
  exact q
theorem atN_L11 {w : World} {A : Option Addr} {n : Nat} {xs : List (List Cond)} {x : List Cond} {k : Nat} (h : Kd.C (Kd.slice 94 kCond) w A n xs) (hx : xs[k]? = some x) : ∃ ad A0 c0, A = some ad ∧ w.cell? (ad.add k) = some (.slice A0 x.length c0) ∧ x.length ≤ c0 ∧ kCond.C w A0 x.length x := by
  obtain ⟨hk, hx'⟩ := List.getElem?_eq_some_iff.1 hx
  have hn := Kd.C_len h
  have e : rd_L11 xs (k : Int) = x := by simp [rd_L11, hx]
  have q := at_L11 h (k : Int) (by omega) (by omega)
  rw [e] at q
  exact q
theorem atN_Rule {w : World} {A : Option Addr} {n : Nat} {xs : List (Rule)} {x : Rule} {k : Nat} (h : Kd.C kRule w A n xs) (hx : xs[k]? = some x) : ∃ ad A5 c5 A10 c10 A11 c11, A = some ad ∧ w.cell? (ad.add (k * 14)) = some (.string x.name) ∧ w.cell? ⟨(ad.add (k * 14)).block, (ad.add (k * 14)).off + 1, none⟩ = some (.int .i64 x.left.var) ∧ w.cell? ⟨(ad.add (k * 14)).block, (ad.add (k * 14)).off + 2, none⟩ = some (.int .i64 x.left.op) ∧ w.cell? ⟨(ad.add (k * 14)).block, (ad.add (k * 14)).off + 3, none⟩ = some (.int .i64 x.left.imm) ∧ w.cell? ⟨(ad.add (k * 14)).block, (ad.add (k * 14)).off + 4, none⟩ = some (.int .i64 x.left.immVar) ∧ w.cell? ⟨(ad.add (k * 14)).block, (ad.add (k * 14)).off + 5, none⟩ = some (.slice A5 x.left.kids.length c5) ∧ w.cell? ⟨(ad.add (k * 14)).block, (ad.add (k * 14)).off + 6, none⟩ = some (.int .i64 x.right.var) ∧ w.cell? ⟨(ad.add (k * 14)).block, (ad.add (k * 14)).off + 7, none⟩ = some (.int .i64 x.right.op) ∧ w.cell? ⟨(ad.add (k * 14)).block, (ad.add (k * 14)).off + 8, none⟩ = some (.int .i64 x.right.imm) ∧ w.cell? ⟨(ad.add (k * 14)).block, (ad.add (k * 14)).off + 9, none⟩ = some (.int .i64 x.right.immVar) ∧ w.cell? ⟨(ad.add (k * 14)).block, (ad.add (k * 14)).off + 10, none⟩ = some (.slice A10 x.right.kids.length c10) ∧ w.cell? ⟨(ad.add (k * 14)).block, (ad.add (k * 14)).off + 11, none⟩ = some (.slice A11 x.conds.length c11) ∧ w.cell? ⟨(ad.add (k * 14)).block, (ad.add (k * 14)).off + 12, none⟩ = some (.int .i64 x.vars) ∧ w.cell? ⟨(ad.add (k * 14)).block, (ad.add (k * 14)).off + 13, none⟩ = some (.int .i64 x.immVars) ∧ x.left.kids.length ≤ c5 ∧ kPat.C w A5 x.left.kids.length x.left.kids ∧ x.right.kids.length ≤ c10 ∧ kPat.C w A10 x.right.kids.length x.right.kids ∧ x.conds.length ≤ c11 ∧ kCond.C w A11 x.conds.length x.conds := by
  obtain ⟨hk, hx'⟩ := List.getElem?_eq_some_iff.1 hx
  have hn := Kd.C_len h
  have e : rd_Rule xs (k : Int) = x := by simp [rd_Rule, hx]
  have q := at_Rule h (k : Int) (by omega) (by omega)
  rw [e] at q
  exact q
theorem atN_ASt {w : World} {A : Option Addr} {n : Nat} {xs : List (ASt)} {x : ASt} {k : Nat} (h : Kd.C kASt w A n xs) (hx : xs[k]? = some x) : ∃ ad A1 c1, A = some ad ∧ w.cell? (ad.add (k * 2)) = some (.int .i64 x.pos) ∧ w.cell? ⟨(ad.add (k * 2)).block, (ad.add (k * 2)).off + 1, none⟩ = some (.slice A1 x.bits.length c1) ∧ x.bits.length ≤ c1 ∧ (Kd.int .u8).C w A1 x.bits.length x.bits := by
  obtain ⟨hk, hx'⟩ := List.getElem?_eq_some_iff.1 hx
  have hn := Kd.C_len h
  have e : rd_ASt xs (k : Int) = x := by simp [rd_ASt, hx]
  have q := at_ASt h (k : Int) (by omega) (by omega)
  rw [e] at q
  exact q
theorem atN_L14 {w : World} {A : Option Addr} {n : Nat} {xs : List (List ASt)} {x : List ASt} {k : Nat} (h : Kd.C (Kd.slice 73 kASt) w A n xs) (hx : xs[k]? = some x) : ∃ ad A0 c0, A = some ad ∧ w.cell? (ad.add k) = some (.slice A0 x.length c0) ∧ x.length ≤ c0 ∧ kASt.C w A0 x.length x := by
  obtain ⟨hk, hx'⟩ := List.getElem?_eq_some_iff.1 hx
  have hn := Kd.C_len h
  have e : rd_L14 xs (k : Int) = x := by simp [rd_L14, hx]
  have q := at_L14 h (k : Int) (by omega) (by omega)
  rw [e] at q
  exact q
theorem atN_int {w : World} {A : Option Addr} {n : Nat} {xs : List Int} {x : Int} {k : Nat} {q : IntKind} (h : Kd.C (Kd.int q) w A n xs) (hx : xs[k]? = some x) : ∃ ad, A = some ad ∧ w.cell? (ad.add k) = some (.int q x) := by
  obtain ⟨hk, hx'⟩ := List.getElem?_eq_some_iff.1 hx
  have hn := Kd.C_len h
  obtain ⟨ad, e, q⟩ := Kd.at_int h (k : Int) (by omega) (by omega)
  refine ⟨ad, e, q.trans ?_⟩
  simp [rd, rdOf, List.getD_eq_getElem?_getD, hx]
theorem atN_bool {w : World} {A : Option Addr} {n : Nat} {xs : List Bool} {x : Bool} {k : Nat} (h : Kd.C Kd.bool w A n xs) (hx : xs[k]? = some x) : ∃ ad, A = some ad ∧ w.cell? (ad.add k) = some (.bool x) := by
  obtain ⟨hk, hx'⟩ := List.getElem?_eq_some_iff.1 hx
  have hn := Kd.C_len h
  obtain ⟨ad, e, q⟩ := Kd.at_bool h (k : Int) (by omega) (by omega)
  refine ⟨ad, e, q.trans ?_⟩
  simp [rd, rdOf, List.getD_eq_getElem?_getD, hx]
theorem atN_string {w : World} {A : Option Addr} {n : Nat} {xs : List ByteArray} {x : ByteArray} {k : Nat} (h : Kd.C Kd.string w A n xs) (hx : xs[k]? = some x) : ∃ ad, A = some ad ∧ w.cell? (ad.add k) = some (.string x) := by
  obtain ⟨hk, hx'⟩ := List.getElem?_eq_some_iff.1 hx
  have hn := Kd.C_len h
  obtain ⟨ad, e, q⟩ := Kd.at_string h (k : Int) (by omega) (by omega)
  refine ⟨ad, e, q.trans ?_⟩
  simp [rd, rdOf, List.getD_eq_getElem?_getD, hx]

end Go.Proofs.Ytmdahjmkfipdfaa
