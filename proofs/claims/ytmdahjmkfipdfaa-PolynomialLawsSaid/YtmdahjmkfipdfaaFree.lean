/- A region that draws its order, each of whose operations only adds to what is known: one step for each operation, whatever the order. Plain Lean. -/
import Derived.Test.YtmdahjmkfipdfaaWLast
namespace Go.Proofs.Ytmdahjmkfipdfaa
set_option linter.unusedVariables false
set_option linter.unusedSimpArgs false
open Go
section
variable {P : Program} {ops : Array Oper} {Q : Exit → Act → World → Prop}
/-- What is known of operation i: it was so at a state (the operations' values, the world) from which the present one follows. -/
def Known (R : (Nat → Value) → World → (Nat → Value) → World → Prop) (G : List ((Nat → Value) → World → Prop)) (vs : Nat → Value) (w : World) (i : Nat) : Prop := ∃ vs1 w1, R vs1 w1 vs w ∧ vs i = vs1 i ∧ G.getD i (fun _ _ => True) vs1 w1
def updV (vs : Nat → Value) (i : Nat) (v : Value) : Nat → Value := fun j => if j = i then v else vs j
def befores (ops : Array Oper) (i : Nat) : List Nat := match ops[i]? with | some o => (o.after.toList.filter (Region.binds .any)).map (·.on) | none => []
/-- Each edge that binds leads back. -/
def edgesB (ops : Array Oper) : Bool := (List.range ops.size).all fun j => (befores ops j).all (· < j)
/-- The slots that the operations fill. -/
def slotsOf (ops : Array Oper) : List (Nat × Nat) := (List.range ops.size).filterMap fun i => ((ops[i]?).bind (·.dst)).map fun d => (d, i)
def slotsB (ops : Array Oper) : Bool := decide ((slotsOf ops).map (·.1)).Nodup
def putVs : List (Nat × Nat) → (Nat → Value) → Act → Act
  | [], _, a => a
  | (d, i) :: l, vs, a => (putVs l vs a).put (some d) (vs i)
theorem putVs_start (a : Act) : ∀ (l : List (Nat × Nat)) (vs : Nat → Value), (∀ p ∈ l, vs p.2 = a.tmps.getD p.1 undef) → putVs l vs a = a
  | [], _, _ => rfl
  | (d, i) :: l, vs, h => by
    rw [putVs, putVs_start a l vs (fun p hp => h p (List.mem_cons_of_mem _ hp)), h (d, i) (by simp)]
    cases a with
    | mk tmps defers =>
      show Act.mk _ _ = _
      congr 1
      apply Array.ext'
      rw [Array.toList_setIfInBounds]
      by_cases hd : d < tmps.size
      · rw [show tmps.getD d undef = tmps.toList[d]'(by simpa using hd) by simp [Array.getD, hd]]
        exact List.set_getElem_self _
      · rw [List.set_eq_of_length_le (by simpa using hd)]
theorem putVs_other (a : Act) (i : Nat) (v : Value) : ∀ (l : List (Nat × Nat)) (vs : Nat → Value), (∀ p ∈ l, p.2 ≠ i) → putVs l (updV vs i v) a = putVs l vs a
  | [], _, _ => rfl
  | (d, j) :: l, vs, h => by
    have hj : j ≠ i := h (d, j) (by simp)
    rw [putVs, putVs, putVs_other a i v l vs (fun p hp => h p (List.mem_cons_of_mem _ hp)), updV, if_neg hj]
theorem putVs_put (a : Act) (i d : Nat) (v : Value) : ∀ (l : List (Nat × Nat)) (vs : Nat → Value), (l.map (·.1)).Nodup → (l.map (·.2)).Nodup → (d, i) ∈ l → (putVs l vs a).put (some d) v = putVs l (updV vs i v) a
  | [], _, _, _, h => by cases h
  | (d', j) :: l, vs, h1, h2, h => by
    rw [List.map_cons, List.nodup_cons] at h1 h2
    rcases List.mem_cons.1 h with e | h
    · injection e with e1 e2
      subst e1 e2
      have hne : ∀ p ∈ l, p.2 ≠ i := fun p hp e => h2.1 (by rw [← e]; exact List.mem_map_of_mem (f := (·.2)) hp)
      rw [putVs, putVs, putVs_other a i v l vs hne, updV, if_pos rfl]
      show Act.mk _ _ = Act.mk _ _
      simp [Act.put]
    · have hd : d ≠ d' := fun e => h1.1 (by rw [← e]; exact List.mem_map_of_mem (f := (·.1)) h)
      have hj : j ≠ i := fun e => h2.1 (by rw [e]; exact List.mem_map_of_mem (f := (·.2)) h)
      rw [putVs, putVs, ← putVs_put a i d v l vs h1.2 h2.2 h, updV, if_neg hj]
      exact (Act.put_comm _ _ _ (fun x hx hy => hd (by cases hx; cases hy; rfl))).symm
theorem slots_mem {i d : Nat} {o : Oper} (hi : ops[i]? = some o) (hd : o.dst = some d) : (d, i) ∈ slotsOf ops := by
  refine List.mem_filterMap.2 ⟨i, List.mem_range.2 (Array.getElem?_eq_some_iff.1 hi).1, ?_⟩
  rw [hi]
  simp [hd]
theorem slots_nodup2 (ops : Array Oper) : ((slotsOf ops).map (·.2)).Nodup := by
  have : ∀ l : List Nat, l.Nodup → ((l.filterMap fun i => ((ops[i]?).bind (·.dst)).map fun d => (d, i)).map (·.2)).Nodup := by
    intro l
    induction l with
    | nil => intro _; simp
    | cons i l ih =>
      intro h
      rw [List.nodup_cons] at h
      rw [List.filterMap_cons]
      cases hx : (((ops[i]?).bind (·.dst)).map fun d => (d, i)) with
      | none => exact ih h.2
      | some p =>
        rw [List.map_cons, List.nodup_cons]
        refine ⟨fun hm => ?_, ih h.2⟩
        obtain ⟨q, hq, e⟩ := List.mem_map.1 hm
        obtain ⟨k, hk, hq'⟩ := List.mem_filterMap.1 hq
        have h1 : p.2 = i := by
          cases hb : (ops[i]?).bind (·.dst) with
          | none => rw [hb] at hx; cases hx
          | some d => rw [hb] at hx; cases hx; rfl
        have h2 : q.2 = k := by
          cases hb : (ops[k]?).bind (·.dst) with
          | none => rw [hb] at hq'; cases hq'
          | some d => rw [hb] at hq'; cases hq'; rfl
        exact h.1 (by rw [← h1, ← e, h2]; exact hk)
  exact this _ List.nodup_range
/-- The operations' values ahead of the region. -/
def vs0 (ops : Array Oper) (a0 : Act) (i : Nat) : Value := match (ops[i]?).bind (·.dst) with | some d => a0.tmps.getD d undef | none => undef
def FreeStep (P : Program) (ops : Array Oper) (Q : Exit → Act → World → Prop) (R : (Nat → Value) → World → (Nat → Value) → World → Prop) (G : List ((Nat → Value) → World → Prop)) (a0 : Act) (fr : (Nat → Value) → Act) (w0 : World) (i : Nat) : Prop :=
  ∀ vs w, R (vs0 ops a0) w0 vs w → vs i = vs0 ops a0 i → (∀ j ∈ befores ops i, Known R G vs w j) → ∀ K : Act → World → Prop,
    (∀ o, ops[i]? = some o → ∀ v w', R vs w (updV vs i v) w' → G.getD i (fun _ _ => True) (updV vs i v) w' → K ((fr vs).put o.dst v) w') → wpOp P ops Q i K (fr vs) w
theorem count_set {n : Nat} {listed : Array Bool} {i : Nat} (hs : listed.size = n) (hi : listed.getD i true = false) :
    ((List.range n).countP fun j => !(listed.setIfInBounds i true).getD j true) + 1 = (List.range n).countP fun j => !listed.getD j true := by
  have hlt : i < n := by
    rcases Nat.lt_or_ge i listed.size with h | h
    · omega
    · simp [Array.getElem?_eq_none h] at hi
  have key : ∀ l : List Nat, l.Nodup → i ∈ l → (l.countP fun j => !(listed.setIfInBounds i true).getD j true) + 1 = l.countP fun j => !listed.getD j true := by
    intro l
    induction l with
    | nil => intro _ h; cases h
    | cons x l ih =>
      intro hn hm
      rw [List.nodup_cons] at hn
      rw [List.countP_cons, List.countP_cons]
      by_cases hx : x = i
      · subst hx
        have h1 : (listed.setIfInBounds x true).getD x true = true := by simp [show x < listed.size by omega]
        have h2 : ∀ l : List Nat, x ∉ l → (l.countP fun j => !(listed.setIfInBounds x true).getD j true) = l.countP fun j => !listed.getD j true := fun l hl =>
          List.countP_congr fun y hy => by rw [getD_set_ne true (fun e => hl (by rw [e]; exact hy))]
        rw [h1, hi, h2 l hn.1]
        simp
      · have h1 := ih hn.2 ((List.mem_cons.1 hm).resolve_left (fun e => hx e.symm))
        rw [getD_set_ne true (Ne.symm hx)]
        omega
  exact key _ List.nodup_range (List.mem_range.2 hlt)
theorem befores_ready {i : Nat} {o : Oper} {listed : Array Bool} (hi : ops[i]? = some o) (hall : ∀ e ∈ o.after, Region.binds .any e = true → listed.getD e.on false = true) : ∀ j ∈ befores ops i, listed.getD j false = true := by
  intro j hj
  simp only [befores, hi] at hj
  obtain ⟨e, he, rfl⟩ := List.mem_map.1 hj
  obtain ⟨he, hb⟩ := List.mem_filter.1 he
  exact hall e (Array.mem_toList_iff.1 he) hb
theorem ready_of_befores {i : Nat} {listed : Array Bool} (hlt : i < ops.size) (hun : listed.getD i true = false) (h : ∀ j ∈ befores ops i, listed.getD j false = true) : i ∈ Region.ready .any ops listed := by
  obtain ⟨o, hi⟩ : ∃ o, ops[i]? = some o := ⟨_, Array.getElem?_eq_getElem hlt⟩
  refine mem_ready.2 ⟨hun, o, hi, fun e he hb => h _ ?_⟩
  simp only [befores, hi]
  exact List.mem_map.2 ⟨e, List.mem_filter.2 ⟨Array.mem_toList_iff.2 he, hb⟩, rfl⟩
theorem all_listed {listed : Array Bool} (hs : listed.size = ops.size) (he : edgesB ops = true) (hr : Region.ready .any ops listed = []) : ∀ i < ops.size, listed.getD i false = true := by
  intro i
  induction i using Nat.strongRecOn with
  | ind i ih =>
    intro hi
    cases hl : listed.getD i true with
    | true => simpa [show i < listed.size by omega] using hl
    | false =>
      have := ready_of_befores hi hl fun j hj => by
        have h1 := List.all_eq_true.1 (List.all_eq_true.1 he i (List.mem_range.2 hi)) j hj
        have h1 : j < i := by simpa using h1
        exact ih j h1 (by omega)
      rw [hr] at this
      cases this
theorem free_sound {R : (Nat → Value) → World → (Nat → Value) → World → Prop} {G : List ((Nat → Value) → World → Prop)} {a0 : Act} {w0 : World} (hR : ∀ v1 w1 v2 w2 v3 w3, R v1 w1 v2 w2 → R v2 w2 v3 w3 → R v1 w1 v3 w3) (hRr : ∀ v w, R v w v w)
    (he : edgesB ops = true) (hsl : slotsB ops = true) (hstep : ∀ i < ops.size, FreeStep P ops Q R G a0 (fun vs => putVs (slotsOf ops) vs a0) w0 i)
    (hend : ∀ vs w, R (vs0 ops a0) w0 vs w → (∀ i < ops.size, Known R G vs w i) → Q .normal (putVs (slotsOf ops) vs a0) w) :
    ∀ (fuel : Nat) (listed : Array Bool) (vs : Nat → Value) (w : World), listed.size = ops.size → ((List.range ops.size).countP fun j => !listed.getD j true) ≤ fuel → R (vs0 ops a0) w0 vs w →
      (∀ i, listed.getD i true = false → vs i = vs0 ops a0 i) → (∀ i, listed.getD i false = true → Known R G vs w i) → wpAny P .any ops Q fuel listed (putVs (slotsOf ops) vs a0) w := by
  have hfin : ∀ (listed : Array Bool) (vs : Nat → Value) (w : World), listed.size = ops.size → R (vs0 ops a0) w0 vs w → (∀ i, listed.getD i false = true → Known R G vs w i) → Region.ready .any ops listed = [] → Q .normal (putVs (slotsOf ops) vs a0) w :=
    fun listed vs w hs hw hk hr => hend vs w hw fun i hi => hk i (all_listed hs he hr i hi)
  intro fuel
  induction fuel with
  | zero =>
    intro listed vs w hs hc hw hu hk
    have hr : Region.ready .any ops listed = [] := by
      cases h : Region.ready .any ops listed with
      | nil => rfl
      | cons i l =>
        have hi : i ∈ Region.ready .any ops listed := by rw [h]; simp
        obtain ⟨h0, o, ho, _⟩ := mem_ready.1 hi
        have := count_set hs h0
        omega
    exact ⟨hr, hfin listed vs w hs hw hk hr⟩
  | succ fuel ih =>
    intro listed vs w hs hc hw hu hk
    refine ⟨hfin listed vs w hs hw hk, fun i hi => ?_⟩
    obtain ⟨h0, o, ho, hall⟩ := mem_ready.1 hi
    have hcs := count_set hs h0
    refine hstep i (Array.getElem?_eq_some_iff.1 ho).1 vs w hw (hu i h0) (fun j hj => hk j (befores_ready ho hall j hj)) _ fun o' ho' v w' hww hg => ?_
    cases ho.symm.trans ho'
    have ht : (putVs (slotsOf ops) vs a0).put o.dst v = putVs (slotsOf ops) (updV vs i v) a0 := by
      cases hd : o.dst with
      | some d => exact putVs_put a0 i d v _ vs (by simpa [slotsB] using hsl) (slots_nodup2 ops) (slots_mem ho hd)
      | none =>
        refine (putVs_other a0 i v _ vs fun p hp e => ?_).symm
        obtain ⟨k, hk, hp⟩ := List.mem_filterMap.1 hp
        cases hb : (ops[k]?).bind (·.dst) with
        | none => rw [hb] at hp; cases hp
        | some d =>
          rw [hb] at hp
          cases hp
          cases e
          rw [ho] at hb
          simp [hd] at hb
    rw [ht]
    refine ih _ _ _ (by simpa using hs) (by omega) (hR _ _ _ _ _ _ hw hww) (fun j hj => ?_) fun j hj => ?_
    · by_cases hji : j = i
      · subst hji
        simp [show j < listed.size by rw [hs]; exact (Array.getElem?_eq_some_iff.1 ho).1] at hj
      · rw [getD_set_ne true (Ne.symm hji)] at hj
        rw [updV, if_neg hji]
        exact hu j hj
    · by_cases hji : j = i
      · subst hji
        exact ⟨_, w', hRr _ _, rfl, hg⟩
      · rw [getD_set_ne false (Ne.symm hji)] at hj
        obtain ⟨v1, w1, h1, h3, h2⟩ := hk j hj
        exact ⟨v1, w1, hR _ _ _ _ _ _ h1 hww, by rw [updV, if_neg hji]; exact h3, h2⟩
def KnownAll (R : (Nat → Value) → World → (Nat → Value) → World → Prop) (G : List ((Nat → Value) → World → Prop)) (vs : Nat → Value) (w : World) : List Nat → Prop
  | [] => True
  | i :: l => Known R G vs w i ∧ KnownAll R G vs w l
theorem knownAll_of {R : (Nat → Value) → World → (Nat → Value) → World → Prop} {G : List ((Nat → Value) → World → Prop)} {vs : Nat → Value} {w : World} : ∀ {l : List Nat}, (∀ i ∈ l, Known R G vs w i) → KnownAll R G vs w l
  | [], _ => trivial
  | i :: _, h => ⟨h i (by simp), knownAll_of fun j hj => h j (List.mem_cons_of_mem _ hj)⟩
/-- The steps of the operations of a list. -/
def FreeSteps (P : Program) (ops : Array Oper) (Q : Exit → Act → World → Prop) (R : (Nat → Value) → World → (Nat → Value) → World → Prop) (G : List ((Nat → Value) → World → Prop)) (a0 : Act) (fr : (Nat → Value) → Act) (w0 : World) (l : List Nat) : Prop := ∀ i ∈ l, FreeStep P ops Q R G a0 fr w0 i
theorem FreeSteps.nil {R : (Nat → Value) → World → (Nat → Value) → World → Prop} {G : List ((Nat → Value) → World → Prop)} {a0 : Act} {fr : (Nat → Value) → Act} {w0 : World} : FreeSteps P ops Q R G a0 fr w0 [] := fun _ h => by cases h
theorem FreeSteps.cons {R : (Nat → Value) → World → (Nat → Value) → World → Prop} {G : List ((Nat → Value) → World → Prop)} {a0 : Act} {fr : (Nat → Value) → Act} {w0 : World} {i : Nat} {o : Oper} {N : Option Tmp} {l bs : List Nat} {g : (Nat → Value) → World → Prop} {v0 : Value}
    (hi : ops[i]? = some o) (hN : o.dst = N) (hb : (bs.all fun j => (befores ops i).contains j) = true) (hg : G.getD i (fun _ _ => True) = g) (h0 : vs0 ops a0 i = v0)
    (h : ∀ vs w, R (vs0 ops a0) w0 vs w → vs i = v0 → KnownAll R G vs w bs → ∀ K : Act → World → Prop, Shut (∀ v w', R vs w (updV vs i v) w' → g (updV vs i v) w' → K ((fr vs).put N v) w') →
      if Region.wanted o (yielded ops (fr vs).tmps) = true then Oper.wp P o (fr vs) w K Q else K ((fr vs).put N undef) w)
    (hs : FreeSteps P ops Q R G a0 fr w0 l) : FreeSteps P ops Q R G a0 fr w0 (i :: l) := fun j hj => by
  subst hg
  subst hN
  subst h0
  rcases List.mem_cons.1 hj with rfl | hj
  · intro vs w hw hv hk K hK
    exact wpOp_step hi fun K' hK' => h vs w hw hv (knownAll_of fun j hj => hk j (by simpa using List.all_eq_true.1 hb j hj)) K' (fun v w' h1 h2 => hK' _ _ (hK o hi v w' h1 h2))
  · exact hs j hj
/-- A region that draws its order, by what each operation adds. fr: the act with the operations' slots told by vs. -/
theorem free_ {R : (Nat → Value) → World → (Nat → Value) → World → Prop} (G : List ((Nat → Value) → World → Prop)) {id n : Nat} {a0 : Act} {w : World} {fr : (Nat → Value) → Act} {sl : List (Nat × Nat)} (hm : P.follows .mixedOrders = true) (hn : ops.size = n)
    (hsl : slotsOf ops = sl) (hfr : ∀ vs, putVs sl vs a0 = fr vs) (hR : ∀ v1 w1 v2 w2 v3 w3, R v1 w1 v2 w2 → R v2 w2 v3 w3 → R v1 w1 v3 w3) (hRr : ∀ v w, R v w v w) (hB : (edgesB ops && slotsB ops) = true)
    (hstep : FreeSteps P ops Q R G a0 fr w.drew (List.range n)) (hend : ∀ vs w', R (vs0 ops a0) w.drew vs w' → KnownAll R G vs w' (List.range n) → Q .normal (fr vs) w') : (Code.region id ops true).wp P Q a0 w := by
  subst hn
  subst hsl
  have hfr' : fr = fun vs => putVs (slotsOf ops) vs a0 := funext fun vs => (hfr vs).symm
  subst hfr'
  rw [Bool.and_eq_true] at hB
  refine wp_region_any hm ?_
  have h := free_sound (P := P) (Q := Q) (R := R) (G := G) (a0 := a0) (w0 := w.drew) hR hRr hB.1 hB.2 (fun i hi => hstep i (List.mem_range.2 hi)) (fun vs w' h1 h2 => hend vs w' h1 (knownAll_of fun i hi => h2 i (List.mem_range.1 hi)))
    ops.size (Array.replicate ops.size false) (vs0 ops a0) w.drew (by simp) (Nat.le_trans List.countP_le_length (by simp)) (hRr _ _) (fun _ _ => rfl) (fun i hi => by
      by_cases h : i < ops.size
      · simp [h] at hi
      · simp [Array.getElem?_eq_none (show (Array.replicate ops.size false).size ≤ i by simpa using h)] at hi)
  rw [putVs_start] at h
  · exact h
  · intro p hp
    obtain ⟨k, hk, hp⟩ := List.mem_filterMap.1 hp
    cases hb : (ops[k]?).bind (·.dst) with
    | none => rw [hb] at hp; cases hp
    | some d =>
      rw [hb] at hp
      cases hp
      show vs0 ops a0 k = _
      rw [vs0, hb]
end
end Go.Proofs.Ytmdahjmkfipdfaa
