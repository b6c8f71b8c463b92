/- A region whose order is open: what only reads goes first, in a list's order; then the rest, in a list's order. -/
import Derived.StillTailTactics
namespace Go.Proofs.Ytjbhcmkloamcmaa

section
variable {P : Program} {ops : Array Oper} {w : World}

/-- Operation t waits for operation i, over at most so many others. -/
def waits (ops : Array Oper) : Nat → Nat → Nat → Bool
  | 0, _, _ => false
  | f + 1, t, i => match ops[t]? with
    | some o => o.after.any fun e => Region.binds .any e && (e.on == i || waits ops f e.on i)
    | none => false

def Closed (ops : Array Oper) (listed : Array Bool) : Prop := ∀ j oj, ops[j]? = some oj → listed.getD j false = true → ∀ e ∈ oj.after, Region.binds .any e = true → listed.getD e.on false = true

theorem waits_spec {listed : Array Bool} (hc : Closed ops listed) : ∀ (f t i : Nat), waits ops f t i = true → (∀ o, ops[t]? = some o → ∀ e ∈ o.after, Region.binds .any e = true → listed.getD e.on false = true) → listed.getD i false = true
  | 0, _, _, h, _ => by simp [waits] at h
  | f + 1, t, i, h, k => by
    unfold waits at h
    split at h
    · rename_i o ho
      obtain ⟨e, he, hb⟩ := Array.any_eq_true'.1 h
      simp only [Bool.and_eq_true, Bool.or_eq_true, beq_iff_eq] at hb
      have hl := k o ho e he hb.1
      rcases hb.2 with rfl | h2
      · exact hl
      · exact waits_spec hc f e.on i h2 fun o' ho' e' he' hb' => hc e.on o' ho' hl e' he' hb'
    · cases h

structure HInv (ops : Array Oper) (ps ts : List Nat) (listed : Array Bool) : Prop where
  size : listed.size = ops.size
  closed : Closed ops listed
  tail : ∀ t ∈ ts, listed.getD t true = false
  done : ∀ p ∈ ps, listed.getD p false = true

theorem HInv.set {ps ts : List Nat} {i : Nat} {listed : Array Bool} (inv : HInv ops ps ts listed) (hi : i ∈ Region.ready .any ops listed) (hin : i ∉ ts) : HInv ops ps ts (listed.setIfInBounds i true) := by
  obtain ⟨_, oi, hoi, hall⟩ := mem_ready.1 hi
  refine ⟨by simp [inv.size], fun j oj hj hl e he hb => ?_, fun t ht => by rw [getD_set_ne true (fun e : i = t => hin (by rw [e]; exact ht))]; exact inv.tail t ht, fun p hp => getD_set_true (inv.done p hp)⟩
  by_cases hij : i = j
  · subst hij
    have : oj = oi := Option.some.inj (hj.symm.trans hoi)
    subst this
    exact getD_set_true (hall e he hb)
  · rw [getD_set_ne false hij] at hl
    exact getD_set_true (inv.closed j oj hj hl e he hb)

/-- Every one of the second list waits for every one of the first; every operation is in one of them. -/
def partB (ops : Array Oper) (ps hs ts : List Nat) : Bool :=
  Region.noSelect ops && ((List.range ops.size).all fun j => hs.contains j || ts.contains j || ps.contains j) && (hs.all fun i => !ts.contains i && decide (i < ops.size)) && ts.all fun t => hs.all fun i => waits ops ops.size t i

theorem part_ready {ps hs ts : List Nat} {listed : Array Bool} (hp : partB ops ps hs ts = true) (inv : HInv ops ps ts listed) {i : Nat} (hi : i ∈ hs) (hun : listed.getD i true = false) : ∀ j ∈ Region.ready .any ops listed, j ∈ hs := by
  intro j hj
  simp only [partB, Bool.and_eq_true, List.all_eq_true, List.mem_range, Bool.or_eq_true, List.contains_iff_mem] at hp
  obtain ⟨_, oj, hoj, hall⟩ := mem_ready.1 hj
  have hlt : j < ops.size := (Array.getElem?_eq_some_iff.1 hoj).1
  rcases hp.1.1.2 j hlt with (h | h) | h
  · exact h
  · exfalso
    have h2 := waits_spec inv.closed _ _ _ (hp.2 j h i hi) fun o ho e he hb => by
      have : o = oj := Option.some.inj (ho.symm.trans hoj)
      subst this
      exact hall e he hb
    rw [getD_both hun] at h2
    cases h2
  · have h1 := (mem_ready.1 hj).1
    have h2 := inv.done j h
    rw [getD_both h1] at h2
    cases h2

def wpAnyP (P : Program) (ops : Array Oper) (w : World) (hs : List Nat) (L : Array Bool → Act → Prop) : Nat → Array Bool → Act → Prop
  | 0, listed, a => L listed a
  | f + 1, listed, a => Region.ready .any ops listed ≠ [] ∧ ∀ i ∈ Region.ready .any ops listed, i ∈ hs ∧ stOp P ops w i (wpAnyP P ops w hs L f (listed.setIfInBounds i true)) a

theorem wpAny_of_headP {hs : List Nat} {g : Nat} {L : Array Bool → Act → Prop} {Q' : Exit → Act → World → Prop} (hL : ∀ listed a, L listed a → wpAny P .any ops Q' g listed a w) :
    ∀ (f : Nat) (listed : Array Bool) (a : Act), wpAnyP P ops w hs L f listed a → wpAny P .any ops Q' (f + g) listed a w
  | 0, listed, a, h => by rw [Nat.zero_add]; exact hL _ _ h
  | f + 1, listed, a, h => by
    rw [show f + 1 + g = (f + g) + 1 by omega]
    exact ⟨fun h0 => absurd h0 h.1, fun i hi => wpOp_of_stOp (fun a' h' => wpAny_of_headP hL f _ a' h') (h.2 i hi).2⟩

theorem wpAnyP_first {ps hs ts : List Nat} {i : Nat} {oi : Oper} {v : Value} {L : Array Bool → Act → Prop} (hi : ops[i]? = some oi) (hsel : ∀ (j : Nat) (o : Oper) cs b, ops[j]? = some o → o.op ≠ .select cs b)
    (hp : partB ops ps hs ts = true) (hin : i ∈ hs) (hdone : ∀ listed a, L listed a → ∀ j ∈ Region.ready .any ops listed, j ∉ hs) :
    ∀ (f : Nat) (listed : Array Bool) (a : Act), HInv ops ps ts listed →
      (∀ j oj, ops[j]? = some oj → j ≠ i → listed.getD j true = false → (∀ e ∈ oj.after, Region.binds .any e = true → e.on ≠ i) → oi.apart ops oj = true) →
      i ∈ Region.ready .any ops listed → YieldsAt P ops w oi v a →
      wpAnyP P ops w hs L f (listed.setIfInBounds i true) (a.put oi.dst v) → wpAnyP P ops w hs L (f + 1) listed a := by
  have hnt : ∀ j ∈ hs, j ∉ ts := fun j hj ht => by
    simp only [partB, Bool.and_eq_true, List.all_eq_true] at hp
    have := hp.1.2 j hj
    simp [ht] at this
  intro f
  induction f with
  | zero =>
    intro listed a inv _ hr hy H
    have hun := (mem_ready.1 hr).1
    refine ⟨fun h => (by rw [h] at hr; cases hr), fun j hj => ?_⟩
    have hjn := part_ready hp inv hin hun j hj
    refine ⟨hjn, ?_⟩
    by_cases hji : j = i
    · subst hji; exact hy.stOp hi H
    · exact absurd hjn (hdone _ _ H j (ready_mono hj hji))
  | succ f ih =>
    intro listed a inv hfree hr hy H
    have hun := (mem_ready.1 hr).1
    refine ⟨fun h => (by rw [h] at hr; cases hr), fun j hj => ?_⟩
    have hjn := part_ready hp inv hin hun j hj
    refine ⟨hjn, ?_⟩
    by_cases hji : j = i
    · subst hji; exact hy.stOp hi H
    · have h1 := (H.2 j (ready_mono hj hji)).2
      obtain ⟨hjun, oj, hoj, hall⟩ := mem_ready.1 hj
      have hnot : ∀ e ∈ oj.after, Region.binds .any e = true → e.on ≠ i := fun e he hb heq => by
        have h1 := hall e he hb
        rw [heq, getD_both hun] at h1
        cases h1
      have h2 := stOp_put hoj (hfree j oj hoj hji hjun hnot) (fun cs b => hsel i oi cs b hi) (fun cs b => hsel j oj cs b hoj) hy h1
      have hfree' : ∀ k ok, ops[k]? = some ok → k ≠ i → (listed.setIfInBounds j true).getD k true = false →
          (∀ e ∈ ok.after, Region.binds .any e = true → e.on ≠ i) → oi.apart ops ok = true := fun k ok hk hki hun hno => by
        refine hfree k ok hk hki ?_ hno
        by_cases hjk : j = k
        · subst hjk; exact hjun
        · rw [getD_set_ne true hjk] at hun; exact hun
      refine stOp_mono (fun a' h3 => ih (listed.setIfInBounds j true) a' (inv.set hj (hnt j hjn)) hfree' (ready_mono hr (Ne.symm hji)) h3.1 ?_) h2
      rw [Array.setIfInBounds_comm _ _ hji]
      exact h3.2

/-- The rest: one behind the other. -/
def seqL (ops : Array Oper) : List Nat → Array Bool → Bool
  | [], listed => (Region.ready .any ops listed).isEmpty
  | k :: ks, listed => decide (Region.ready .any ops listed = [k]) && seqL ops ks (listed.setIfInBounds k true)
theorem wpAny_of_seqL {Q' : Exit → Act → World → Prop} {l : List Oper} (hl : ops = l.toArray) : ∀ (ks : List Nat) (listed : Array Bool) (a : Act) (w : World),
    seqL ops ks listed = true → wpList P ops Q' (ks.map fun k => l.getD k default) a w → wpAny P .any ops Q' ks.length listed a w
  | [], _, _, _, hB, h => ⟨by simpa [seqL] using hB, h⟩
  | k :: ks, listed, a, w, hB, h => by
    simp only [seqL, Bool.and_eq_true, decide_eq_true_eq] at hB
    refine ⟨fun h1 => (by rw [hB.1] at h1; cases h1), fun i hi => ?_⟩
    obtain ⟨_, o, ho, _⟩ := mem_ready.1 hi
    rw [hB.1] at hi
    have hik : i = k := by simpa using hi
    subst hik
    have h0 : l.getD i default = o := by subst hl; rw [List.getD_eq_getElem?_getD]; simp at ho; rw [ho]; rfl
    rw [List.map_cons, h0] at h
    have hw : wpOp P ops Q' i (wpList P ops Q' (ks.map fun k => l.getD k default)) a w := by unfold wpOp; simp only [ho]; exact h
    exact wpOp_mono (fun a' w' h' => wpAny_of_seqL hl ks _ a' w' hB.2 h') hw
def headL (ops : Array Oper) (ts : List Nat) : List Nat → Array Bool → Bool
  | [], listed => seqL ops ts listed
  | k :: ks, listed => (Region.ready .any ops listed).contains k && Region.free .any ops listed k && headL ops ts ks (listed.setIfInBounds k true)
theorem seqL_ready {ps hs ts : List Nat} (hp : partB ops ps hs ts = true) {listed : Array Bool} (h : seqL ops ts listed = true) : ∀ j ∈ Region.ready .any ops listed, j ∉ hs := by
  intro j hj hjs
  simp only [partB, Bool.and_eq_true, List.all_eq_true] at hp
  have hh := hp.1.2 j hjs
  cases ts with
  | nil => simp only [seqL, List.isEmpty_iff] at h; rw [h] at hj; cases hj
  | cons k ks =>
    simp only [seqL, Bool.and_eq_true, decide_eq_true_eq] at h
    rw [h.1] at hj
    have : j = k := by simpa using hj
    subst this
    simp at hh
theorem wpAnyP_lex {ps hs ts : List Nat} {l : List Oper} (hl : ops = l.toArray) {Lq : Act → Prop} (hsel : Region.noSelect ops = true) (hp : partB ops ps hs ts = true) :
    ∀ (ks : List Nat) (listed : Array Bool) (a : Act), (∀ k ∈ ks, k ∈ hs) → HInv ops ps ts listed → headL ops ts ks listed = true → wpStill P ops w Lq (ks.map fun k => l.getD k default) a →
    wpAnyP P ops w hs (fun listed' a' => seqL ops ts listed' = true ∧ Lq a') ks.length listed a
  | [], listed, a, _, _, hB, h => ⟨by simpa [headL] using hB, h⟩
  | k :: ks, listed, a, hk, inv, hB, h => by
    simp only [headL, Bool.and_eq_true] at hB
    obtain ⟨⟨hr, hf⟩, hB'⟩ := hB
    have hr' : k ∈ Region.ready .any ops listed := by simpa using hr
    obtain ⟨_, o, ho, _⟩ := mem_ready.1 hr'
    have hkh := hk k (by simp)
    have hnt : k ∉ ts := fun ht => by
      simp only [partB, Bool.and_eq_true, List.all_eq_true] at hp
      have := hp.1.2 k hkh
      simp [ht] at this
    have h0 : l.getD k default = o := by subst hl; rw [List.getD_eq_getElem?_getD]; simp at ho; rw [ho]; rfl
    rw [List.map_cons, h0] at h
    have hst : stOp P ops w k (wpStill P ops w Lq (ks.map fun k => l.getD k default)) a := by unfold stOp; simp only [ho]; exact h
    obtain ⟨v, hy, hK⟩ := yieldsAt_of_stOp ho hst
    exact wpAnyP_first ho (Region.noSelect_spec hsel) hp hkh (fun listed' a' hL => seqL_ready hp hL.1) ks.length listed a inv (Region.free_spec ho hf) hr' hy
      (wpAnyP_lex hl hsel hp ks _ _ (fun k' h' => hk k' (by simp [h'])) (inv.set hr' hnt) hB' hK)

theorem wpStill_mono {Q Q' : Act → Prop} (h : ∀ a, Q a → Q' a) : ∀ (l : List Oper) (a : Act), wpStill P ops w Q l a → wpStill P ops w Q' l a
  | [], a, k => h a k
  | o :: l, a, k => by
    have k' := k
    simp only [wpStill] at k' ⊢
    split at k'
    · rename_i hw
      rw [if_pos hw]
      exact Oper.still_mono (fun a' => wpStill_mono h l a') k'
    · rename_i hw
      rw [if_neg hw]
      exact wpStill_mono h l _ k'
/-- What the walk may not look into. -/
structure Shut1 (p : Prop) : Prop where mk :: (out : p)
/-- 'wpStill', so that nothing computes it by itself. -/
structure StW (P : Program) (ops : Array Oper) (w : World) (Q : Act → Prop) (l : List Oper) (a : Act) : Prop where mk :: (out : wpStill P ops w Q l a)
theorem StW.nil {Q : Act → Prop} {a : Act} (h : Q a) : StW P ops w Q [] a := ⟨h⟩
theorem StW.go {Q : Act → Prop} {a : Act} {o : Oper} {rest : List Oper} (hw : Region.wanted o (yielded ops a.tmps) = true)
    (h : ∀ K : Act → Prop, Shut1 (∀ a, StW P ops w Q rest a → K a) → o.still P a w K) : StW P ops w Q (o :: rest) a :=
  ⟨wpStill_step fun K hK => by rw [if_pos hw]; exact h K ⟨fun a k => hK a k.out⟩⟩
theorem StW.skip {Q : Act → Prop} {a : Act} {o : Oper} {rest : List Oper} (hw : Region.wanted o (yielded ops a.tmps) = false) (h : StW P ops w Q rest (a.put o.dst undef)) : StW P ops w Q (o :: rest) a :=
  ⟨by simp only [wpStill, hw, Bool.false_eq_true, if_false]; exact h.out⟩
/-- Moves, ahead of all. -/
def isMove (ops : Array Oper) (k : Nat) : Bool := match ops[k]? with
  | some o => o.guard.isNone && (match o.op with | .move _ => true | _ => false)
  | none => false
def movesL (ops : Array Oper) : List Nat → Array Bool → Bool
  | [], _ => true
  | k :: ks, listed => isMove ops k && (Region.ready .any ops listed).contains k && Region.free .any ops listed k && movesL ops ks (listed.setIfInBounds k true)
def listAll (ks : List Nat) (listed : Array Bool) : Array Bool := ks.foldl (fun l k => l.setIfInBounds k true) listed

theorem wpAny_moves {Q : Exit → Act → World → Prop} {l : List Oper} (hl : ops = l.toArray) (hsel : Region.noSelect ops = true) (hQ : ∀ c a d v w, Q (.panic c) (Act.put a d v) w → Q (.panic c) a w) (g : Nat) :
    ∀ (ks : List Nat) (listed : Array Bool) (a : Act), movesL ops ks listed = true → wpStill P ops w (fun a' => wpAny P .any ops Q g (listAll ks listed) a' w) (ks.map fun k => l.getD k default) a → wpAny P .any ops Q (ks.length + g) listed a w
  | [], listed, a, _, h => by simpa [listAll, wpStill] using h
  | k :: ks, listed, a, hB, h => by
    simp only [movesL, Bool.and_eq_true] at hB
    obtain ⟨⟨⟨hmv, hr⟩, hf⟩, hB'⟩ := hB
    have hr' : k ∈ Region.ready .any ops listed := by simpa using hr
    obtain ⟨_, o, ho, _⟩ := mem_ready.1 hr'
    have h0 : l.getD k default = o := by subst hl; rw [List.getD_eq_getElem?_getD]; simp at ho; rw [ho]; rfl
    rw [List.map_cons, h0] at h
    simp only [isMove, ho, Bool.and_eq_true] at hmv
    obtain ⟨hgu, hop⟩ := hmv
    have hg0 : o.guard = none := by simpa using hgu
    have hw : Region.wanted o (yielded ops a.tmps) = true := by simp [Region.wanted, hg0]
    cases hx : o.op with
    | move x =>
      have hrun : ∀ w, (execOp a.eval o).run P w = .ok (.value (a.eval x)) w := fun w => by simp [execOp, hx]
      have h' : wpStill P ops w (fun a' => wpAny P .any ops Q g (listAll (k :: ks) listed) a' w) (ks.map fun k => l.getD k default) (a.put o.dst (a.eval x)) := by
        simp only [wpStill, hw, if_true, Oper.still, hrun, Oper.stillUpon] at h
        simpa using h
      rw [show (k :: ks).length + g = (ks.length + g) + 1 by simp; omega]
      exact wpAny_take (i := k) (v := a.eval x) ho hsel hf hr (fun c a w => hQ c a _ _ w) (.inl ⟨hw, hrun⟩) (wpAny_moves hl hsel hQ g ks _ _ hB' h')
    | _ => rw [hx] at hop; cases hop

/-- Q, and no panic. -/
def Calm (Q : Exit → Act → World → Prop) : Exit → Act → World → Prop
  | .panic _, _, _ => False
  | e, a, w => Q e a w
theorem Calm.normal {Q : Exit → Act → World → Prop} {a : Act} {w : World} (h : Q .normal a w) : Calm Q .normal a w := h

/-- A region: moves first; then what only reads, in this order; then the rest, in this order. -/
theorem wp_region_order {id : Nat} {Q : Exit → Act → World → Prop} {a : Act} {l : List Oper} (ps hs ts : List Nat) (hm : P.follows .mixedOrders = true)
    (hB : (partB l.toArray ps hs ts && (ts.all (fun t => decide (t < l.toArray.size) && !ps.contains t) && movesL l.toArray ps (Array.replicate l.toArray.size false)) && headL l.toArray ts hs (listAll ps (Array.replicate l.toArray.size false)) && decide (ps.length + (hs.length + ts.length) = l.length)) = true)
    (h : StW P l.toArray { w with drawn := w.drawn + 1 } (fun a1 => StW P l.toArray { w with drawn := w.drawn + 1 } (fun a' => wpList P l.toArray (Calm Q) (ts.map fun k => l.getD k default) a' { w with drawn := w.drawn + 1 }) (hs.map fun k => l.getD k default) a1) (ps.map fun k => l.getD k default) a) : (Code.region id l.toArray true).wp P Q a w := by
  simp only [Bool.and_eq_true, decide_eq_true_eq] at hB
  obtain ⟨⟨⟨hp, htl, hmv⟩, hh⟩, hlen⟩ := hB
  have hsel : Region.noSelect l.toArray = true := by simp only [partB, Bool.and_eq_true] at hp; exact hp.1.1.1
  have inv1 : ∀ (ks : List Nat) (listed : Array Bool) (qs : List Nat), (∀ k ∈ ks, k ∉ ts) → movesL l.toArray ks listed = true → HInv l.toArray qs ts listed → HInv l.toArray (ks ++ qs) ts (listAll ks listed) := by
    intro ks
    induction ks with
    | nil => intro listed qs _ _ inv; exact inv
    | cons k ks ih =>
      intro listed qs hk hB inv
      simp only [movesL, Bool.and_eq_true] at hB
      have hr' : k ∈ Region.ready .any l.toArray listed := by simpa using hB.1.1.2
      have h1 := inv.set hr' (hk k (by simp))
      have hks : k < listed.size := by
        obtain ⟨hun, _⟩ := mem_ready.1 hr'
        rcases Nat.lt_or_ge k listed.size with h | h
        · exact h
        · simp [Array.getElem?_eq_none h] at hun
      have h2 : HInv l.toArray (k :: qs) ts (listed.setIfInBounds k true) := ⟨h1.size, h1.closed, h1.tail, fun p hp => by
        rcases List.mem_cons.1 hp with rfl | hp
        · simp [hks]
        · exact h1.done p hp⟩
      have h3 := ih _ (k :: qs) (fun k' h' => hk k' (by simp [h'])) hB.2 h2
      refine ⟨h3.size, h3.closed, h3.tail, fun p hp => h3.done p ?_⟩
      simp only [List.mem_append, List.mem_cons] at hp ⊢
      rcases hp with (h | h) | h
      · exact .inr (.inl h)
      · exact .inl h
      · exact .inr (.inr h)
  have inv0 : HInv l.toArray [] ts (Array.replicate l.toArray.size false) := by
    refine ⟨by simp, fun j oj _ hl => (by rw [getD_replicate_false] at hl; cases hl), fun t ht => ?_, by simp⟩
    have := List.all_eq_true.1 htl t ht
    simp only [Bool.and_eq_true, decide_eq_true_eq] at this
    exact getD_in (by simpa using this.1) (getD_replicate_false _ _)
  have inv := inv1 ps _ [] (fun k hk ht => by have := List.all_eq_true.1 htl k ht; simp [hk] at this) hmv inv0
  rw [List.append_nil] at inv
  refine Code.wp_mono (Q := Calm Q) (fun e a w h => ?_) ?_
  · cases e <;> first | exact h | exact False.elim h
  refine wp_region_any hm ?_
  have key := wpAny_moves (P := P) (w := { w with drawn := w.drawn + 1 }) (Q := Calm Q) (ops := l.toArray) rfl hsel (fun _ _ _ _ _ h => h) (hs.length + ts.length) ps (Array.replicate l.toArray.size false) a hmv (wpStill_mono (fun a1 h1 => ?_) _ _ h.out)
  · rw [hlen] at key
    simpa using key
  · have H := wpAnyP_lex (ops := l.toArray) rfl hsel hp hs _ a1 (fun k hk => hk) inv hh h1.out
    exact wpAny_of_headP (Q' := Calm Q) (g := ts.length) (fun listed a' hL => wpAny_of_seqL (ops := l.toArray) rfl ts listed a' _ hL.1 hL.2) _ _ _ H
end
end Go.Proofs.Ytjbhcmkloamcmaa
