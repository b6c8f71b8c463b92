/- A region whose order is open, as a tree: what reads goes as soon as it can; where several that turn the world may come next, each way. -/
import Derived.Test.YtpiahnecpbalhaaFlow
namespace Go.Proofs.Ytpiahnecpbalhaa

/-- Stages, with forks. -/
inductive Tr (α : Type) where
  | leaf (hs : List α)
  | one (hs : List α) (k : α) (b : List Bool) (t : Tr α)
  | two (hs : List α) (k1 : α) (b1 : List Bool) (t1 : Tr α) (k2 : α) (b2 : List Bool) (t2 : Tr α)
  | three (hs : List α) (k1 : α) (b1 : List Bool) (t1 : Tr α) (k2 : α) (b2 : List Bool) (t2 : Tr α) (k3 : α) (b3 : List Bool) (t3 : Tr α)
def Tr.map {α β : Type} (f : α → β) : Tr α → Tr β
  | .leaf hs => .leaf (hs.map f)
  | .one hs k b t => .one (hs.map f) (f k) b (t.map f)
  | .two hs k1 b1 t1 k2 b2 t2 => .two (hs.map f) (f k1) b1 (t1.map f) (f k2) b2 (t2.map f)
  | .three hs k1 b1 t1 k2 b2 t2 k3 b3 t3 => .three (hs.map f) (f k1) b1 (t1.map f) (f k2) b2 (t2.map f) (f k3) b3 (t3.map f)
def Tr.tot {α : Type} : Tr α → Nat
  | .leaf hs => hs.length
  | .one hs _ _ t => hs.length + (t.tot + 1)
  | .two hs _ _ t1 _ _ _ => hs.length + (t1.tot + 1)
  | .three hs _ _ t1 _ _ _ _ _ _ => hs.length + (t1.tot + 1)

section
variable {P : Program} {ops : Array Oper} {Q : Exit → Act → World → Prop}

def trB (ops : Array Oper) : Tr Nat → List (List Nat) → Array Bool → Bool
  | .leaf hs, _, l => match headC ops hs l with
    | some l' => (Region.ready .any ops l').isEmpty
    | none => false
  | .one hs k b t, ps, l => match headC ops hs l with
    | some l' => decide (Region.ready .any ops l' = [k]) && (b == (hs :: ps).map fun h => Fst ops h k) && trB ops t (hs :: ps) (l'.setIfInBounds k true)
    | none => false
  | .two hs k1 b1 t1 k2 b2 t2, ps, l => match headC ops hs l with
    | some l' => decide (Region.ready .any ops l' = [k1, k2]) && (b1 == (hs :: ps).map fun h => Fst ops h k1) && trB ops t1 (hs :: ps) (l'.setIfInBounds k1 true) &&
        (b2 == (hs :: ps).map fun h => Fst ops h k2) && trB ops t2 (hs :: ps) (l'.setIfInBounds k2 true) && (t1.tot == t2.tot)
    | none => false
  | .three hs k1 b1 t1 k2 b2 t2 k3 b3 t3, ps, l => match headC ops hs l with
    | some l' => decide (Region.ready .any ops l' = [k1, k2, k3]) && (b1 == (hs :: ps).map fun h => Fst ops h k1) && trB ops t1 (hs :: ps) (l'.setIfInBounds k1 true) &&
        (b2 == (hs :: ps).map fun h => Fst ops h k2) && trB ops t2 (hs :: ps) (l'.setIfInBounds k2 true) && (t1.tot == t2.tot) &&
        (b3 == (hs :: ps).map fun h => Fst ops h k3) && trB ops t3 (hs :: ps) (l'.setIfInBounds k3 true) && (t1.tot == t3.tot)
    | none => false

def trO (P : Program) (ops : Array Oper) (Q : Exit → Act → World → Prop) (o : Oper) (b : List Bool) (Ss : List (World → Prop)) (F : Act → World → Prop) (a : Act) (w : World) : Prop :=
  if Region.wanted o (yielded ops a.tmps) = true then o.wp P a w (fun a'' w' => (w' = w ∨ oblig b Ss w') ∧ F a'' w') Q else F (a.put o.dst undef) w
def tr (P : Program) (ops : Array Oper) (Q : Exit → Act → World → Prop) : Tr Oper → List (World → Prop) → Act → World → Prop
  | .leaf os, _, a, w => ∃ S : World → Prop, S w ∧ stQ P ops S (fun a' => Q .normal a' w) os a
  | .one os o b t, Ss, a, w => ∃ S : World → Prop, S w ∧ stQ P ops S (fun a' => trO P ops Q o b (S :: Ss) (tr P ops Q t (S :: Ss)) a' w) os a
  | .two os o1 b1 t1 o2 b2 t2, Ss, a, w => ∃ S : World → Prop, S w ∧ stQ P ops S (fun a' => trO P ops Q o1 b1 (S :: Ss) (tr P ops Q t1 (S :: Ss)) a' w ∧ trO P ops Q o2 b2 (S :: Ss) (tr P ops Q t2 (S :: Ss)) a' w) os a
  | .three os o1 b1 t1 o2 b2 t2 o3 b3 t3, Ss, a, w => ∃ S : World → Prop, S w ∧ stQ P ops S (fun a' => trO P ops Q o1 b1 (S :: Ss) (tr P ops Q t1 (S :: Ss)) a' w ∧ trO P ops Q o2 b2 (S :: Ss) (tr P ops Q t2 (S :: Ss)) a' w ∧ trO P ops Q o3 b3 (S :: Ss) (tr P ops Q t3 (S :: Ss)) a' w) os a

theorem tr_step {l : List Oper} (hl : ops = l.toArray) {ps : List (List Nat)} {Ss : List (World → Prop)} {k : Nat} {b : List Bool} {o : Oper} {listed : Array Bool} {a : Act} {w : World} {g : Nat} {F : Act → World → Prop}
    (hbs : b = ps.map fun h => Fst ops h k) (ho : ops[k]? = some o) (h0 : l.getD k default = o) (hO : trO P ops Q (l.getD k default) b Ss F a w)
    (hF : ∀ a' w', F a' w' → wpAnyG P ops Q (Gd ops ps Ss) g (listed.setIfInBounds k true) a' w') :
    wpOp P ops Q k (fun a'' w' => Gd ops ps Ss k w w' ∧ wpAnyG P ops Q (Gd ops ps Ss) g (listed.setIfInBounds k true) a'' w') a w := by
  subst hl
  rw [h0] at hO
  unfold trO at hO
  unfold wpOp
  simp only [ho]
  split
  · rename_i hw
    rw [if_pos hw] at hO
    refine .inl (Oper.wp_mono (fun a'' w' h' => ⟨?_, hF _ _ h'.2⟩) hO)
    rcases h'.1 with h1 | h1
    · exact .inl h1
    · rw [hbs] at h1
      exact .inr (oblig_spec _ _ h1)
  · rename_i hw
    rw [if_neg hw] at hO
    exact ⟨.inl rfl, hF _ _ hO⟩

theorem wpAnyG_tr {l : List Oper} (hl : ops = l.toArray) (hsel : Region.noSelect ops = true) (hQ : ∀ c a d v w, Q (.panic c) (Act.put a d v) w → Q (.panic c) a w) :
    ∀ (t : Tr Nat) (ps : List (List Nat)) (Ss : List (World → Prop)) (listed : Array Bool) (a : Act) (w : World), Closed ops listed → trB ops t ps listed = true → tr P ops Q (t.map fun k => l.getD k default) Ss a w → wpAnyG P ops Q (Gd ops ps Ss) t.tot listed a w := by
  have gd : ∀ (hs : List Nat) (S : World → Prop) (ps : List (List Nat)) (Ss : List (World → Prop)) (i : Nat) (w w' : World), Gd ops (hs :: ps) (S :: Ss) i w w' → Gd ops ps Ss i w w' := fun hs S ps Ss i w w' hg => by
    rcases hg with hg | hg
    · exact .inl hg
    · exact .inr fun p hp => hg p (by rw [List.zip_cons_cons]; exact List.mem_cons_of_mem _ hp)
  have hget : ∀ (i : Nat) (o : Oper), ops[i]? = some o → l.getD i default = o := fun i o ho => by
    subst hl; rw [List.getD_eq_getElem?_getD]; simp at ho; rw [ho]; rfl
  intro t
  induction t with
  | leaf hs =>
    intro ps Ss listed a w hc hB h
    unfold trB at hB
    split at hB
    case h_2 => cases hB
    rename_i l' hl'
    obtain ⟨S, hS, hq⟩ := h
    refine wpAnyG_mono (gd hs S ps Ss) _ _ _ _ (wpAnyG_lex (g := 0) hl hsel hQ hS (fun a' hc' hLq => ⟨by simpa using hB, hLq⟩) hs listed a (fun k h => h) hc hl' hq)
  | one hs k b t ih =>
    intro ps Ss listed a w hc hB h
    unfold trB at hB
    split at hB
    case h_2 => cases hB
    rename_i l' hl'
    simp only [Bool.and_eq_true, decide_eq_true_eq, beq_iff_eq] at hB
    obtain ⟨⟨hrd, hbs⟩, hB⟩ := hB
    obtain ⟨S, hS, hq⟩ := h
    refine wpAnyG_mono (gd hs S ps Ss) _ _ _ _ (wpAnyG_lex hl hsel hQ hS (fun a' hc' hLq => ?_) hs listed a (fun k h => h) hc hl' hq)
    refine ⟨fun h1 => (by rw [hrd] at h1; cases h1), fun i hi' => ?_⟩
    have hi2 := hi'
    obtain ⟨_, o, ho, _⟩ := mem_ready.1 hi'
    rw [hrd] at hi'
    have hik : i = k := by simpa using hi'
    subst hik
    exact tr_step hl hbs ho (hget i o ho) hLq fun a'' w' hF => ih _ _ _ _ _ (closed_set hc' hi2) hB hF
  | two hs k1 b1 t1 k2 b2 t2 ih1 ih2 =>
    intro ps Ss listed a w hc hB h
    unfold trB at hB
    split at hB
    case h_2 => cases hB
    rename_i l' hl'
    simp only [Bool.and_eq_true, decide_eq_true_eq, beq_iff_eq] at hB
    obtain ⟨⟨⟨⟨⟨hrd, hb1⟩, hB1⟩, hb2⟩, hB2⟩, htt⟩ := hB
    obtain ⟨S, hS, hq⟩ := h
    refine wpAnyG_mono (gd hs S ps Ss) _ _ _ _ (wpAnyG_lex (g := t1.tot + 1) hl hsel hQ hS (fun a' hc' hLq => ?_) hs listed a (fun k h => h) hc hl' hq)
    refine ⟨fun h1 => (by rw [hrd] at h1; cases h1), fun i hi' => ?_⟩
    have hi2 := hi'
    obtain ⟨_, o, ho, _⟩ := mem_ready.1 hi'
    rw [hrd] at hi'
    have hik : i = k1 ∨ i = k2 := by simpa using hi'
    rcases hik with rfl | rfl
    · exact tr_step hl hb1 ho (hget i o ho) hLq.1 fun a'' w' hF => ih1 _ _ _ _ _ (closed_set hc' hi2) hB1 hF
    · exact tr_step hl hb2 ho (hget i o ho) hLq.2 fun a'' w' hF => by rw [htt]; exact ih2 _ _ _ _ _ (closed_set hc' hi2) hB2 hF
  | three hs k1 b1 t1 k2 b2 t2 k3 b3 t3 ih1 ih2 ih3 =>
    intro ps Ss listed a w hc hB h
    unfold trB at hB
    split at hB
    case h_2 => cases hB
    rename_i l' hl'
    simp only [Bool.and_eq_true, decide_eq_true_eq, beq_iff_eq] at hB
    obtain ⟨⟨⟨⟨⟨⟨⟨⟨hrd, hb1⟩, hB1⟩, hb2⟩, hB2⟩, htt⟩, hb3⟩, hB3⟩, htt3⟩ := hB
    obtain ⟨S, hS, hq⟩ := h
    refine wpAnyG_mono (gd hs S ps Ss) _ _ _ _ (wpAnyG_lex (g := t1.tot + 1) hl hsel hQ hS (fun a' hc' hLq => ?_) hs listed a (fun k h => h) hc hl' hq)
    refine ⟨fun h1 => (by rw [hrd] at h1; cases h1), fun i hi' => ?_⟩
    have hi2 := hi'
    obtain ⟨_, o, ho, _⟩ := mem_ready.1 hi'
    rw [hrd] at hi'
    have hik : i = k1 ∨ i = k2 ∨ i = k3 := by simpa using hi'
    rcases hik with rfl | rfl | rfl
    · exact tr_step hl hb1 ho (hget i o ho) hLq.1 fun a'' w' hF => ih1 _ _ _ _ _ (closed_set hc' hi2) hB1 hF
    · exact tr_step hl hb2 ho (hget i o ho) hLq.2.1 fun a'' w' hF => by rw [htt]; exact ih2 _ _ _ _ _ (closed_set hc' hi2) hB2 hF
    · exact tr_step hl hb3 ho (hget i o ho) hLq.2.2 fun a'' w' hF => by rw [htt3]; exact ih3 _ _ _ _ _ (closed_set hc' hi2) hB3 hF

/-- 'tr', shut. -/
structure TrW (P : Program) (ops : Array Oper) (Q : Exit → Act → World → Prop) (t : Tr Oper) (Ss : List (World → Prop)) (a : Act) (w : World) : Prop where mk :: (out : tr P ops Q t Ss a w)
structure TrO (P : Program) (ops : Array Oper) (Q : Exit → Act → World → Prop) (o : Oper) (b : List Bool) (t : Tr Oper) (Ss : List (World → Prop)) (a : Act) (w : World) : Prop where mk :: (out : trO P ops Q o b Ss (tr P ops Q t Ss) a w)
theorem TrW.leaf {os : List Oper} {Ss : List (World → Prop)} {a : Act} {w : World} (S : World → Prop) (hS : S w) (h : StQ P ops S (fun a' => Q .normal a' w) os a) : TrW P ops Q (.leaf os) Ss a w := ⟨⟨S, hS, h.out⟩⟩
theorem TrW.one {os : List Oper} {o : Oper} {b : List Bool} {t : Tr Oper} {Ss : List (World → Prop)} {a : Act} {w : World} (S : World → Prop) (hS : S w) (h : StQ P ops S (fun a' => TrO P ops Q o b t (S :: Ss) a' w) os a) : TrW P ops Q (.one os o b t) Ss a w :=
  ⟨⟨S, hS, stQ_mono (fun _ k => k.out) os a h.out⟩⟩
theorem TrW.two {os : List Oper} {o1 o2 : Oper} {b1 b2 : List Bool} {t1 t2 : Tr Oper} {Ss : List (World → Prop)} {a : Act} {w : World} (S : World → Prop) (hS : S w) (h : StQ P ops S (fun a' => TrO P ops Q o1 b1 t1 (S :: Ss) a' w ∧ TrO P ops Q o2 b2 t2 (S :: Ss) a' w) os a) : TrW P ops Q (.two os o1 b1 t1 o2 b2 t2) Ss a w :=
  ⟨⟨S, hS, stQ_mono (fun _ k => ⟨k.1.out, k.2.out⟩) os a h.out⟩⟩
theorem TrW.three {os : List Oper} {o1 o2 o3 : Oper} {b1 b2 b3 : List Bool} {t1 t2 t3 : Tr Oper} {Ss : List (World → Prop)} {a : Act} {w : World} (S : World → Prop) (hS : S w) (h : StQ P ops S (fun a' => TrO P ops Q o1 b1 t1 (S :: Ss) a' w ∧ TrO P ops Q o2 b2 t2 (S :: Ss) a' w ∧ TrO P ops Q o3 b3 t3 (S :: Ss) a' w) os a) : TrW P ops Q (.three os o1 b1 t1 o2 b2 t2 o3 b3 t3) Ss a w :=
  ⟨⟨S, hS, stQ_mono (fun _ k => ⟨k.1.out, k.2.1.out, k.2.2.out⟩) os a h.out⟩⟩
theorem TrO.go {o : Oper} {b : List Bool} {t : Tr Oper} {Ss : List (World → Prop)} {a : Act} {w : World} (hw : Region.wanted o (yielded ops a.tmps) = true)
    (h : ∀ K : Act → World → Prop, Shut1 (∀ a' w', (w' = w ∨ oblig b Ss w') → TrW P ops Q t Ss a' w' → K a' w') → o.wp P a w K Q) : TrO P ops Q o b t Ss a w :=
  ⟨by unfold trO; rw [if_pos hw]; exact h _ ⟨fun a w h1 k => ⟨h1, k.out⟩⟩⟩
theorem TrO.skip {o : Oper} {b : List Bool} {t : Tr Oper} {Ss : List (World → Prop)} {a : Act} {w : World} (hw : Region.wanted o (yielded ops a.tmps) = false) (h : TrW P ops Q t Ss (a.put o.dst undef) w) : TrO P ops Q o b t Ss a w :=
  ⟨by unfold trO; rw [if_neg (by rw [hw]; decide)]; exact h.out⟩

/-- A region as a tree. -/
theorem wp_region_tree {id : Nat} {a : Act} {w : World} {l : List Oper} (t : Tr Nat) (hm : P.follows .mixedOrders = true)
    (hB : (Region.noSelect l.toArray && trB l.toArray t [] (Array.replicate l.toArray.size false) && decide (t.tot = l.length)) = true)
    (h : TrW P l.toArray (Calm Q) (t.map fun k => l.getD k default) [] a { w with drawn := w.drawn + 1 }) : (Code.region id l.toArray true).wp P Q a w := by
  simp only [Bool.and_eq_true, decide_eq_true_eq] at hB
  obtain ⟨⟨hsel, hB⟩, hlen⟩ := hB
  refine Code.wp_mono (Q := Calm Q) (fun e a w h => ?_) ?_
  · cases e <;> first | exact h | exact False.elim h
  refine wp_region_any hm ?_
  have := wpAny_of_G _ _ _ _ (wpAnyG_tr (P := P) (Q := Calm Q) (ops := l.toArray) rfl hsel (fun _ _ _ _ _ h => h) t [] [] _ a _ (fun j oj _ hl => by rw [getD_replicate_false] at hl; cases hl) hB h.out)
  rw [hlen] at this
  simpa using this
end
end Go.Proofs.Ytpiahnecpbalhaa
