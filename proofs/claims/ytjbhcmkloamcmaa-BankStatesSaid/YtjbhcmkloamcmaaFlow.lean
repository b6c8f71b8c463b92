/- A region whose order is open, stage by stage: what reads goes as soon as it can; what turns the world goes in its one order. -/
import Derived.Test.YtjbhcmkloamcmaaMix
namespace Go.Proofs.Ytjbhcmkloamcmaa

/-- The frame rule: what a call does to one thing, all else stays. -/
theorem Own.frame {w0 w w' : World} {S : Nat → Prop} {L M : List Res} {r : Res} (h : Own w0 S w L) (k : Nat) (hk : L[k]? = some r) (hc : Own w r.foot w' M) : Own w0 S w' (M ++ L.eraseIdx k) := by
  have hkm := List.mem_of_getElem? hk
  have hlt : ∀ s ∈ L, ∀ i, s.foot i → i < w.heap.size := fun s hs i hi => s.lt w (h.has s hs) i hi
  refine ⟨h.kept.trans' hc.kept fun i hi hr' => (h.own r hkm i hr').resolve_right (by omega), fun s hs => ?_, ?_, fun s hs i hi => ?_⟩
  · rcases List.mem_append.1 hs with hs | hs
    · exact hc.has s hs
    · obtain ⟨j, hj, e⟩ := List.mem_eraseIdx_iff_getElem?.1 hs
      exact s.loc w w' (h.get j e) fun i hi => hc.kept.block i (hlt s (List.mem_of_getElem? e) i hi) (h.apart' j k e hk hj i hi)
  · refine List.pairwise_append.2 ⟨hc.sep, h.sep.sublist (List.eraseIdx_sublist ..), fun m hm s hs i hi hi' => ?_⟩
    obtain ⟨j, hj, e⟩ := List.mem_eraseIdx_iff_getElem?.1 hs
    rcases hc.own m hm i hi with h' | h'
    · exact h.apart' k j hk e (Ne.symm hj) i h' hi'
    · have := hlt s (List.mem_of_getElem? e) i hi'
      omega
  · rcases List.mem_append.1 hs with hs | hs
    · rcases hc.own s hs i hi with h' | h'
      · exact h.own r hkm i h'
      · exact .inr (Nat.le_trans h.kept.size h')
    · exact h.own s (List.mem_of_mem_eraseIdx hs) i hi

section
variable {P : Program} {ops : Array Oper} {Q : Exit → Act → World → Prop}

/-- Whatever order is picked; G holds of every operation, the world ahead of it and the world behind it. -/
def wpAnyG (P : Program) (ops : Array Oper) (Q : Exit → Act → World → Prop) (G : Nat → World → World → Prop) : Nat → Array Bool → Act → World → Prop
  | 0, listed, a, w => Region.ready .any ops listed = [] ∧ Q .normal a w
  | fuel + 1, listed, a, w =>
    (Region.ready .any ops listed = [] → Q .normal a w) ∧
    ∀ i ∈ Region.ready .any ops listed, wpOp P ops Q i (fun a' w' => G i w w' ∧ wpAnyG P ops Q G fuel (listed.setIfInBounds i true) a' w') a w

theorem wpAny_of_G {G : Nat → World → World → Prop} : ∀ (fuel : Nat) (listed : Array Bool) (a : Act) (w : World), wpAnyG P ops Q G fuel listed a w → wpAny P .any ops Q fuel listed a w
  | 0, _, _, _, h => h
  | fuel + 1, _, _, _, h => ⟨h.1, fun i hi => wpOp_mono (fun a' w' h' => wpAny_of_G fuel _ a' w' h'.2) (h.2 i hi)⟩
theorem wpAnyG_mono {G G' : Nat → World → World → Prop} (hG : ∀ i w w', G i w w' → G' i w w') : ∀ (fuel : Nat) (listed : Array Bool) (a : Act) (w : World), wpAnyG P ops Q G fuel listed a w → wpAnyG P ops Q G' fuel listed a w
  | 0, _, _, _, h => h
  | fuel + 1, _, _, w, h => ⟨h.1, fun i hi => wpOp_mono (fun a' w' h' => ⟨hG i w w' h'.1, wpAnyG_mono hG fuel _ a' w' h'.2⟩) (h.2 i hi)⟩

/-- What reads is taken first, if whatever waits not for it keeps S. -/
theorem wpAnyG_first {G : Nat → World → World → Prop} {S : World → Prop} {i : Nat} {oi : Oper} {v : Value} (hi : ops[i]? = some oi) (hsel : ∀ (j : Nat) (o : Oper) cs b, ops[j]? = some o → o.op ≠ .select cs b)
    (hQ : ∀ c a w, Q (.panic c) (a.put oi.dst v) w → Q (.panic c) a w) (hGi : ∀ w, G i w w) (hF : ∀ j, (∀ w w', S w → G j w w' → S w') ∨ waits ops ops.size j i = true) :
    ∀ (fuel : Nat) (listed : Array Bool) (a : Act) (w : World), Closed ops listed →
      (∀ j oj, ops[j]? = some oj → j ≠ i → listed.getD j true = false → (∀ e ∈ oj.after, Region.binds .any e = true → e.on ≠ i) → oi.apart ops oj = true) →
      i ∈ Region.ready .any ops listed → YieldsIf P ops S oi v a → S w →
      wpAnyG P ops Q G fuel (listed.setIfInBounds i true) (a.put oi.dst v) w → wpAnyG P ops Q G (fuel + 1) listed a w := by
  intro fuel
  induction fuel with
  | zero =>
    intro listed a w hcl _ hr hy hS H
    refine ⟨fun h => (by rw [h] at hr; cases hr), fun j hj => ?_⟩
    by_cases hji : j = i
    · subst hji; exact hy.wpOp hi hS ⟨hGi w, H⟩
    · have := ready_mono hj hji
      rw [H.1] at this
      cases this
  | succ fuel ih =>
    intro listed a w hcl hfree hr hy hS H
    have hun := (mem_ready.1 hr).1
    refine ⟨fun h => (by rw [h] at hr; cases hr), fun j hj => ?_⟩
    by_cases hji : j = i
    · subst hji; exact hy.wpOp hi hS ⟨hGi w, H⟩
    · have h1 := H.2 j (ready_mono hj hji)
      obtain ⟨hjun, oj, hoj, hall⟩ := mem_ready.1 hj
      have hfj : ∀ w w', S w → G j w w' → S w' := by
        rcases hF j with h | h
        · exact h
        · exfalso
          have h2 := waits_spec hcl _ _ _ h fun o ho e he hb => by
            have : o = oj := Option.some.inj (ho.symm.trans hoj)
            subst this
            exact hall e he hb
          rw [getD_both hun] at h2
          cases h2
      have hnot : ∀ e ∈ oj.after, Region.binds .any e = true → e.on ≠ i := fun e he hb heq => by
        have h1 := hall e he hb
        rw [heq, getD_both hun] at h1
        cases h1
      have h2 := wpOp_putIf hoj (hfree j oj hoj hji hjun hnot) (fun cs b => hsel i oi cs b hi) (fun cs b => hsel j oj cs b hoj) hQ hy h1
      have hfree' : ∀ k ok, ops[k]? = some ok → k ≠ i → (listed.setIfInBounds j true).getD k true = false →
          (∀ e ∈ ok.after, Region.binds .any e = true → e.on ≠ i) → oi.apart ops ok = true := fun k ok hk hki hun hno => by
        refine hfree k ok hk hki ?_ hno
        by_cases hjk : j = k
        · subst hjk; exact hjun
        · rw [getD_set_ne true hjk] at hun; exact hun
      refine wpOp_mono (fun a' w' h3 => ⟨h3.2.1, ih (listed.setIfInBounds j true) a' w' (closed_set hcl hj) hfree' (ready_mono hr (Ne.symm hji)) h3.1 (hfj w w' hS h3.2.1) ?_⟩) h2
      rw [Array.setIfInBounds_comm _ _ hji]
      exact h3.2.2

/-- Is there one of these for which j waits not? -/
def Fst (ops : Array Oper) (hs : List Nat) (j : Nat) : Bool := !(hs.all fun i => waits ops ops.size j i)
def Gd (ops : Array Oper) (ps : List (List Nat)) (Ss : List (World → Prop)) (i : Nat) (w w' : World) : Prop := w' = w ∨ ∀ p ∈ ps.zip Ss, Fst ops p.1 i = true → p.2 w'
def oblig : List Bool → List (World → Prop) → World → Prop
  | true :: bs, S :: Ss, w => S w ∧ oblig bs Ss w
  | false :: bs, _ :: Ss, w => oblig bs Ss w
  | _, _, _ => True
theorem oblig_spec {k : Nat} {w : World} : ∀ (ps : List (List Nat)) (Ss : List (World → Prop)), oblig (ps.map fun h => Fst ops h k) Ss w → ∀ p ∈ ps.zip Ss, Fst ops p.1 k = true → p.2 w
  | [], _, _, p, hp, _ => by simp at hp
  | _ :: _, [], _, p, hp, _ => by simp at hp
  | h :: ps, S :: Ss, ho, p, hp, hf => by
    rw [List.map_cons] at ho
    rw [List.zip_cons_cons] at hp
    cases hb : Fst ops h k with
    | true =>
      rw [hb] at ho
      rcases List.mem_cons.1 hp with rfl | hp
      · exact ho.1
      · exact oblig_spec ps Ss ho.2 p hp hf
    | false =>
      rw [hb] at ho
      rcases List.mem_cons.1 hp with rfl | hp
      · rw [hb] at hf; cases hf
      · exact oblig_spec ps Ss ho p hp hf

def headC (ops : Array Oper) : List Nat → Array Bool → Option (Array Bool)
  | [], l => some l
  | k :: ks, l => if (Region.ready .any ops l).contains k && Region.free .any ops l k then headC ops ks (l.setIfInBounds k true) else none
def flB (ops : Array Oper) : List (List Nat × Option (Nat × List Bool)) → List (List Nat) → Array Bool → Bool
  | [], _, l => (Region.ready .any ops l).isEmpty
  | (hs, none) :: r, ps, l => match headC ops hs l with
    | some l' => flB ops r (hs :: ps) l'
    | none => false
  | (hs, some (k, bs)) :: r, ps, l => match headC ops hs l with
    | some l' => decide (Region.ready .any ops l' = [k]) && (bs == (hs :: ps).map fun h => Fst ops h k) && flB ops r (hs :: ps) (l'.setIfInBounds k true)
    | none => false
def totF : List (List Nat × Option (Nat × List Bool)) → Nat
  | [] => 0
  | (hs, none) :: r => hs.length + totF r
  | (hs, some _) :: r => hs.length + (totF r + 1)

theorem wpAnyG_lex {l : List Oper} (hl : ops = l.toArray) (hsel : Region.noSelect ops = true) (hQ : ∀ c a d v w, Q (.panic c) (Act.put a d v) w → Q (.panic c) a w) {ps : List (List Nat)} {Ss : List (World → Prop)} {hs : List Nat} {S : World → Prop} {w : World} (hS : S w)
    {Lq : Act → Prop} {g : Nat} {l' : Array Bool} (hL : ∀ a, Closed ops l' → Lq a → wpAnyG P ops Q (Gd ops (hs :: ps) (S :: Ss)) g l' a w) :
    ∀ (ks : List Nat) (listed : Array Bool) (a : Act), (∀ k ∈ ks, k ∈ hs) → Closed ops listed → headC ops ks listed = some l' → stQ P ops S Lq (ks.map fun k => l.getD k default) a → wpAnyG P ops Q (Gd ops (hs :: ps) (S :: Ss)) (ks.length + g) listed a w
  | [], listed, a, _, hcl, hB, h => by
    simp only [headC, Option.some.injEq] at hB
    subst hB
    simpa using hL a hcl (by simpa [stQ] using h)
  | k :: ks, listed, a, hk, hcl, hB, h => by
    unfold headC at hB
    split at hB
    case isFalse => cases hB
    rename_i hrf
    simp only [Bool.and_eq_true] at hrf
    obtain ⟨hr, hf⟩ := hrf
    have hr' : k ∈ Region.ready .any ops listed := by simpa using hr
    obtain ⟨_, o, ho, _⟩ := mem_ready.1 hr'
    have hkh := hk k (by simp)
    have h0 : l.getD k default = o := by subst hl; rw [List.getD_eq_getElem?_getD]; simp at ho; rw [ho]; rfl
    rw [List.map_cons, h0] at h
    rw [show (k :: ks).length + g = (ks.length + g) + 1 by simp; omega]
    have hF : ∀ j, (∀ w w', S w → Gd ops (hs :: ps) (S :: Ss) j w w' → S w') ∨ waits ops ops.size j k = true := fun j => by
      cases hb : Fst ops hs j with
      | true =>
        left
        intro w w' h1 h2
        rcases h2 with rfl | h2
        · exact h1
        · exact h2 (hs, S) (by rw [List.zip_cons_cons]; exact List.mem_cons_self) hb
      | false =>
        right
        simp only [Fst, Bool.not_eq_false', List.all_eq_true] at hb
        exact hb k hkh
    unfold stQ at h
    split at h
    · rename_i hw
      obtain ⟨v, hv, h'⟩ := h
      exact wpAnyG_first ho (Region.noSelect_spec hsel) (fun c a w => hQ c a _ _ w) (fun w => .inl rfl) hF _ listed a w hcl (Region.free_spec ho hf) hr' (.inl ⟨hw, hv⟩) hS
        (wpAnyG_lex hl hsel hQ hS hL ks _ _ (fun k' h' => hk k' (by simp [h'])) (closed_set hcl hr') hB h')
    · rename_i hw
      exact wpAnyG_first ho (Region.noSelect_spec hsel) (fun c a w => hQ c a _ _ w) (fun w => .inl rfl) hF _ listed a w hcl (Region.free_spec ho hf) hr' (.inr ⟨by simpa using hw, rfl⟩) hS
        (wpAnyG_lex hl hsel hQ hS hL ks _ _ (fun k' h' => hk k' (by simp [h'])) (closed_set hcl hr') hB h)

/-- The stages. -/
def fl (P : Program) (ops : Array Oper) (Q : Exit → Act → World → Prop) : List (List Oper × Option (Oper × List Bool)) → List (World → Prop) → Act → World → Prop
  | [], _, a, w => Q .normal a w
  | (os, none) :: r, Ss, a, w => ∃ S : World → Prop, S w ∧ stQ P ops S (fun a' => fl P ops Q r (S :: Ss) a' w) os a
  | (os, some (o, bs)) :: r, Ss, a, w => ∃ S : World → Prop, S w ∧ stQ P ops S (fun a' => if Region.wanted o (yielded ops a'.tmps) = true then o.wp P a' w (fun a'' w' => (w' = w ∨ oblig bs (S :: Ss) w') ∧ fl P ops Q r (S :: Ss) a'' w') Q else fl P ops Q r (S :: Ss) (a'.put o.dst undef) w) os a
def opsF (l : List Oper) (sg : List (List Nat × Option (Nat × List Bool))) : List (List Oper × Option (Oper × List Bool)) := sg.map fun p => (p.1.map fun k => l.getD k default, p.2.map fun q => (l.getD q.1 default, q.2))

theorem wpAnyG_fl {l : List Oper} (hl : ops = l.toArray) (hsel : Region.noSelect ops = true) (hQ : ∀ c a d v w, Q (.panic c) (Act.put a d v) w → Q (.panic c) a w) :
    ∀ (sg : List (List Nat × Option (Nat × List Bool))) (ps : List (List Nat)) (Ss : List (World → Prop)) (listed : Array Bool) (a : Act) (w : World), Closed ops listed → flB ops sg ps listed = true → fl P ops Q (opsF l sg) Ss a w → wpAnyG P ops Q (Gd ops ps Ss) (totF sg) listed a w
  | [], _, _, listed, a, w, _, hB, h => ⟨by simpa [flB] using hB, h⟩
  | (hs, none) :: r, ps, Ss, listed, a, w, hc, hB, h => by
    unfold flB at hB
    split at hB
    case h_2 => cases hB
    rename_i l' hl'
    obtain ⟨S, hS, hq⟩ := h
    refine wpAnyG_mono (G := Gd ops (hs :: ps) (S :: Ss)) (fun i w w' hg => ?_) _ _ _ _ (wpAnyG_lex hl hsel hQ hS (fun a' hc' hLq => wpAnyG_fl hl hsel hQ r (hs :: ps) (S :: Ss) l' a' w hc' hB hLq) hs listed a (fun k h => h) hc hl' hq)
    rcases hg with hg | hg
    · exact .inl hg
    · exact .inr fun p hp => hg p (by rw [List.zip_cons_cons]; exact List.mem_cons_of_mem _ hp)
  | (hs, some (k, bs)) :: r, ps, Ss, listed, a, w, hc, hB, h => by
    unfold flB at hB
    split at hB
    case h_2 => cases hB
    rename_i l' hl'
    simp only [Bool.and_eq_true, decide_eq_true_eq, beq_iff_eq] at hB
    obtain ⟨⟨hrd, hbs⟩, hB⟩ := hB
    obtain ⟨S, hS, hq⟩ := h
    refine wpAnyG_mono (G := Gd ops (hs :: ps) (S :: Ss)) (fun i w w' hg => ?_) _ _ _ _ (wpAnyG_lex hl hsel hQ hS (fun a' hc' hLq => ?_) hs listed a (fun k h => h) hc hl' hq)
    · rcases hg with hg | hg
      · exact .inl hg
      · exact .inr fun p hp => hg p (by rw [List.zip_cons_cons]; exact List.mem_cons_of_mem _ hp)
    · refine ⟨fun h1 => (by rw [hrd] at h1; cases h1), fun i hi' => ?_⟩
      have hi2 := hi'
      obtain ⟨_, o, ho, _⟩ := mem_ready.1 hi'
      rw [hrd] at hi'
      have hik : i = k := by simpa using hi'
      subst hik
      have h0 : l.getD i default = o := by subst hl; rw [List.getD_eq_getElem?_getD]; simp at ho; rw [ho]; rfl
      simp only [h0] at hLq
      unfold wpOp
      simp only [ho]
      split
      · rename_i hw
        rw [if_pos hw] at hLq
        refine .inl (Oper.wp_mono (fun a'' w' h' => ⟨?_, wpAnyG_fl hl hsel hQ r (hs :: ps) (S :: Ss) _ a'' w' (closed_set hc' hi2) hB h'.2⟩) hLq)
        rcases h'.1 with h1 | h1
        · exact .inl h1
        · rw [hbs] at h1
          exact .inr (oblig_spec _ _ h1)
      · rename_i hw
        rw [if_neg hw] at hLq
        exact ⟨.inl rfl, wpAnyG_fl hl hsel hQ r (hs :: ps) (S :: Ss) _ _ w (closed_set hc' hi2) hB hLq⟩

theorem stQ_mono {S : World → Prop} {L1 L2 : Act → Prop} (h : ∀ a, L1 a → L2 a) : ∀ (os : List Oper) (a : Act), stQ P ops S L1 os a → stQ P ops S L2 os a
  | [], a, k => h a k
  | o :: os, a, k => by
    unfold stQ at k ⊢
    split
    · rename_i hw
      rw [if_pos hw] at k
      obtain ⟨v, hv, k⟩ := k
      exact ⟨v, hv, stQ_mono h os _ k⟩
    · rename_i hw
      rw [if_neg hw] at k
      exact stQ_mono h os _ k
/-- 'fl', shut. -/
structure FlW (P : Program) (ops : Array Oper) (Q : Exit → Act → World → Prop) (sg : List (List Oper × Option (Oper × List Bool))) (Ss : List (World → Prop)) (a : Act) (w : World) : Prop where mk :: (out : fl P ops Q sg Ss a w)
theorem FlW.nil {Ss : List (World → Prop)} {a : Act} {w : World} (h : Q .normal a w) : FlW P ops Q [] Ss a w := ⟨h⟩
theorem FlW.heads {os : List Oper} {r : List (List Oper × Option (Oper × List Bool))} {Ss : List (World → Prop)} {a : Act} {w : World} (S : World → Prop) (hS : S w) (h : StQ P ops S (fun a' => FlW P ops Q r (S :: Ss) a' w) os a) : FlW P ops Q ((os, none) :: r) Ss a w :=
  ⟨⟨S, hS, stQ_mono (fun _ k => k.out) os a h.out⟩⟩
structure FlO (P : Program) (ops : Array Oper) (Q : Exit → Act → World → Prop) (o : Oper) (bs : List Bool) (r : List (List Oper × Option (Oper × List Bool))) (Ss : List (World → Prop)) (a : Act) (w : World) : Prop where
  mk :: (out : if Region.wanted o (yielded ops a.tmps) = true then o.wp P a w (fun a'' w' => (w' = w ∨ oblig bs Ss w') ∧ fl P ops Q r Ss a'' w') Q else fl P ops Q r Ss (a.put o.dst undef) w)
theorem FlW.stage {os : List Oper} {o : Oper} {bs : List Bool} {r : List (List Oper × Option (Oper × List Bool))} {Ss : List (World → Prop)} {a : Act} {w : World} (S : World → Prop) (hS : S w) (h : StQ P ops S (fun a' => FlO P ops Q o bs r (S :: Ss) a' w) os a) : FlW P ops Q ((os, some (o, bs)) :: r) Ss a w :=
  ⟨⟨S, hS, stQ_mono (fun _ k => k.out) os a h.out⟩⟩
theorem FlO.go {o : Oper} {bs : List Bool} {r : List (List Oper × Option (Oper × List Bool))} {Ss : List (World → Prop)} {a : Act} {w : World} (hw : Region.wanted o (yielded ops a.tmps) = true)
    (h : ∀ K : Act → World → Prop, Shut1 (∀ a' w', (w' = w ∨ oblig bs Ss w') → FlW P ops Q r Ss a' w' → K a' w') → o.wp P a w K Q) : FlO P ops Q o bs r Ss a w :=
  ⟨by rw [if_pos hw]; exact h _ ⟨fun a w h1 k => ⟨h1, k.out⟩⟩⟩
theorem FlO.skip {o : Oper} {bs : List Bool} {r : List (List Oper × Option (Oper × List Bool))} {Ss : List (World → Prop)} {a : Act} {w : World} (hw : Region.wanted o (yielded ops a.tmps) = false) (h : FlW P ops Q r Ss (a.put o.dst undef) w) : FlO P ops Q o bs r Ss a w :=
  ⟨by rw [if_neg (by rw [hw]; decide)]; exact h.out⟩

/-- A region in stages. -/
theorem wp_region_flow {id : Nat} {a : Act} {w : World} {l : List Oper} (sg : List (List Nat × Option (Nat × List Bool))) (hm : P.follows .mixedOrders = true)
    (hB : (Region.noSelect l.toArray && flB l.toArray sg [] (Array.replicate l.toArray.size false) && decide (totF sg = l.length)) = true)
    (h : FlW P l.toArray (Calm Q) (opsF l sg) [] a { w with drawn := w.drawn + 1 }) : (Code.region id l.toArray true).wp P Q a w := by
  simp only [Bool.and_eq_true, decide_eq_true_eq] at hB
  obtain ⟨⟨hsel, hB⟩, hlen⟩ := hB
  refine Code.wp_mono (Q := Calm Q) (fun e a w h => ?_) ?_
  · cases e <;> first | exact h | exact False.elim h
  refine wp_region_any hm ?_
  have := wpAny_of_G _ _ _ _ (wpAnyG_fl (P := P) (Q := Calm Q) (ops := l.toArray) rfl hsel (fun _ _ _ _ _ h => h) sg [] [] _ a _ (fun j oj _ hl => by rw [getD_replicate_false] at hl; cases hl) hB h.out)
  rw [hlen] at this
  simpa using this

/-- A region where, behind what reads, two operations stand in whatever order. -/
def forkB (ops : Array Oper) (hs : List Nat) (k1 : Nat) (bs1 : List Bool) (sg1 : List (List Nat × Option (Nat × List Bool))) (k2 : Nat) (bs2 : List Bool) (sg2 : List (List Nat × Option (Nat × List Bool))) : Bool :=
  match headC ops hs (Array.replicate ops.size false) with
  | some l' => decide (Region.ready .any ops l' = [k1, k2]) && (bs1 == [Fst ops hs k1]) && (bs2 == [Fst ops hs k2]) && flB ops sg1 [hs] (l'.setIfInBounds k1 true) && flB ops sg2 [hs] (l'.setIfInBounds k2 true) && (totF sg1 == totF sg2)
  | none => false
theorem wp_region_fork {id : Nat} {a : Act} {w : World} {l : List Oper} (hs : List Nat) (k1 : Nat) (bs1 : List Bool) (sg1 : List (List Nat × Option (Nat × List Bool))) (k2 : Nat) (bs2 : List Bool) (sg2 : List (List Nat × Option (Nat × List Bool))) (hm : P.follows .mixedOrders = true)
    (hB : (Region.noSelect l.toArray && forkB l.toArray hs k1 bs1 sg1 k2 bs2 sg2 && decide (hs.length + (totF sg1 + 1) = l.length)) = true) (S : World → Prop) (hS : S { w with drawn := w.drawn + 1 })
    (h : StQ P l.toArray S (fun a' => FlO P l.toArray (Calm Q) (l.getD k1 default) bs1 (opsF l sg1) [S] a' { w with drawn := w.drawn + 1 } ∧ FlO P l.toArray (Calm Q) (l.getD k2 default) bs2 (opsF l sg2) [S] a' { w with drawn := w.drawn + 1 }) (hs.map fun k => l.getD k default) a) :
    (Code.region id l.toArray true).wp P Q a w := by
  simp only [Bool.and_eq_true, decide_eq_true_eq] at hB
  obtain ⟨⟨hsel, hB⟩, hlen⟩ := hB
  refine Code.wp_mono (Q := Calm Q) (fun e a w h => ?_) ?_
  · cases e <;> first | exact h | exact False.elim h
  refine wp_region_any hm ?_
  unfold forkB at hB
  split at hB
  case h_2 => cases hB
  rename_i l' hl'
  simp only [Bool.and_eq_true, decide_eq_true_eq, beq_iff_eq] at hB
  obtain ⟨⟨⟨⟨⟨hrd, hb1⟩, hb2⟩, hf1⟩, hf2⟩, htt⟩ := hB
  have hq : ∀ c a d v w, Calm Q (.panic c) (Act.put a d v) w → Calm Q (.panic c) a w := fun _ _ _ _ _ h => h
  have := wpAny_of_G _ _ _ _ (wpAnyG_lex (P := P) (Q := Calm Q) (ops := l.toArray) rfl hsel hq (ps := []) (Ss := []) hS (g := totF sg1 + 1) (l' := l') (fun a' hc' hLq => ?_) hs _ a (fun k h => h) (fun j oj _ hl => by rw [getD_replicate_false] at hl; cases hl) hl' h.out)
  · rw [hlen] at this
    simpa using this
  · refine ⟨fun h1 => (by rw [hrd] at h1; cases h1), fun i hi' => ?_⟩
    have hi2 := hi'
    obtain ⟨_, o, ho, _⟩ := mem_ready.1 hi'
    have h0 : l.getD i default = o := by rw [List.getD_eq_getElem?_getD]; simp at ho; rw [ho]; rfl
    rw [hrd] at hi'
    have key : ∀ (bs : List Bool) (sg : List (List Nat × Option (Nat × List Bool))), bs = [Fst l.toArray hs i] → flB l.toArray sg [hs] (l'.setIfInBounds i true) = true → FlO P l.toArray (Calm Q) o bs (opsF l sg) [S] a' { w with drawn := w.drawn + 1 } →
        wpOp P l.toArray (Calm Q) i (fun a'' w' => Gd l.toArray [hs] [S] i { w with drawn := w.drawn + 1 } w' ∧ wpAnyG P l.toArray (Calm Q) (Gd l.toArray [hs] [S]) (totF sg) (l'.setIfInBounds i true) a'' w') a' { w with drawn := w.drawn + 1 } := fun bs sg hbs hfl hO => by
      have hO := hO.out
      unfold wpOp
      simp only [ho]
      split
      · rename_i hw
        rw [if_pos hw] at hO
        refine .inl (Oper.wp_mono (fun a'' w' h' => ⟨?_, wpAnyG_fl rfl hsel hq sg [hs] [S] _ a'' w' (closed_set hc' hi2) hfl h'.2⟩) hO)
        rcases h'.1 with h1 | h1
        · exact .inl h1
        · rw [hbs] at h1
          exact .inr (oblig_spec _ _ h1)
      · rename_i hw
        rw [if_neg hw] at hO
        exact ⟨.inl rfl, wpAnyG_fl rfl hsel hq sg [hs] [S] _ _ _ (closed_set hc' hi2) hfl hO⟩
    rcases List.mem_cons.1 hi' with rfl | hi'
    · rw [h0] at hLq
      exact key bs1 sg1 hb1 hf1 hLq.1
    · have hik : i = k2 := by simpa using hi'
      subst hik
      rw [h0] at hLq
      have := key bs2 sg2 hb2 hf2 hLq.2
      rwa [← htt] at this
end
end Go.Proofs.Ytjbhcmkloamcmaa
