/- A region whose order is open: reads first, then the rest one behind the other; among the rest, moves that may be drawn anywhere. -/
import Derived.Test.YtjbhcmkloamcmaaMix
namespace Go.Proofs.Ytjbhcmkloamcmaa

section
variable {P : Program} {ops : Array Oper} {Q : Exit → Act → World → Prop} {S : World → Prop}

/-- What yields in every world is taken first. -/
theorem wpAnyF_move {f : Nat → Bool} {i : Nat} {oi : Oper} {v : Value} (hi : ops[i]? = some oi) (hsel : ∀ (j : Nat) (o : Oper) cs b, ops[j]? = some o → o.op ≠ .select cs b)
    (hQ : ∀ c a w, Q (.panic c) (a.put oi.dst v) w → Q (.panic c) a w) (hfi : f i = false) :
    ∀ (fuel : Nat) (listed : Array Bool) (a : Act) (w : World), Closed ops listed →
      (∀ j oj, ops[j]? = some oj → j ≠ i → listed.getD j true = false → (∀ e ∈ oj.after, Region.binds .any e = true → e.on ≠ i) → oi.apart ops oj = true) →
      i ∈ Region.ready .any ops listed → YieldsIf P ops (fun _ => True) oi v a →
      wpAnyF P ops Q S f fuel (listed.setIfInBounds i true) (a.put oi.dst v) w → wpAnyF P ops Q S f (fuel + 1) listed a w := by
  intro fuel
  induction fuel with
  | zero =>
    intro listed a w hcl _ hr hy H
    refine ⟨fun h => (by rw [h] at hr; cases hr), fun j hj => ?_⟩
    by_cases hji : j = i
    · subst hji; exact hy.wpOp hi trivial ⟨fun h => by (rw [hfi] at h; cases h), H⟩
    · have := ready_mono hj hji
      rw [H.1] at this
      cases this
  | succ fuel ih =>
    intro listed a w hcl hfree hr hy H
    have hun := (mem_ready.1 hr).1
    refine ⟨fun h => (by rw [h] at hr; cases hr), fun j hj => ?_⟩
    by_cases hji : j = i
    · subst hji; exact hy.wpOp hi trivial ⟨fun h => by (rw [hfi] at h; cases h), H⟩
    · have h1 := H.2 j (ready_mono hj hji)
      obtain ⟨hjun, oj, hoj, hall⟩ := mem_ready.1 hj
      have hnot : ∀ e ∈ oj.after, Region.binds .any e = true → e.on ≠ i := fun e he hb heq => by
        have h1 := hall e he hb
        rw [heq, getD_both hun] at h1
        cases h1
      have h2 := wpOp_putIf (S := fun _ => True) hoj (hfree j oj hoj hji hjun hnot) (fun cs b => hsel i oi cs b hi) (fun cs b => hsel j oj cs b hoj) hQ hy h1
      have hfree' : ∀ k ok, ops[k]? = some ok → k ≠ i → (listed.setIfInBounds j true).getD k true = false →
          (∀ e ∈ ok.after, Region.binds .any e = true → e.on ≠ i) → oi.apart ops ok = true := fun k ok hk hki hun hno => by
        refine hfree k ok hk hki ?_ hno
        by_cases hjk : j = k
        · subst hjk; exact hjun
        · rw [getD_set_ne true hjk] at hun; exact hun
      refine wpOp_mono (fun a' w' h3 => ⟨h3.2.1, ih (listed.setIfInBounds j true) a' w' (closed_set hcl hj) hfree' (ready_mono hr (Ne.symm hji)) h3.1 ?_⟩) h2
      rw [Array.setIfInBounds_comm _ _ hji]
      exact h3.2.2

/-- The rest: mode 0: a move that may be drawn anywhere; 1: S holds behind it; 2: nothing is said. -/
def tlX (P : Program) (ops : Array Oper) (Q : Exit → Act → World → Prop) (S : World → Prop) : List (Oper × Nat) → Act → World → Prop
  | [], a, w => Q .normal a w
  | (o, 0) :: r, a, w => if Region.wanted o (yielded ops a.tmps) = true then ∃ v, (∀ w, (execOp a.eval o).run P w = .ok (.value v) w) ∧ tlX P ops Q S r (a.put o.dst v) w else tlX P ops Q S r (a.put o.dst undef) w
  | (o, m + 1) :: r, a, w => if Region.wanted o (yielded ops a.tmps) = true then o.wp P a w (fun a' w' => (m = 0 → S w') ∧ tlX P ops Q S r a' w') Q else (m = 0 → S w) ∧ tlX P ops Q S r (a.put o.dst undef) w
structure TlX (P : Program) (ops : Array Oper) (Q : Exit → Act → World → Prop) (S : World → Prop) (l : List (Oper × Nat)) (a : Act) (w : World) : Prop where mk :: (out : tlX P ops Q S l a w)
theorem TlX.nil {a : Act} {w : World} (h : Q .normal a w) : TlX P ops Q S [] a w := ⟨h⟩
theorem TlX.move {o : Oper} {r : List (Oper × Nat)} {a : Act} {w : World} (hw : Region.wanted o (yielded ops a.tmps) = true)
    (h : ∃ v, (∀ w, (execOp a.eval o).run P w = .ok (.value v) w) ∧ TlX P ops Q S r (a.put o.dst v) w) : TlX P ops Q S ((o, 0) :: r) a w := by
  obtain ⟨v, hv, h⟩ := h
  exact ⟨by unfold tlX; rw [if_pos hw]; exact ⟨v, hv, h.out⟩⟩
theorem TlX.move_skip {o : Oper} {r : List (Oper × Nat)} {a : Act} {w : World} (hw : Region.wanted o (yielded ops a.tmps) = false) (h : TlX P ops Q S r (a.put o.dst undef) w) : TlX P ops Q S ((o, 0) :: r) a w :=
  ⟨by unfold tlX; rw [if_neg (by rw [hw]; decide)]; exact h.out⟩
theorem TlX.go {o : Oper} {m : Nat} {r : List (Oper × Nat)} {a : Act} {w : World} (hw : Region.wanted o (yielded ops a.tmps) = true)
    (h : ∀ K : Act → World → Prop, Shut1 (∀ a w, (m = 0 → S w) → TlX P ops Q S r a w → K a w) → o.wp P a w K Q) : TlX P ops Q S ((o, m + 1) :: r) a w :=
  ⟨by unfold tlX; rw [if_pos hw]; exact h _ ⟨fun a w hS k => ⟨hS, k.out⟩⟩⟩
theorem TlX.skip {o : Oper} {m : Nat} {r : List (Oper × Nat)} {a : Act} {w : World} (hw : Region.wanted o (yielded ops a.tmps) = false) (hS : m = 0 → S w) (h : TlX P ops Q S r (a.put o.dst undef) w) : TlX P ops Q S ((o, m + 1) :: r) a w :=
  ⟨by unfold tlX; rw [if_neg (by rw [hw]; decide)]; exact ⟨hS, h.out⟩⟩

def flagX (ts : List (Nat × Nat)) (k : Nat) : Bool := !(ts.any fun p => p.1 == k && p.2 != 1)
def seqX (ops : Array Oper) : List (Nat × Nat) → Array Bool → Bool
  | [], listed => (Region.ready .any ops listed).isEmpty
  | (k, m) :: ks, listed => (if m = 0 then (Region.ready .any ops listed).contains k && Region.free .any ops listed k else decide (Region.ready .any ops listed = [k])) && seqX ops ks (listed.setIfInBounds k true)
def headX (ops : Array Oper) (ts : List (Nat × Nat)) : List Nat → Array Bool → Bool
  | [], listed => seqX ops ts listed
  | k :: ks, listed => (Region.ready .any ops listed).contains k && Region.free .any ops listed k && headX ops ts ks (listed.setIfInBounds k true)
def mixX (ops : Array Oper) (hs : List Nat) (ts : List (Nat × Nat)) : Bool :=
  Region.noSelect ops && (ts.all fun p => flagX ts p.1 == (p.2 == 1)) && (hs.all fun i => flagX ts i) && (ts.all fun p => p.2 == 1 || hs.all fun i => waits ops ops.size p.1 i) && headX ops ts hs (Array.replicate ops.size false)

theorem wpAnyF_seqX {l : List Oper} (hl : ops = l.toArray) (hsel : Region.noSelect ops = true) (hQ : ∀ c a d v w, Q (.panic c) (Act.put a d v) w → Q (.panic c) a w) {f : Nat → Bool} :
    ∀ (ts : List (Nat × Nat)) (listed : Array Bool) (a : Act) (w : World), (∀ p ∈ ts, f p.1 = (p.2 == 1)) → Closed ops listed → seqX ops ts listed = true →
    tlX P ops Q S (ts.map fun p => (l.getD p.1 default, p.2)) a w → wpAnyF P ops Q S f ts.length listed a w
  | [], _, _, _, _, _, hB, h => ⟨by simpa [seqX] using hB, by simpa [tlX] using h⟩
  | (k, 0) :: ks, listed, a, w, hf, hcl, hB, h => by
    simp only [seqX, if_true, Bool.and_eq_true] at hB
    obtain ⟨⟨hr, hfr⟩, hB'⟩ := hB
    have hr' : k ∈ Region.ready .any ops listed := by simpa using hr
    obtain ⟨_, o, ho, _⟩ := mem_ready.1 hr'
    have h0 : l.getD k default = o := by subst hl; rw [List.getD_eq_getElem?_getD]; simp at ho; rw [ho]; rfl
    have hfi : f k = false := hf (k, 0) (by simp)
    rw [List.map_cons] at h
    simp only [h0] at h
    unfold tlX at h
    split at h
    · rename_i hw
      obtain ⟨v, hv, h'⟩ := h
      exact wpAnyF_move ho (Region.noSelect_spec hsel) (fun c a w => hQ c a _ _ w) hfi _ listed a w hcl (Region.free_spec ho hfr) hr' (.inl ⟨hw, fun w _ => hv w⟩)
        (wpAnyF_seqX hl hsel hQ ks _ _ _ (fun p hp => hf p (by simp [hp])) (closed_set hcl hr') hB' h')
    · rename_i hw
      exact wpAnyF_move ho (Region.noSelect_spec hsel) (fun c a w => hQ c a _ _ w) hfi _ listed a w hcl (Region.free_spec ho hfr) hr' (.inr ⟨by simpa using hw, rfl⟩)
        (wpAnyF_seqX hl hsel hQ ks _ _ _ (fun p hp => hf p (by simp [hp])) (closed_set hcl hr') hB' h)
  | (k, m + 1) :: ks, listed, a, w, hf, hcl, hB, h => by
    simp only [seqX, if_neg (Nat.succ_ne_zero m), Bool.and_eq_true, decide_eq_true_eq] at hB
    refine ⟨fun h1 => (by rw [hB.1] at h1; cases h1), fun i hi => ?_⟩
    have hi' := hi
    obtain ⟨_, o, ho, _⟩ := mem_ready.1 hi
    rw [hB.1] at hi
    have hik : i = k := by simpa using hi
    subst hik
    have h0 : l.getD i default = o := by subst hl; rw [List.getD_eq_getElem?_getD]; simp at ho; rw [ho]; rfl
    have hfi : f i = true → m = 0 := fun e => by
      have := hf (i, m + 1) (by simp)
      rw [e] at this
      simpa using this.symm
    rw [List.map_cons] at h
    simp only [h0] at h
    unfold tlX at h
    unfold wpOp
    simp only [ho]
    split
    · rename_i hw
      rw [if_pos hw] at h
      exact .inl (Oper.wp_mono (fun a' w' h' => ⟨fun e => h'.1 (hfi e), wpAnyF_seqX hl hsel hQ ks _ a' w' (fun p hp => hf p (by simp [hp])) (closed_set hcl hi') hB.2 h'.2⟩) h)
    · rename_i hw
      rw [if_neg hw] at h
      exact ⟨fun e => h.1 (hfi e), wpAnyF_seqX hl hsel hQ ks _ _ w (fun p hp => hf p (by simp [hp])) (closed_set hcl hi') hB.2 h.2⟩

theorem wpAnyF_lexX {l : List Oper} (hl : ops = l.toArray) {hs : List Nat} {ts : List (Nat × Nat)} (hB0 : mixX ops hs ts = true) (hQ : ∀ c a d v w, Q (.panic c) (Act.put a d v) w → Q (.panic c) a w) (w : World) (hS : S w) :
    ∀ (ks : List Nat) (listed : Array Bool) (a : Act), (∀ k ∈ ks, k ∈ hs) → Closed ops listed → headX ops ts ks listed = true →
      stQ P ops S (fun a' => tlX P ops Q S (ts.map fun p => (l.getD p.1 default, p.2)) a' w) (ks.map fun k => l.getD k default) a → wpAnyF P ops Q S (flagX ts) (ks.length + ts.length) listed a w
  | [], listed, a, _, hcl, hB, h => by
    simp only [mixX, Bool.and_eq_true] at hB0
    have := wpAnyF_seqX (f := flagX ts) hl hB0.1.1.1.1 hQ ts listed a w (fun p hp => by have := List.all_eq_true.1 hB0.1.1.1.2 p hp; simpa using this) hcl (by simpa [headX] using hB) (by simpa [stQ] using h)
    simpa using this
  | k :: ks, listed, a, hk, hcl, hB, h => by
    simp only [headX, Bool.and_eq_true] at hB
    obtain ⟨⟨hr, hf⟩, hB'⟩ := hB
    have hr' : k ∈ Region.ready .any ops listed := by simpa using hr
    obtain ⟨_, o, ho, _⟩ := mem_ready.1 hr'
    have hkh := hk k (by simp)
    have hB1 := hB0
    simp only [mixX, Bool.and_eq_true] at hB1
    have h0 : l.getD k default = o := by subst hl; rw [List.getD_eq_getElem?_getD]; simp at ho; rw [ho]; rfl
    rw [List.map_cons, h0] at h
    rw [show (k :: ks).length + ts.length = (ks.length + ts.length) + 1 by simp; omega]
    have hF : ∀ j, flagX ts j = false → waits ops ops.size j k = true := fun j hj => by
      simp only [flagX, Bool.not_eq_false', List.any_eq_true, Bool.and_eq_true, beq_iff_eq, bne_iff_ne] at hj
      obtain ⟨⟨j', b⟩, hp, h1, h2⟩ := hj
      simp only at h1 h2
      subst h1
      have h3 := List.all_eq_true.1 hB1.1.2 _ hp
      simp only [Bool.or_eq_true, beq_iff_eq] at h3
      exact List.all_eq_true.1 (h3.resolve_left h2) k hkh
    have hfk := List.all_eq_true.1 hB1.1.1.2 k hkh
    unfold stQ at h
    split at h
    · rename_i hw
      obtain ⟨v, hv, h'⟩ := h
      exact wpAnyF_first ho (Region.noSelect_spec hB1.1.1.1.1) (fun c a w => hQ c a _ _ w) hfk hF _ listed a w hcl (Region.free_spec ho hf) hr' (.inl ⟨hw, hv⟩) hS
        (wpAnyF_lexX hl hB0 hQ w hS ks _ _ (fun k' h' => hk k' (by simp [h'])) (closed_set hcl hr') hB' h')
    · rename_i hw
      exact wpAnyF_first ho (Region.noSelect_spec hB1.1.1.1.1) (fun c a w => hQ c a _ _ w) hfk hF _ listed a w hcl (Region.free_spec ho hf) hr' (.inr ⟨by simpa using hw, rfl⟩) hS
        (wpAnyF_lexX hl hB0 hQ w hS ks _ _ (fun k' h' => hk k' (by simp [h'])) (closed_set hcl hr') hB' h)

/-- A region: what reads, in this order; the rest, in this order; a move of the rest (mode 0) may be drawn anywhere. -/
theorem wp_region_mixX {id : Nat} {a : Act} {w : World} {l : List Oper} (S : World → Prop) (hs : List Nat) (ts : List (Nat × Nat)) (hm : P.follows .mixedOrders = true)
    (hB : (mixX l.toArray hs ts && decide (hs.length + ts.length = l.length)) = true) (hS : S { w with drawn := w.drawn + 1 })
    (h : StQ P l.toArray S (fun a' => TlX P l.toArray (Calm Q) S (ts.map fun p => (l.getD p.1 default, p.2)) a' { w with drawn := w.drawn + 1 }) (hs.map fun k => l.getD k default) a) : (Code.region id l.toArray true).wp P Q a w := by
  simp only [Bool.and_eq_true, decide_eq_true_eq] at hB
  obtain ⟨hB, hlen⟩ := hB
  refine Code.wp_mono (Q := Calm Q) (fun e a w h => ?_) ?_
  · cases e <;> first | exact h | exact False.elim h
  refine wp_region_any hm (wpAny_of_F _ _ _ _ ?_ (S := S) (f := flagX ts))
  have hh : headX l.toArray ts hs (Array.replicate l.toArray.size false) = true := by simp only [mixX, Bool.and_eq_true] at hB; exact hB.2
  have hmono : ∀ (ks : List Oper) (a : Act), stQ P l.toArray S (fun a' => TlX P l.toArray (Calm Q) S (ts.map fun p => (l.getD p.1 default, p.2)) a' { w with drawn := w.drawn + 1 }) ks a → stQ P l.toArray S (fun a' => tlX P l.toArray (Calm Q) S (ts.map fun p => (l.getD p.1 default, p.2)) a' { w with drawn := w.drawn + 1 }) ks a := by
    intro ks
    induction ks with
    | nil => intro a h; exact TlX.out h
    | cons o ks ih =>
      intro a h
      unfold stQ at h ⊢
      split
      · rename_i hw
        rw [if_pos hw] at h
        obtain ⟨v, hv, h'⟩ := h
        exact ⟨v, hv, ih _ h'⟩
      · rename_i hw
        rw [if_neg hw] at h
        exact ih _ h
  have := wpAnyF_lexX (P := P) (Q := Calm Q) (S := S) (ops := l.toArray) rfl hB (fun _ _ _ _ _ h => h) _ hS hs _ a (fun k hk => hk) (fun j oj _ hl => by rw [getD_replicate_false] at hl; cases hl) hh (hmono _ _ h.out)
  rw [hlen] at this
  simpa using this
end
end Go.Proofs.Ytjbhcmkloamcmaa
