/- A region whose order is open, where what is read lies beside what makes memory, or calls: S holds of every world in which something may still be read. -/
import Derived.Test.YtjbhcmkloamcmaaRes
import Derived.Test.YtjbhcmkloamcmaaReg
import Derived.OrdersHeld
namespace Go.Proofs.Ytjbhcmkloamcmaa

section
variable {P : Program} {ops : Array Oper} {Q : Exit → Act → World → Prop} {S : World → Prop}

/-- Whatever order is picked; behind an operation of which f says so, S holds. -/
def wpAnyF (P : Program) (ops : Array Oper) (Q : Exit → Act → World → Prop) (S : World → Prop) (f : Nat → Bool) : Nat → Array Bool → Act → World → Prop
  | 0, listed, a, w => Region.ready .any ops listed = [] ∧ Q .normal a w
  | fuel + 1, listed, a, w =>
    (Region.ready .any ops listed = [] → Q .normal a w) ∧
    ∀ i ∈ Region.ready .any ops listed, wpOp P ops Q i (fun a' w' => (f i = true → S w') ∧ wpAnyF P ops Q S f fuel (listed.setIfInBounds i true) a' w') a w

theorem wpAny_of_F {f : Nat → Bool} : ∀ (fuel : Nat) (listed : Array Bool) (a : Act) (w : World), wpAnyF P ops Q S f fuel listed a w → wpAny P .any ops Q fuel listed a w
  | 0, _, _, _, h => h
  | fuel + 1, _, _, _, h => ⟨h.1, fun i hi => wpOp_mono (fun a' w' h' => wpAny_of_F fuel _ a' w' h'.2) (h.2 i hi)⟩

theorem closed_set {i : Nat} {listed : Array Bool} (inv : Closed ops listed) (hi : i ∈ Region.ready .any ops listed) : Closed ops (listed.setIfInBounds i true) := by
  obtain ⟨_, oi, hoi, hall⟩ := mem_ready.1 hi
  intro j oj hj hl e he hb
  by_cases hij : i = j
  · subst hij
    have : oj = oi := Option.some.inj (hj.symm.trans hoi)
    subst this
    exact getD_set_true (hall e he hb)
  · rw [getD_set_ne false hij] at hl
    exact getD_set_true (inv j oj hj hl e he hb)

/-- What reads is taken first, if whatever waits not for it keeps S. -/
theorem wpAnyF_first {f : Nat → Bool} {i : Nat} {oi : Oper} {v : Value} (hi : ops[i]? = some oi) (hsel : ∀ (j : Nat) (o : Oper) cs b, ops[j]? = some o → o.op ≠ .select cs b)
    (hQ : ∀ c a w, Q (.panic c) (a.put oi.dst v) w → Q (.panic c) a w) (hfi : f i = true) (hF : ∀ j, f j = false → waits ops ops.size j i = true) :
    ∀ (fuel : Nat) (listed : Array Bool) (a : Act) (w : World), Closed ops listed →
      (∀ j oj, ops[j]? = some oj → j ≠ i → listed.getD j true = false → (∀ e ∈ oj.after, Region.binds .any e = true → e.on ≠ i) → oi.apart ops oj = true) →
      i ∈ Region.ready .any ops listed → YieldsIf P ops S oi v a → S w →
      wpAnyF P ops Q S f fuel (listed.setIfInBounds i true) (a.put oi.dst v) w → wpAnyF P ops Q S f (fuel + 1) listed a w := by
  intro fuel
  induction fuel with
  | zero =>
    intro listed a w hcl _ hr hy hS H
    refine ⟨fun h => (by rw [h] at hr; cases hr), fun j hj => ?_⟩
    by_cases hji : j = i
    · subst hji; exact hy.wpOp hi hS ⟨fun _ => hS, H⟩
    · have := ready_mono hj hji
      rw [H.1] at this
      cases this
  | succ fuel ih =>
    intro listed a w hcl hfree hr hy hS H
    have hun := (mem_ready.1 hr).1
    refine ⟨fun h => (by rw [h] at hr; cases hr), fun j hj => ?_⟩
    by_cases hji : j = i
    · subst hji; exact hy.wpOp hi hS ⟨fun _ => hS, H⟩
    · have h1 := H.2 j (ready_mono hj hji)
      obtain ⟨hjun, oj, hoj, hall⟩ := mem_ready.1 hj
      have hfj : f j = true := by
        cases hf : f j with
        | true => rfl
        | false =>
          have h2 := waits_spec hcl _ _ _ (hF j hf) fun o ho e he hb => by
            have : o = oj := Option.some.inj (ho.symm.trans hoj)
            subst this
            exact hall e he hb
          rw [getD_both hun] at h2
          cases h2
      have hnot : ∀ e ∈ oj.after, Region.binds .any e = true → e.on ≠ i := fun e he hb heq => by
        have h1 := hall e he hb
        rw [heq, getD_both hun] at h1
        cases h1
      have h2 := wpOp_putIf hoj (hfree j oj hoj hji hjun hnot) (fun cs b => hsel i oi cs b hi) (fun cs b => hsel j oj cs b hoj) hQ hy h1
      have hfree' : ∀ k ok, ops[k]? = some ok → k ≠ i → (listed.setIfInBounds j true).getD k true = false →
          (∀ e ∈ ok.after, Region.binds .any e = true → e.on ≠ i) → oi.apart ops ok = true := fun k ok hk hki hun hno => by
        refine hfree k ok hk hki ?_ hno
        by_cases hjk : j = k
        · subst hjk; exact hjun
        · rw [getD_set_ne true hjk] at hun; exact hun
      refine wpOp_mono (fun a' w' h3 => ⟨h3.2.1, ih (listed.setIfInBounds j true) a' w' (closed_set hcl hj) hfree' (ready_mono hr (Ne.symm hji)) h3.1 (h3.2.1 hfj) ?_⟩) h2
      rw [Array.setIfInBounds_comm _ _ hji]
      exact h3.2.2

/-- The reads, in an order: each yields what it yields in every world that meets S. -/
def stQ (P : Program) (ops : Array Oper) (S : World → Prop) (Lq : Act → Prop) : List Oper → Act → Prop
  | [], a => Lq a
  | o :: rest, a => if Region.wanted o (yielded ops a.tmps) = true then ∃ v, (∀ w, S w → (execOp a.eval o).run P w = .ok (.value v) w) ∧ stQ P ops S Lq rest (a.put o.dst v) else stQ P ops S Lq rest (a.put o.dst undef)
structure StQ (P : Program) (ops : Array Oper) (S : World → Prop) (Lq : Act → Prop) (l : List Oper) (a : Act) : Prop where mk :: (out : stQ P ops S Lq l a)
theorem StQ.nil {Lq : Act → Prop} {a : Act} (h : Lq a) : StQ P ops S Lq [] a := ⟨h⟩
theorem StQ.go {Lq : Act → Prop} {a : Act} {o : Oper} {rest : List Oper} (v : Value) (hw : Region.wanted o (yielded ops a.tmps) = true) (hv : ∀ w, S w → (execOp a.eval o).run P w = .ok (.value v) w)
    (h : StQ P ops S Lq rest (a.put o.dst v)) : StQ P ops S Lq (o :: rest) a := ⟨by unfold stQ; rw [if_pos hw]; exact ⟨v, hv, h.out⟩⟩
theorem StQ.go' {Lq : Act → Prop} {a : Act} {o : Oper} {rest : List Oper} (hw : Region.wanted o (yielded ops a.tmps) = true) (h : ∃ v, (∀ w, S w → (execOp a.eval o).run P w = .ok (.value v) w) ∧ StQ P ops S Lq rest (a.put o.dst v)) : StQ P ops S Lq (o :: rest) a := by
  obtain ⟨v, hv, h⟩ := h
  exact .go v hw hv h
theorem StQ.skip {Lq : Act → Prop} {a : Act} {o : Oper} {rest : List Oper} (hw : Region.wanted o (yielded ops a.tmps) = false) (h : StQ P ops S Lq rest (a.put o.dst undef)) : StQ P ops S Lq (o :: rest) a :=
  ⟨by unfold stQ; rw [if_neg (by rw [hw]; decide)]; exact h.out⟩
/-- The rest, one behind the other; where it is said, S holds behind it. -/
def tlF (P : Program) (ops : Array Oper) (Q : Exit → Act → World → Prop) (S : World → Prop) : List (Oper × Bool) → Act → World → Prop
  | [], a, w => Q .normal a w
  | (o, f) :: r, a, w => if Region.wanted o (yielded ops a.tmps) = true then o.wp P a w (fun a' w' => (f = true → S w') ∧ tlF P ops Q S r a' w') Q else (f = true → S w) ∧ tlF P ops Q S r (a.put o.dst undef) w
structure TlF (P : Program) (ops : Array Oper) (Q : Exit → Act → World → Prop) (S : World → Prop) (l : List (Oper × Bool)) (a : Act) (w : World) : Prop where mk :: (out : tlF P ops Q S l a w)
theorem TlF.nil {a : Act} {w : World} (h : Q .normal a w) : TlF P ops Q S [] a w := ⟨h⟩
theorem TlF.go {o : Oper} {f : Bool} {r : List (Oper × Bool)} {a : Act} {w : World} (hw : Region.wanted o (yielded ops a.tmps) = true)
    (h : ∀ K : Act → World → Prop, Shut1 (∀ a w, (f = true → S w) → TlF P ops Q S r a w → K a w) → o.wp P a w K Q) : TlF P ops Q S ((o, f) :: r) a w :=
  ⟨by unfold tlF; rw [if_pos hw]; exact h _ ⟨fun a w hS k => ⟨hS, k.out⟩⟩⟩
theorem TlF.skip {o : Oper} {f : Bool} {r : List (Oper × Bool)} {a : Act} {w : World} (hw : Region.wanted o (yielded ops a.tmps) = false) (hS : f = true → S w) (h : TlF P ops Q S r (a.put o.dst undef) w) : TlF P ops Q S ((o, f) :: r) a w :=
  ⟨by unfold tlF; rw [if_neg (by rw [hw]; decide)]; exact ⟨hS, h.out⟩⟩

theorem Kept.cellAt {T : Nat → Prop} {w w' : World} (h : Kept T w w') (p : Addr) (h1 : p.block < w.heap.size) (h2 : ¬ T p.block) : w'.cell? p = w.cell? p := World.cell?_of_block (h.block p.block h1 h2)
theorem Kept.cell0 {w w' : World} (h : Kept (fun _ => False) w w') (p : Addr) (h1 : p.block < w.heap.size) : w'.cell? p = w.cell? p := h.cellAt p h1 id
def flag (ts : List (Nat × Bool)) (k : Nat) : Bool := !(ts.any fun p => p.1 == k && !p.2)
def seqM (ops : Array Oper) : List (Nat × Bool) → Array Bool → Bool
  | [], listed => (Region.ready .any ops listed).isEmpty
  | (k, _) :: ks, listed => decide (Region.ready .any ops listed = [k]) && seqM ops ks (listed.setIfInBounds k true)
def headM (ops : Array Oper) (ts : List (Nat × Bool)) : List Nat → Array Bool → Bool
  | [], listed => seqM ops ts listed
  | k :: ks, listed => (Region.ready .any ops listed).contains k && Region.free .any ops listed k && headM ops ts ks (listed.setIfInBounds k true)
def mixB (ops : Array Oper) (hs : List Nat) (ts : List (Nat × Bool)) : Bool :=
  Region.noSelect ops && (ts.all fun p => flag ts p.1 == p.2) && (hs.all fun i => flag ts i) && (ts.all fun p => p.2 || hs.all fun i => waits ops ops.size p.1 i) && headM ops ts hs (Array.replicate ops.size false)

theorem wpAnyF_seq {l : List Oper} (hl : ops = l.toArray) {f : Nat → Bool} : ∀ (ts : List (Nat × Bool)) (listed : Array Bool) (a : Act) (w : World), (∀ p ∈ ts, f p.1 = p.2) → seqM ops ts listed = true →
    tlF P ops Q S (ts.map fun p => (l.getD p.1 default, p.2)) a w → wpAnyF P ops Q S f ts.length listed a w
  | [], _, _, _, _, hB, h => ⟨by simpa [seqM] using hB, h⟩
  | (k, b) :: ks, listed, a, w, hf, hB, h => by
    simp only [seqM, Bool.and_eq_true, decide_eq_true_eq] at hB
    refine ⟨fun h1 => (by rw [hB.1] at h1; cases h1), fun i hi => ?_⟩
    obtain ⟨_, o, ho, _⟩ := mem_ready.1 hi
    rw [hB.1] at hi
    have hik : i = k := by simpa using hi
    subst hik
    have h0 : l.getD i default = o := by subst hl; rw [List.getD_eq_getElem?_getD]; simp at ho; rw [ho]; rfl
    have hfi : f i = b := hf (i, b) (by simp)
    rw [List.map_cons] at h
    simp only [h0] at h
    unfold tlF at h
    unfold wpOp
    simp only [ho]
    split
    · rename_i hw
      rw [if_pos hw] at h
      refine .inl (Oper.wp_mono (fun a' w' h' => ⟨fun e => h'.1 (hfi ▸ e), wpAnyF_seq hl ks _ a' w' (fun p hp => hf p (by simp [hp])) hB.2 h'.2⟩) h)
    · rename_i hw
      rw [if_neg hw] at h
      exact ⟨fun e => h.1 (hfi ▸ e), wpAnyF_seq hl ks _ _ w (fun p hp => hf p (by simp [hp])) hB.2 h.2⟩

theorem wpAnyF_lex {l : List Oper} (hl : ops = l.toArray) {hs : List Nat} {ts : List (Nat × Bool)} (hB0 : mixB ops hs ts = true) (hQ : ∀ c a d v w, Q (.panic c) (Act.put a d v) w → Q (.panic c) a w) (w : World) (hS : S w) :
    ∀ (ks : List Nat) (listed : Array Bool) (a : Act), (∀ k ∈ ks, k ∈ hs) → Closed ops listed → headM ops ts ks listed = true →
      stQ P ops S (fun a' => tlF P ops Q S (ts.map fun p => (l.getD p.1 default, p.2)) a' w) (ks.map fun k => l.getD k default) a → wpAnyF P ops Q S (flag ts) (ks.length + ts.length) listed a w
  | [], listed, a, _, _, hB, h => by
    simp only [mixB, Bool.and_eq_true] at hB0
    have := wpAnyF_seq (f := flag ts) hl ts listed a w (fun p hp => by have := List.all_eq_true.1 hB0.1.1.1.2 p hp; simpa using this) (by simpa [headM] using hB) (by simpa [stQ] using h)
    simpa using this
  | k :: ks, listed, a, hk, hcl, hB, h => by
    simp only [headM, Bool.and_eq_true] at hB
    obtain ⟨⟨hr, hf⟩, hB'⟩ := hB
    have hr' : k ∈ Region.ready .any ops listed := by simpa using hr
    obtain ⟨_, o, ho, _⟩ := mem_ready.1 hr'
    have hkh := hk k (by simp)
    have hB1 := hB0
    simp only [mixB, Bool.and_eq_true] at hB1
    have h0 : l.getD k default = o := by subst hl; rw [List.getD_eq_getElem?_getD]; simp at ho; rw [ho]; rfl
    rw [List.map_cons, h0] at h
    rw [show (k :: ks).length + ts.length = (ks.length + ts.length) + 1 by simp; omega]
    have hF : ∀ j, flag ts j = false → waits ops ops.size j k = true := fun j hj => by
      simp only [flag, Bool.not_eq_false', List.any_eq_true, Bool.and_eq_true, beq_iff_eq, Bool.not_eq_true'] at hj
      obtain ⟨⟨j', b⟩, hp, h1, h2⟩ := hj
      simp only at h1 h2
      subst h1 h2
      have h3 := List.all_eq_true.1 hB1.1.2 _ hp
      simp only [Bool.false_or] at h3
      exact List.all_eq_true.1 h3 k hkh
    have hfk := List.all_eq_true.1 hB1.1.1.2 k hkh
    unfold stQ at h
    split at h
    · rename_i hw
      obtain ⟨v, hv, h'⟩ := h
      exact wpAnyF_first ho (Region.noSelect_spec hB1.1.1.1.1) (fun c a w => hQ c a _ _ w) hfk hF _ listed a w hcl (Region.free_spec ho hf) hr' (.inl ⟨hw, hv⟩) hS
        (wpAnyF_lex hl hB0 hQ w hS ks _ _ (fun k' h' => hk k' (by simp [h'])) (closed_set hcl hr') hB' h')
    · rename_i hw
      exact wpAnyF_first ho (Region.noSelect_spec hB1.1.1.1.1) (fun c a w => hQ c a _ _ w) hfk hF _ listed a w hcl (Region.free_spec ho hf) hr' (.inr ⟨by simpa using hw, rfl⟩) hS
        (wpAnyF_lex hl hB0 hQ w hS ks _ _ (fun k' h' => hk k' (by simp [h'])) (closed_set hcl hr') hB' h)

/-- A region: what reads, in this order; the rest, in this order. -/
theorem wp_region_mix {id : Nat} {a : Act} {w : World} {l : List Oper} (S : World → Prop) (hs : List Nat) (ts : List (Nat × Bool)) (hm : P.follows .mixedOrders = true)
    (hB : (mixB l.toArray hs ts && decide (hs.length + ts.length = l.length)) = true) (hS : S { w with drawn := w.drawn + 1 })
    (h : StQ P l.toArray S (fun a' => TlF P l.toArray (Calm Q) S (ts.map fun p => (l.getD p.1 default, p.2)) a' { w with drawn := w.drawn + 1 }) (hs.map fun k => l.getD k default) a) : (Code.region id l.toArray true).wp P Q a w := by
  simp only [Bool.and_eq_true, decide_eq_true_eq] at hB
  obtain ⟨hB, hlen⟩ := hB
  refine Code.wp_mono (Q := Calm Q) (fun e a w h => ?_) ?_
  · cases e <;> first | exact h | exact False.elim h
  refine wp_region_any hm (wpAny_of_F _ _ _ _ ?_ (S := S) (f := flag ts))
  have hh : headM l.toArray ts hs (Array.replicate l.toArray.size false) = true := by simp only [mixB, Bool.and_eq_true] at hB; exact hB.2
  have hmono : ∀ (ks : List Oper) (a : Act), stQ P l.toArray S (fun a' => TlF P l.toArray (Calm Q) S (ts.map fun p => (l.getD p.1 default, p.2)) a' { w with drawn := w.drawn + 1 }) ks a → stQ P l.toArray S (fun a' => tlF P l.toArray (Calm Q) S (ts.map fun p => (l.getD p.1 default, p.2)) a' { w with drawn := w.drawn + 1 }) ks a := by
    intro ks
    induction ks with
    | nil => intro a h; exact TlF.out h
    | cons o ks ih =>
      intro a h
      unfold stQ at h ⊢
      split
      · rename_i hw
        rw [if_pos hw] at h
        obtain ⟨v, hv, h'⟩ := h
        exact ⟨v, hv, ih _ h'⟩
      · rename_i hw
        rw [if_neg hw] at h
        exact ih _ h
  have := wpAnyF_lex (P := P) (Q := Calm Q) (S := S) (ops := l.toArray) rfl hB (fun _ _ _ _ _ h => h) _ hS hs _ a (fun k hk => hk) (fun j oj _ hl => by rw [getD_replicate_false] at hl; cases hl) hh (hmono _ _ h.out)
  rw [hlen] at this
  simpa using this
end
end Go.Proofs.Ytjbhcmkloamcmaa
