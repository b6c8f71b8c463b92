/- A region whose order is open, in stages: reads in the world as it is, then one operation, then reads again, and so on. -/
import Derived.Test.YtmbbfcpoiecfhaaReg
import Derived.Test.YtmbbfcpoiecfhaaMix
namespace Go.Proofs.Ytmbbfcpoiecfhaa

section
variable {P : Program} {ops : Array Oper} {w : World}

def headG (ops : Array Oper) (M : Array Bool → Bool) (all : List Nat) : List Nat → Array Bool → Bool
  | [], listed => M listed && all.all fun i => listed.getD i false
  | k :: ks, listed => (Region.ready .any ops listed).contains k && Region.free .any ops listed k && headG ops M all ks (listed.setIfInBounds k true)
theorem wpAnyP_lexG {ps hs ts : List Nat} {l : List Oper} (hl : ops = l.toArray) {M : Array Bool → Bool} {Lq : Act → Prop} (hsel : Region.noSelect ops = true) (hp : partB ops ps hs ts = true) :
    ∀ (ks : List Nat) (listed : Array Bool) (a : Act), (∀ k ∈ ks, k ∈ hs) → HInv ops ps ts listed → headG ops M hs ks listed = true → wpStill P ops w Lq (ks.map fun k => l.getD k default) a →
    wpAnyP P ops w hs (fun listed' a' => (M listed' = true ∧ HInv ops ps ts listed' ∧ ∀ i ∈ hs, listed'.getD i false = true) ∧ Lq a') ks.length listed a
  | [], listed, a, _, inv, hB, h => by
    simp only [headG, Bool.and_eq_true, List.all_eq_true] at hB
    exact ⟨⟨hB.1, inv, hB.2⟩, h⟩
  | k :: ks, listed, a, hk, inv, hB, h => by
    simp only [headG, Bool.and_eq_true] at hB
    obtain ⟨⟨hr, hf⟩, hB'⟩ := hB
    have hr' : k ∈ Region.ready .any ops listed := by simpa using hr
    obtain ⟨_, o, ho, _⟩ := mem_ready.1 hr'
    have hkh := hk k (by simp)
    have hnt : k ∉ ts := fun ht => by
      simp only [partB, Bool.and_eq_true, List.all_eq_true] at hp
      have := hp.1.2 k hkh
      simp [ht] at this
    have h0 : l.getD k default = o := by subst hl; rw [List.getD_eq_getElem?_getD]; simp at ho; rw [ho]; rfl
    rw [List.map_cons, h0] at h
    have hst : stOp P ops w k (wpStill P ops w Lq (ks.map fun k => l.getD k default)) a := by unfold stOp; simp only [ho]; exact h
    obtain ⟨v, hy, hK⟩ := yieldsAt_of_stOp ho hst
    exact wpAnyP_first ho (Region.noSelect_spec hsel) hp hkh (fun listed' a' hL j hj hjs => by
        have h1 := (mem_ready.1 hj).1
        have h2 := hL.1.2.2 j hjs
        rw [getD_both h1] at h2
        cases h2) ks.length listed a inv (Region.free_spec ho hf) hr' hy
      (wpAnyP_lexG hl hsel hp ks _ _ (fun k' h' => hk k' (by simp [h'])) (inv.set hr' hnt) hB' hK)

/-- The stages. -/
def wpSt (P : Program) (ops : Array Oper) (Q : Exit → Act → World → Prop) : List (List Oper × Option Oper) → Act → World → Prop
  | [], a, w => Q .normal a w
  | (os, none) :: r, a, w => wpStill P ops w (fun a' => wpSt P ops Q r a' w) os a
  | (os, some o) :: r, a, w => wpStill P ops w (fun a' => if Region.wanted o (yielded ops a'.tmps) = true then o.wp P a' w (fun a'' w' => wpSt P ops Q r a'' w') Q else wpSt P ops Q r (a'.put o.dst undef) w) os a
def idsOf (sg : List (List Nat × Option Nat)) : List Nat := sg.flatMap fun p => p.1 ++ p.2.toList
def total (sg : List (List Nat × Option Nat)) : Nat := match sg with
  | [] => 0
  | (hs, none) :: r => hs.length + total r
  | (hs, some _) :: r => hs.length + (total r + 1)
def invB (ops : Array Oper) (ps ts : List Nat) (listed : Array Bool) : Bool := decide (listed.size = ops.size) && (ts.all fun t => !listed.getD t true) && ps.all fun p => listed.getD p false
def stB (ops : Array Oper) : List (List Nat × Option Nat) → List Nat → Array Bool → Bool
  | [], _, listed => (Region.ready .any ops listed).isEmpty
  | (hs, none) :: r, ps, listed => partB ops ps hs (idsOf r) && invB ops ps (idsOf r) listed && headG ops (fun l' => stB ops r (ps ++ hs) l') hs hs listed
  | (hs, some k) :: r, ps, listed => partB ops ps hs (k :: idsOf r) && invB ops ps (k :: idsOf r) listed &&
      headG ops (fun l' => decide (Region.ready .any ops l' = [k]) && stB ops r (ps ++ hs ++ [k]) (l'.setIfInBounds k true)) hs hs listed
theorem invB_spec {ps ts : List Nat} {listed : Array Bool} (hc : Closed ops listed) (h : invB ops ps ts listed = true) : HInv ops ps ts listed := by
  simp only [invB, Bool.and_eq_true, List.all_eq_true, decide_eq_true_eq, Bool.not_eq_true'] at h
  exact ⟨h.1.1, hc, h.1.2, h.2⟩

def opsOf (l : List Oper) (sg : List (List Nat × Option Nat)) : List (List Oper × Option Oper) := sg.map fun p => (p.1.map fun k => l.getD k default, p.2.map fun k => l.getD k default)
theorem wpAny_st {Q : Exit → Act → World → Prop} {l : List Oper} (hl : ops = l.toArray) (hsel : Region.noSelect ops = true) :
    ∀ (sg : List (List Nat × Option Nat)) (ps : List Nat) (listed : Array Bool) (a : Act) (w : World), Closed ops listed → stB ops sg ps listed = true → wpSt P ops Q (opsOf l sg) a w → wpAny P .any ops Q (total sg) listed a w
  | [], _, listed, a, w, _, hB, h => ⟨by simpa [stB] using hB, h⟩
  | (hs, none) :: r, ps, listed, a, w, hc, hB, h => by
    simp only [stB, Bool.and_eq_true] at hB
    obtain ⟨⟨hp, hi⟩, hh⟩ := hB
    exact wpAny_of_headP (w := w) (fun listed' a' hL => wpAny_st hl hsel r _ listed' a' w hL.1.2.1.closed hL.1.1 hL.2) hs.length listed a
      (wpAnyP_lexG hl hsel hp hs listed a (fun k h => h) (invB_spec hc hi) hh h)
  | (hs, some k) :: r, ps, listed, a, w, hc, hB, h => by
    simp only [stB, Bool.and_eq_true] at hB
    obtain ⟨⟨hp, hi⟩, hh⟩ := hB
    refine wpAny_of_headP (w := w) (fun listed' a' hL => ?_) hs.length listed a (wpAnyP_lexG hl hsel hp hs listed a (fun k h => h) (invB_spec hc hi) hh h)
    obtain ⟨⟨hM, inv', _⟩, hq⟩ := hL
    simp only [Bool.and_eq_true, decide_eq_true_eq] at hM
    refine ⟨fun h1 => (by rw [hM.1] at h1; cases h1), fun i hi' => ?_⟩
    have hi2 := hi'
    obtain ⟨_, o, ho, _⟩ := mem_ready.1 hi'
    rw [hM.1] at hi'
    have hik : i = k := by simpa using hi'
    subst hik
    have h0 : l.getD i default = o := by subst hl; rw [List.getD_eq_getElem?_getD]; simp at ho; rw [ho]; rfl
    simp only [h0] at hq
    have hw : wpOp P ops Q i (fun a'' w' => wpSt P ops Q (opsOf l r) a'' w') a' w := by
      unfold wpOp
      simp only [ho]
      split
      · rename_i hw
        rw [if_pos hw] at hq
        exact .inl hq
      · rename_i hw
        rw [if_neg hw] at hq
        exact hq
    exact wpOp_mono (fun a'' w' h' => wpAny_st hl hsel r _ _ a'' w' (closed_set inv'.closed hi2) hM.2 h') hw

/-- 'wpSt', shut. -/
structure SgW (P : Program) (ops : Array Oper) (Q : Exit → Act → World → Prop) (sg : List (List Oper × Option Oper)) (a : Act) (w : World) : Prop where mk :: (out : wpSt P ops Q sg a w)
variable {Q : Exit → Act → World → Prop}
theorem SgW.nil {a : Act} {w : World} (h : Q .normal a w) : SgW P ops Q [] a w := ⟨h⟩
theorem SgW.reads {os : List Oper} {r : List (List Oper × Option Oper)} {a : Act} {w : World} (h : StW P ops w (fun a' => SgW P ops Q r a' w) os a) : SgW P ops Q ((os, none) :: r) a w :=
  ⟨wpStill_mono (fun _ k => k.out) os a h.out⟩
/-- After the reads: one operation. -/
structure OneW (P : Program) (ops : Array Oper) (Q : Exit → Act → World → Prop) (o : Oper) (r : List (List Oper × Option Oper)) (a : Act) (w : World) : Prop where
  mk :: (out : if Region.wanted o (yielded ops a.tmps) = true then o.wp P a w (fun a'' w' => wpSt P ops Q r a'' w') Q else wpSt P ops Q r (a.put o.dst undef) w)
theorem SgW.one {os : List Oper} {o : Oper} {r : List (List Oper × Option Oper)} {a : Act} {w : World} (h : StW P ops w (fun a' => OneW P ops Q o r a' w) os a) : SgW P ops Q ((os, some o) :: r) a w :=
  ⟨wpStill_mono (fun _ k => k.out) os a h.out⟩
theorem OneW.go {o : Oper} {r : List (List Oper × Option Oper)} {a : Act} {w : World} (hw : Region.wanted o (yielded ops a.tmps) = true)
    (h : ∀ K : Act → World → Prop, Shut1 (∀ a w, SgW P ops Q r a w → K a w) → o.wp P a w K Q) : OneW P ops Q o r a w :=
  ⟨by rw [if_pos hw]; exact h _ ⟨fun a w k => k.out⟩⟩
theorem OneW.skip {o : Oper} {r : List (List Oper × Option Oper)} {a : Act} {w : World} (hw : Region.wanted o (yielded ops a.tmps) = false) (h : SgW P ops Q r (a.put o.dst undef) w) : OneW P ops Q o r a w :=
  ⟨by rw [if_neg (by rw [hw]; decide)]; exact h.out⟩

/-- A region in stages. -/
theorem wp_region_stages {id : Nat} {a : Act} {w : World} {l : List Oper} (sg : List (List Nat × Option Nat)) (hm : P.follows .mixedOrders = true)
    (hB : (Region.noSelect l.toArray && stB l.toArray sg [] (Array.replicate l.toArray.size false) && decide (total sg = l.length)) = true)
    (h : SgW P l.toArray (Calm Q) (opsOf l sg) a { w with drawn := w.drawn + 1 }) : (Code.region id l.toArray true).wp P Q a w := by
  simp only [Bool.and_eq_true, decide_eq_true_eq] at hB
  obtain ⟨⟨hsel, hB⟩, hlen⟩ := hB
  refine Code.wp_mono (Q := Calm Q) (fun e a w h => ?_) ?_
  · cases e <;> first | exact h | exact False.elim h
  refine wp_region_any hm ?_
  have := wpAny_st (P := P) (Q := Calm Q) (ops := l.toArray) rfl hsel sg [] _ a _ (fun j oj _ hl => by rw [getD_replicate_false] at hl; cases hl) hB h.out
  rw [hlen] at this
  simpa using this
end
end Go.Proofs.Ytmbbfcpoiecfhaa
