/- The queue as a thing in memory; its contracts in these words; the fixed fact of the laws. -/
import Derived.Test.YtjejkmnlkmcckaaQuK
import Derived.Test.YtjejkmnlkmcckaaQuPl
import Derived.Test.YtjejkmnlkmcckaaRead
namespace Go.Proofs.Ytjejkmnlkmcckaa
open Go.RowKit

theorem ownsRow_base {w : World} {base : Nat} {e : TypeId} {size n : Nat} {v : Value} {xs : List Value} (h : w.ownsRow base e size v n xs) : w.ownsRow 0 e size v n xs := by
  obtain ⟨h1, h2⟩ := h
  refine ⟨h1, ?_⟩
  rcases h2 with h2 | ⟨g, cap, cur, rfl, hg, r⟩
  · exact .inl h2
  · exact .inr ⟨g, cap, cur, rfl, Nat.zero_le _, r⟩
theorem QIn.zero {w : World} {base b : Nat} {A : Option Addr} {len cap : Nat} {l : List It} {n : Nat} (h : QIn w base b A len cap l n) : QIn w 0 b A len cap l n := ⟨h.blk, ownsRow_base h.own, h.ll, Nat.zero_le _, h.ne⟩
/-- A queue. -/
def qres (b : Nat) (A : Option Addr) (len cap : Nat) (l : List It) (n : Nat) : Res :=
  ⟨fun i => i = b ∨ (Value.slice A len cap).ownBlock = some i, fun w => QIn w 0 b A len cap l n,
   fun w h i hi => by
    rcases hi with rfl | hi
    · exact h.hs
    · exact own_lt h.own i hi,
   fun w w' h k => ⟨(k b (.inl rfl)).trans h.blk, ownsRow_loc h.own fun i hi => k i (.inr hi), h.ll, h.hb, h.ne⟩⟩

theorem new_own (w : World) : Calls Try.prog 14 #[] w fun e w' => ∃ b, e = .returned (.pointer (some ⟨b, 0, none⟩)) ∧ Own w (fun _ => False) w' [qres b none 0 0 [] 0] := by
  refine (new_any w).mono fun e w' ⟨he, hq, hb⟩ => ⟨_, he, ?_⟩
  refine ⟨Kept.below hb, ?_, by simp, ?_⟩
  · intro r hr
    obtain rfl := List.mem_singleton.1 hr
    exact hq.zero
  · intro r hr i hi
    obtain rfl := List.mem_singleton.1 hr
    rcases hi with rfl | hi
    · exact .inr (Nat.le_refl _)
    · cases hi
/-- A queue behind a Put. -/
def qput (l : List It) (e0 e1 e2 : Int) (n : Nat) : List It := siftUp (l ++ [⟨e0, e1, e2, ((n + 1 : Nat) : Int)⟩]) l.length
section
variable {w0 w : World} {S : Nat → Prop} {L : List Res} {b : Nat} {A : Option Addr} {len cap : Nat} {l : List It} {n : Nat}
theorem put_own (k : Nat) (h : Own w0 S w L) (hk : L[k]? = some (qres b A len cap l n)) (e0 e1 e2 : Int) (hn : n ≤ 1000000) (hl : len < 4096) :
    Calls Try.prog 15 #[.pointer (some ⟨b, 0, none⟩), .agg #[.int .i64 e0, .int .i64 e1, .int .i64 e2]] w fun e w' => e = .returned .nilIface ∧
      ∃ A' cap', Own w0 S w' (L.set k (qres b A' (len + 1) cap' (qput l e0 e1 e2 n) (n + 1))) := by
  have hq := h.get k hk
  refine (put_any 0 b A len cap l n e0 e1 e2 w hq hn hl).mono ?_
  rintro e w' ⟨rfl, A', cap', hq', hk', hf⟩
  refine ⟨rfl, A', cap', h.step k hk _ hk' ?_ fun i hi => ?_⟩
  · unfold qput
    have := hq.ll
    rw [this]
    exact hq'
  · rcases hi with rfl | hi
    · exact .inl (.inl rfl)
    · rcases hf i hi with h | h
      · exact .inl (.inr h)
      · exact .inr h
/-- A queue behind a Take. -/
def qtake (l : List It) (y : It) : List It := siftDown ((l.set 0 y).take (l.length - 1)) 0
theorem take_own (k : Nat) {last : Nat} (h : Own w0 S w L) (hk : L[k]? = some (qres b A (last + 1) cap l n)) (hl : last < 4096) {z y : It} (hz : l[0]? = some z) (hy : l[last]? = some y) :
    Calls Try.prog 16 #[.pointer (some ⟨b, 0, none⟩)] w fun e w' => e = .returned (.tuple #[.agg #[.int .i64 z.at_, .int .i64 z.rank, .int .i64 z.what], .nilIface]) ∧
      Own w0 S w' (L.set k (qres b A last cap (qtake l y) n)) := by
  have hq : QIn w 0 b A (last + 1) cap l n := h.get k hk
  obtain ⟨g, rfl⟩ : ∃ g, A = some ⟨g, 0, none⟩ := by
    rcases hq.own.2 with ⟨_, h0⟩ | ⟨g, c, cur, e, _⟩
    · omega
    · injection e with e; exact ⟨g, e⟩
  refine (take_any 0 b g last cap l n z y w hq hl hz hy).mono ?_
  rintro e w' ⟨rfl, hq', hk'⟩
  refine ⟨rfl, h.step k hk _ (hk'.weak fun i hi => ?_) ?_ fun i hi => ?_⟩
  · rcases hi with rfl | rfl
    · exact .inl rfl
    · exact .inr rfl
  · unfold qtake
    have := hq.ll
    rw [this]
    exact hq'
  · rcases hi with rfl | hi
    · exact .inl (.inl rfl)
    · exact .inl (.inr hi)
theorem takeNone_own (k : Nat) (h : Own w0 S w L) (hk : L[k]? = some (qres b A 0 cap l n)) :
    Calls Try.prog 16 #[.pointer (some ⟨b, 0, none⟩)] w fun e w' => e = .returned (.tuple #[.agg #[.int .i64 0, .int .i64 0, .int .i64 0], .iface 91 (.int .i64 10)]) ∧ Own w0 S w' L := by
  have hq : QIn w 0 b A 0 cap l n := h.get k hk
  exact (take_empty 0 b A cap l n w hq).mono fun e w' ⟨he, hb⟩ => ⟨he, h.ext hb⟩
theorem full_own (k : Nat) (h : Own w0 S w L) (hk : L[k]? = some (qres b A len cap l n)) (e0 e1 e2 : Int) (hl : 4096 ≤ len) :
    Calls Try.prog 15 #[.pointer (some ⟨b, 0, none⟩), .agg #[.int .i64 e0, .int .i64 e1, .int .i64 e2]] w fun e w' => e = .returned (.iface 91 (.int .i64 11)) ∧ Own w0 S w' L := by
  have hq : QIn w 0 b A len cap l n := h.get k hk
  exact (put_full 0 b A len cap l n e0 e1 e2 w hq hl).mono fun e w' ⟨he, hb⟩ => ⟨he, h.ext hb⟩
theorem len_own (k : Nat) (h : Own w0 S w L) (hk : L[k]? = some (qres b A len cap l n)) :
    Calls Try.prog 19 #[.pointer (some ⟨b, 0, none⟩)] w fun e w' => e = .returned (.int .i64 len) ∧ w = w' := len_any 0 b A len cap l n w (h.get k hk)
end

/-- The example's queue. -/
def awk : Nat → List It
  | 0 => []
  | 1 => [⟨5, 1, 7, 1⟩]
  | 2 => [⟨5, 0, 8, 2⟩, ⟨5, 1, 7, 1⟩]
  | 3 => [⟨3, 9, 9, 3⟩, ⟨5, 1, 7, 1⟩, ⟨5, 0, 8, 2⟩]
  | _ => [⟨3, 9, 9, 3⟩, ⟨5, 0, 6, 4⟩, ⟨5, 0, 8, 2⟩, ⟨5, 1, 7, 1⟩]
theorem awk0 : qput (awk 0) 5 1 7 0 = awk 1 := by simp [qput, awk, siftUp]
theorem awk1 : qput (awk 1) 5 0 8 1 = awk 2 := by simp [qput, awk, siftUp, ahead]
theorem awk2 : qput (awk 2) 3 9 9 2 = awk 3 := by simp [qput, awk, siftUp, ahead]
theorem awk3 : qput (awk 3) 5 0 6 3 = awk 4 := by simp [qput, awk, siftUp, ahead]
theorem awk4 : qtake (awk 4) ⟨5, 1, 7, 1⟩ = [⟨5, 0, 8, 2⟩, ⟨5, 0, 6, 4⟩, ⟨5, 1, 7, 1⟩] := by simp [qtake, awk, siftDown, pick, least, ahead]
theorem awk5 : qtake [⟨5, 0, 8, 2⟩, ⟨5, 0, 6, 4⟩, ⟨5, 1, 7, 1⟩] ⟨5, 1, 7, 1⟩ = [⟨5, 0, 6, 4⟩, ⟨5, 1, 7, 1⟩] := by simp [qtake, siftDown, pick, least, ahead]
theorem awk6 : qtake [⟨5, 0, 6, 4⟩, ⟨5, 1, 7, 1⟩] ⟨5, 1, 7, 1⟩ = [⟨5, 1, 7, 1⟩] := by simp [qtake, siftDown, pick, least]
end Go.Proofs.Ytjejkmnlkmcckaa
