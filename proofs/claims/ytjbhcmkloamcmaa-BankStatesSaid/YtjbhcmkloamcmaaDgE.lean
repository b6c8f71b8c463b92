/- The digest of bytes: the program's. -/
import Derived.Test.YtjbhcmkloamcmaaDgB
import Derived.Test.YtjbhcmkloamcmaaDgD
import Derived.Deep.DeepCutAuto
namespace Go.Proofs.Ytjbhcmkloamcmaa
open Go.RowKit

/-- The first i of a list, and zeros. -/
def kv (l : List W32) (n i : Nat) : List W32 := l.take i ++ List.replicate (n - i) 0
theorem kv_set {l : List W32} {n i : Nat} (hl : l.length = n) (h : i < n) : (kv l n i).set i (l.getD i 0) = kv l n (i + 1) := by
  have hx : l[i]? = some (l.getD i 0) := getD_some 0 (by omega)
  have h1 : (l.take i).length = i := by simp; omega
  rw [kv, kv, List.set_append_right _ _ (by omega), h1, Nat.sub_self, show n - i = (n - (i + 1)) + 1 by omega, List.replicate_succ, List.set_cons_zero, List.take_add_one, hx, List.append_assoc]
  rfl
theorem kv_all {l : List W32} {n i : Nat} (hl : l.length = n) (h : n ≤ i) : kv l n i = l := by
  rw [kv, List.take_of_length_le (by omega), show n - i = 0 by omega]
  simp
theorem kv_len {l : List W32} {n i : Nat} (hl : l.length = n) (h : i ≤ n) : (kv l n i).length = n := by simp [kv]; omega
theorem kv_get {l : List W32} {n i : Nat} (hl : l.length = n) (h : i < n) : ∃ x, (kv l n i)[i]? = some x := ⟨_, getD_some 0 (by rw [kv_len hl (by omega)]; exact h)⟩

/-- The bytes of the first i words, and zeros. -/
def ob (V : List W32) (i : Nat) : List Int := outB (V.take i) ++ List.replicate (32 - 4 * i) 0
theorem ob_len {V : List W32} {i : Nat} (h : V.length = 8) (hi : i ≤ 8) : (ob V i).length = 32 := by simp [ob, outB_len]; omega
theorem set_four (P R : List Int) (a b c d y0 y1 y2 y3 : Int) : ((((P ++ a :: b :: c :: d :: R).set P.length y0).set (P.length + 1) y1).set (P.length + 2) y2).set (P.length + 3) y3 = P ++ y0 :: y1 :: y2 :: y3 :: R := by
  induction P with
  | nil => rfl
  | cons x P ih =>
    simp only [List.cons_append, List.length_cons, List.set_cons_succ]
    rw [ih]
theorem ob_set {V : List W32} {i : Nat} (h : V.length = 8) (hi : i < 8) (x : W32) (hx : V[i]? = some x) :
    ((((ob V i).set (4 * i) (byteOf x 0)).set (4 * i + 1) (byteOf x 1)).set (4 * i + 2) (byteOf x 2)).set (4 * i + 3) (byteOf x 3) = ob V (i + 1) := by
  have hl : (outB (V.take i)).length = 4 * i := by rw [outB_len]; simp; omega
  have e1 : ob V i = outB (V.take i) ++ 0 :: 0 :: 0 :: 0 :: List.replicate (32 - 4 * (i + 1)) 0 := by rw [ob, show 32 - 4 * i = (32 - 4 * (i + 1)) + 1 + 1 + 1 + 1 by omega]; rfl
  have e2 : ob V (i + 1) = outB (V.take i) ++ byteOf x 0 :: byteOf x 1 :: byteOf x 2 :: byteOf x 3 :: List.replicate (32 - 4 * (i + 1)) 0 := by
    rw [ob, List.take_add_one, hx, outB, List.flatMap_append, List.append_assoc]; rfl
  rw [e1, e2, ← hl]
  exact set_four _ _ _ _ _ _ _ _ _ _
theorem ob_all {V : List W32} (h : V.length = 8) : ob V 8 = outB V := by rw [ob, List.take_of_length_le (by omega)]; simp
theorem nums_setA (l : List Int) (i : Nat) (x : Int) : (nums .u8 l).toArray.setIfInBounds i (.int .u8 x) = (nums .u8 (l.set i x)).toArray := by simp [nums]
theorem Kept.setRow (w : World) (b : Nat) (cs : Array Value) : Kept (fun i => i = b) w (w.setRow b cs) := ⟨rfl, rfl, rfl, by simp, fun i _ hi => setRow_other w b i _ hi⟩
theorem nums_getA {l : List Int} {i : Nat} {x : Int} (h : l[i]? = some x) : (nums .u8 l).toArray[i]? = some (.int .u8 x) := by simp [nums, h]
set_option maxRecDepth 100000 in
theorem idxV {V : List W32} (hV : V.length = 8) {i : Nat} {x : W32} (h : V[i]? = some x) : ∀ W : World, (Instr.index 98 (.agg (vals V)) (.int .i64 (i : Int))).run Try.prog W = .ok (.int .u32 (x.toNat : Int)) W := by
  obtain ⟨a0, a1, a2, a3, a4, a5, a6, a7, rfl⟩ := list8 hV
  rcases i with _ | _ | _ | _ | _ | _ | _ | _ | i
  · obtain rfl : a0 = x := by simpa using h
    exact fun w => by kernel_rfl
  · obtain rfl : a1 = x := by simpa using h
    exact fun w => by kernel_rfl
  · obtain rfl : a2 = x := by simpa using h
    exact fun w => by kernel_rfl
  · obtain rfl : a3 = x := by simpa using h
    exact fun w => by kernel_rfl
  · obtain rfl : a4 = x := by simpa using h
    exact fun w => by kernel_rfl
  · obtain rfl : a5 = x := by simpa using h
    exact fun w => by kernel_rfl
  · obtain rfl : a6 = x := by simpa using h
    exact fun w => by kernel_rfl
  · obtain rfl : a7 = x := by simpa using h
    exact fun w => by kernel_rfl
  · simp at h
theorem info_av : (Try.prog.info? 98).map (·.size) = some 8 := by kernel_rfl
theorem info_ab : (Try.prog.info? 34).map (·.size) = some 32 := by kernel_rfl
set_option maxRecDepth 100000
set_option maxHeartbeats 8000000
theorem digestOf_any (w : World) (A : Option Addr) (n c : Nat) (bs : List Int) (hl : bs.length = n) (hn : n ≤ 1000000) (hA : Cells w A (nums .u8 bs)) :
    Calls Try.prog 39 #[.slice A n c] w fun e w' => e = .returned (.agg (nums .u8 (sha bs)).toArray) ∧ Below w.heap.size w w' := by
  replace hA := Hidd.mk hA
  replace hl := Hidd.mk hl
  go_enter Try.func39, Try.ntmps39
  go_wp2_with (go_at_call 46; refine (primes_any _).mono ?_; rintro e w1 ⟨PA, pc, rfl, hop⟩; replace hop := Hidd.mk ((((Own.nil w (fun _ => False)).alloc _).alloc _).alloc _ |>.made hop))
  replace hop : Hidd (Own w (fun _ => False) w1 [row 83 1 (.slice PA 64 pc) 64 (nums .u64 (natI PL)), blk (w.heap.size + 1 + 1) (.cells (vals (kv kays 64 0)) 99 (0, 0)), blk (w.heap.size + 1) (.cells (vals (kv ivs 8 0)) 98 (0, 0)), blk w.heap.size (.cells (nums .u8 (List.replicate 32 0)).toArray 34 (0, 0))]) := ⟨by
    have := hop.out
    simp only [World.size_alloc] at this
    exact this⟩
  obtain ⟨p2, hp2⟩ : ∃ p, p = w.heap.size := ⟨_, rfl⟩
  obtain ⟨p3, hp3⟩ : ∃ p, p = p2 + 1 := ⟨_, rfl⟩
  obtain ⟨p4, hp4⟩ : ∃ p, p = p3 + 1 := ⟨_, rfl⟩
  rw [← hp2] at hop ⊢
  rw [← hp3] at hop ⊢
  rw [← hp4] at hop ⊢
  have hn34 : p4 ≠ p3 := by omega
  clear hp4 hp3
  replace hp2 := Hidd.mk hp2
  go_loopw [14] (fun v14 wr => ∃ (i : Nat), v14 = .int .i64 i ∧ i ≤ 64 ∧ Hidd (Own w (fun _ => False) wr [row 83 1 (.slice PA 64 pc) 64 (nums .u64 (natI PL)), blk p4 (.cells (vals (kv kays 64 i)) 99 (0, 0)), blk p3 (.cells (vals (kv ivs 8 i)) 98 (0, 0)), blk p2 (.cells (nums .u8 (List.replicate 32 0)).toArray 34 (0, 0))])) (fun v14 _ => 64 - (intOf v14).toNat)
  case atStart => exact ⟨0, rfl, by omega, hop⟩
  case round =>
    clear hop
    obtain ⟨i, rfl, hi, ho⟩ := hrel
    by_cases hlt : i < 64
    · have d1 : decide ((i : Int) < 64) = true := by rw [decide_eq_true_eq]; omega
      -- {A
      have bi0 : (0 : Int) ≤ (i : Int) := by omega
      have bi1 : (i : Int) < 64 := by omega
      have hx : PL[i]? = some (PL.getD i 0) := by rw [List.getD_eq_getElem?_getD, List.getElem?_eq_getElem (by exact hlt)]; rfl
      obtain ⟨g, rfl, hc⟩ : ∃ ad, PA = some ad ∧ wr.cell? (ad.add i) = some (.int .u64 (PL.getD i 0 : Nat)) := by
        obtain ⟨ad, e, h⟩ := row_cells ho.out 0 rfl i _ (natI_get hx)
        exact ⟨ad, e, h⟩
      have hrc := Hidd.mk (fun W => rootC_any hlt W)
      have hrs : Hidd (i < 8 → ∀ W, _) := ⟨fun h W => rootS_any h W⟩
      generalize PL.getD i 0 = p at hc hrc hrs
      have hk1 := Hidd.mk (kv_set (l := kays) (n := 64) (i := i) rfl hlt)
      generalize kays.getD i 0 = kx at hrc hk1
      obtain ⟨y4, hy4⟩ := kv_get (l := kays) (n := 64) (i := i) rfl hlt
      have c4 := (ho.out.cell 1 rfl i).trans (vals_get hy4)
      have f4 := ho.out.frozen 1 rfl i
      have l4 := ho.out.lt 1 rfl
      clear hy4 hx
      by_cases h8 : i < 8
      · have d2 : decide ((i : Int) < 8) = true := by rw [decide_eq_true_eq]; omega
        have bi2 : (i : Int) < 8 := by omega
        have hs1 := Hidd.mk (kv_set (l := ivs) (n := 8) (i := i) rfl h8)
        replace hrs := Hidd.mk (hrs.out h8)
        generalize ivs.getD i 0 = sx at hrs hs1
        obtain ⟨y3, hy3⟩ := kv_get (l := ivs) (n := 8) (i := i) rfl h8
        have c3 := (ho.out.cell 2 rfl i).trans (vals_get hy3)
        have f3 := ho.out.frozen 2 rfl i
        clear hy3
        have ho2 := Hidd.mk ((ho.out.set 2 rfl i (u32v sx)).set 1 rfl i (u32v kx))
        have hn43 : ¬ p3 = p4 := fun e => hn34 e.symm
        go_wp2_with (first
          | (go_at_call 47; with_reducible refine (hrs.out _).mono ?_; rintro e w' ⟨rfl, rfl⟩)
          | (go_at_call 47; with_reducible refine (hrc.out _).mono ?_; rintro e w' ⟨rfl, rfl⟩))
        go_roundw
        case rel =>
          refine ⟨i + 1, by go_num, by omega, ⟨?_⟩⟩
          have h2 := ho2.out
          simp only [List.set_cons_zero, List.set_cons_succ, vals_set, hk1.out, hs1.out] at h2
          exact h2
        case measure => simp [intOf]; omega
      · have d2 : decide ((i : Int) < 8) = false := by rw [decide_eq_false_iff_not]; omega
        have hs1 : Hidd (kv ivs 8 i = kv ivs 8 (i + 1)) := ⟨by rw [kv_all (n := 8) (l := ivs) rfl (by omega), kv_all (n := 8) (l := ivs) rfl (by omega)]⟩
        have ho2 := Hidd.mk (ho.out.set 1 rfl i (u32v kx))
        clear hrs
        go_wp2_with (go_at_call 47; with_reducible refine (hrc.out _).mono ?_; rintro e w' ⟨rfl, rfl⟩)
        go_roundw
        case rel =>
          refine ⟨i + 1, by go_num, by omega, ⟨?_⟩⟩
          have h2 := ho2.out
          simp only [List.set_cons_zero, List.set_cons_succ, vals_set, hk1.out, hs1.out] at h2
          exact h2
        case measure => simp [intOf]; omega
      -- A}
    · have d1 : decide ((i : Int) < 64) = false := by rw [decide_eq_false_iff_not]; omega
      obtain rfl : i = 64 := by omega
      clear hlt hi
      have ho1 : Hidd (Own w (fun _ => False) wr [blk p4 (.cells (vals kays) 99 (0, 0)), blk p3 (.cells (vals ivs) 98 (0, 0)), blk p2 (.cells (nums .u8 (List.replicate 32 0)).toArray 34 (0, 0))]) := ⟨ho.out.tail⟩
      clear ho
      go_wp2_with (first
        | (at_builtin; have hq := ho1.out; clear hq; have hl0 := row_lit ho1.out 5 1 0 #[] (nums .u8 []) rfl rfl (by decide); refine appb rfl _ _ rfl hl0 0 _ 0 0 [] rfl rfl A n c bs rfl hl.out (hA.out.below (hl0.below fun _ => id)) (by omega) ?_; intro A2 c2 w2 ho2; rw [Nat.zero_add] at ho2 ⊢; rw [List.nil_append] at ho2; replace ho2 := Hidd.mk ho2; clear hl0 ho1)
        | (at_builtin; have hq := ho2.out; clear hq; have hl1 := row_lit ho2.out 5 1 1 #[.int .u8 128] (nums .u8 [128]) rfl rfl (by decide); refine appb rfl _ _ rfl hl1 1 _ n _ bs rfl rfl _ 1 1 [128] rfl rfl (row_cells hl1 0 rfl) (by omega) ?_; intro A3 c3 w3 ho3; replace ho3 := Hidd.mk ho3.tail; clear hl1 ho2))
      go_loopg [0] (zerosN n) (fun g v0 wx => ∃ (A3 : Option Addr) (c3 N z : Nat), z + g = zerosN n ∧ v0 = .slice A3 N c3 ∧ Hidd (N = n + 1 + z) ∧ Hidd (Own w (fun _ => False) wx [row 5 1 (.slice A3 N c3) N (nums .u8 (bs ++ [128] ++ List.replicate z 0)), blk p4 (.cells (vals kays) 99 (0, 0)), blk p3 (.cells (vals ivs) 98 (0, 0)), blk p2 (.cells (nums .u8 (List.replicate 32 0)).toArray 34 (0, 0))]))
      case atStart => exact ⟨A3, c3, n + 1, 0, by omega, rfl, ⟨rfl⟩, ⟨by rw [List.replicate_zero, List.append_nil]; exact ho3.out⟩⟩
      case round =>
        clear ho3
        obtain ⟨A3, c3, N, z, hg, rfl, hN, ho⟩ := hrel
        cases gk with
        | succ g =>
          -- {B
          have hz := zerosN_lt n
          have hne := zerosN_least n z (by omega)
          have d2 : ((N : Int) % 64 != 56) = true := by rw [bne_iff_ne]; have := hN.out; omega
          have hNb : N ≤ 2000000 := by have := hN.out; omega
          clear hne
          go_wp2_with (at_builtin; have hl1 := row_lit ho.out 5 1 1 #[.int .u8 0] (nums .u8 [0]) rfl rfl (by decide); refine appb rfl _ _ rfl hl1 1 _ N _ _ rfl rfl _ 1 1 [0] rfl rfl (row_cells hl1 0 rfl) (by omega) ?_; intro A4 c4 w4 ho4; replace ho4 := Hidd.mk ho4.tail; clear hl1 ho)
          go_roundg g
          case rel =>
            refine ⟨A4, c4, N + 1, z + 1, by omega, rfl, ⟨by rw [hN.out]; omega⟩, ⟨?_⟩⟩
            have h4 := ho4.out
            rw [show bs ++ [128] ++ List.replicate z (0 : Int) ++ [0] = bs ++ [128] ++ List.replicate (z + 1) 0 by rw [List.append_assoc (bs ++ [128]), ← List.replicate_succ']] at h4
            exact h4
          case measure => omega
          -- B}
        | zero =>
          have hz := zerosN_lt n
          obtain rfl : z = zerosN n := by omega
          have hN2 := hN.out
          have he := zerosN_eq n
          have d2 : ((N : Int) % 64 != 56) = false := by rw [bne_eq_false_iff_eq]; omega
          have hNb : N ≤ 2000000 := by omega
          clear hg hz he
          obtain ⟨pre, hpre⟩ : ∃ pre, pre = bs ++ [128] ++ List.replicate (zerosN n) (0 : Int) := ⟨_, rfl⟩
          rw [← hpre] at ho
          have hpad : Hidd (padB bs = pre ++ lenB n 8) := ⟨by rw [padB, hl.out, hpre]⟩
          replace hpre := Hidd.mk hpre
          obtain ⟨N0, hN0⟩ : ∃ N0, N0 = N := ⟨_, rfl⟩
          have hNN : Hidd (N0 = n + 1 + zerosN n) := ⟨by rw [hN0]; exact hN2⟩
          have hNb0 : N0 ≤ 2000000 := by omega
          clear hN2 hN
          replace hN0 := Hidd.mk hN0.symm
          go_wp2
          clear d2
          go_loopg [0, 8] 8 (fun g v0 v8 wx => ∃ (A3 : Option Addr) (c3 N k : Nat) (sh : Int), k + g = 8 ∧ v0 = .slice A3 N c3 ∧ v8 = .int .i64 sh ∧ Hidd (sh = 56 - 8 * (k : Int)) ∧ Hidd (N = N0 + k) ∧ Hidd (Own w (fun _ => False) wx [row 5 1 (.slice A3 N c3) N (nums .u8 (pre ++ lenB n k)), blk p4 (.cells (vals kays) 99 (0, 0)), blk p3 (.cells (vals ivs) 98 (0, 0)), blk p2 (.cells (nums .u8 (List.replicate 32 0)).toArray 34 (0, 0))]))
          case atStart => exact ⟨A3, c3, N, 0, 56, by omega, rfl, rfl, ⟨by omega⟩, ⟨by rw [hN0.out]; rfl⟩, ⟨by rw [show lenB n 0 = [] from rfl, List.append_nil]; exact ho.out⟩⟩
          case round =>
            clear ho
            obtain ⟨A3, c3, N, k, sh, hg, rfl, rfl, hsh, hN, ho⟩ := hrel
            have hN2 := hN.out
            have hNb1 : N ≤ 2000008 := by omega
            cases gk with
            | succ g =>
              -- {C
              obtain ⟨sN, hs⟩ : ∃ sN : Nat, sN = 56 - 8 * k := ⟨_, rfl⟩
              have hs2 := hsh.out
              obtain rfl : sh = (sN : Int) := by omega
              obtain ⟨yb, hyb⟩ : ∃ y : Nat, y = 8 * n / 2 ^ sN % 256 := ⟨_, rfl⟩
              have hy1 : (n : Int) * 8 / 2 ^ sN % 256 = (yb : Int) := by rw [hyb, Nat.mul_comm]; rfl
              have hy2 : IntKind.u8.wrap ((n : Int) * 8 / 2 ^ sN) = (yb : Int) := by rw [IntKind.wrap_u8, hy1]
              have hlb : Hidd (lenB n (k + 1) = lenB n k ++ [(yb : Int)]) := ⟨by rw [lenB_succ, hyb, hs]⟩
              have hge : (0 : Int) ≤ (sN : Int) := by omega
              have hsh2 : Hidd ((sN : Int) - 8 = 56 - 8 * ((k + 1 : Nat) : Int)) := ⟨by omega⟩
              have hbd : (sN : Int) ≤ 56 := by omega
              clear hs hyb hs2 hsh hN2
              go_wp2_with (at_builtin; have hl1 := row_lit ho.out 5 1 1 #[.int .u8 (yb : Int)] (nums .u8 [(yb : Int)]) rfl rfl (by decide); refine appb rfl _ _ rfl hl1 1 _ N _ _ rfl rfl _ 1 1 [(yb : Int)] rfl rfl (row_cells hl1 0 rfl) (by omega) ?_; intro A4 c4 w4 ho4; replace ho4 := Hidd.mk ho4.tail; clear hl1 ho)
              go_roundg g
              case rel =>
                refine ⟨A4, c4, N + 1, k + 1, (sN : Int) - 8, by omega, rfl, rfl, hsh2, ⟨by rw [hN.out]; omega⟩, ⟨?_⟩⟩
                have h4 := ho4.out
                rw [List.append_assoc, ← hlb.out] at h4
                exact h4
              case measure => omega
              -- C}
            | zero =>
              obtain rfl : k = 8 := by omega
              have hs2 := hsh.out
              obtain rfl : sh = -8 := by omega
              rw [← hpad.out] at ho
              clear hs2 hsh hg
              obtain ⟨mb, hmb⟩ : ∃ m, m = nblk n := ⟨_, rfl⟩
              have hpl : (padB bs).length = 64 * mb := by rw [padB_len, hl.out, hmb]
              have hNm : N = 64 * mb := by
                have e1 : (padB bs).length = N := by rw [hpad.out, List.length_append, lenB_len, hpre.out, hN2, hNN.out]; simp [hl.out]; omega
                rw [← e1, hpl]
              have hm0 : 0 < mb := by have := zerosN_eq n; rw [hmb]; unfold nblk; omega
              have hmbb : mb ≤ 1000000 := by omega
              obtain ⟨gb, rfl, _, _⟩ := own_head (show wr.ownsRow 0 5 1 (.slice A3 N c3) N (nums .u8 (padB bs)) from ho.out.get 0 rfl) (by omega)
              have hcap := row_le ho.out 0 rfl
              have hg3 : gb ≠ p3 := fun e => ho.out.apart 0 2 rfl rfl (by decide) gb rfl e
              have hcap1 : N ≤ c3 := hcap.1
              subst hNm
              have hsha : Hidd (shaW bs = blocks kays ivs (padB bs) mb) := ⟨by rw [shaW, hl.out, hmb]⟩
              clear hN hN2 hcap hmb
              obtain ⟨pad, hpd⟩ : ∃ pad, pad = padB bs := ⟨_, rfl⟩
              rw [← hpd] at ho hpl hsha
              replace hpd := Hidd.mk hpd
              go_wp2
              go_loopg [0] mb (fun g v0 wx => ∃ (X : Option Addr) (cX j : Nat), j + g = mb ∧ v0 = .slice X (64 * g) cX ∧ (0 < g → X = some ⟨gb, 64 * j, none⟩ ∧ 64 * g ≤ cX) ∧ Hidd (Own w (fun _ => False) wx [row 5 1 (.slice (some ⟨gb, 0, none⟩) (64 * mb) c3) (64 * mb) (nums .u8 pad), blk p4 (.cells (vals kays) 99 (0, 0)), blk p3 (.cells (vals (blocks kays ivs pad j)) 98 (0, 0)), blk p2 (.cells (nums .u8 (List.replicate 32 0)).toArray 34 (0, 0))]))
              case atStart => exact ⟨_, c3, 0, by omega, rfl, fun _ => ⟨rfl, hcap1⟩, ho⟩
              case round =>
                clear ho
                obtain ⟨X, cX, j, hg, rfl, hX, ho⟩ := hrel
                cases gk with
                | succ g =>
                  -- {D
                  obtain ⟨rfl, hX2⟩ := hX (by omega)
                  have hlen : ((pad.drop (64 * j)).take 64).length = 64 := by rw [List.length_take, List.length_drop, hpl]; omega
                  have hcl : Hidd (Cells wr (some ⟨gb, 64 * j, none⟩) (nums .u8 ((pad.drop (64 * j)).take 64))) := ⟨by
                    have := ((row_cells ho.out 0 rfl).drop (64 * j)).take 64
                    rw [← nums_drop, ← nums_take] at this
                    simp only [Option.map, add_plain] at this
                    exact this⟩
                  replace hlen := Hidd.mk hlen
                  obtain ⟨L, hL⟩ : ∃ L, L = 64 * (g + 1) := ⟨_, rfl⟩
                  rw [← hL] at hX2 ⊢
                  have d3 : decide (0 < L) = true := by rw [decide_eq_true_eq]; omega
                  have q0 : 64 ≤ L := by omega
                  have q1 : 64 ≤ cX := by omega
                  have q2 : L ≤ 64000000 := by omega
                  replace hL := Hidd.mk hL
                  go_wp2_with (go_at_call 48; refine (block_any _ p3 p4 _ _ _ _ (blocks_len rfl _ _) (ho.out.get 2 rfl) (ho.out.get 1 rfl) hn34 hlen.out hcl.out hg3).mono ?_; rintro e w5 ⟨rfl, hb5⟩; have ho5 := Hidd.mk (ho.out.call 2 rfl hb5); clear ho hcl hb5)
                  all_goals go_roundg g
                  all_goals first
                    | (case measure => omega)
                    | skip
                  all_goals
                    refine ⟨_, _, j + 1, by omega, by rw [show L - 64 = 64 * g by have := hL.out; omega], fun h => ?_, ho5⟩
                    have hL2 := hL.out
                    first
                      | (exfalso; omega)
                      | exact ⟨by rw [Nat.mul_add], by omega⟩
                  -- D}
                | zero =>
                  obtain rfl : j = mb := by omega
                  clear hX hg
                  rw [← hsha.out] at ho
                  have hoA := Hidd.mk (ho.out.alloc (.cells (nums .u8 (List.replicate 32 0)).toArray 34 (0, 0)))
                  go_upto_region 22 with fail
                  obtain ⟨wa, hwa⟩ : ∃ wa, World.alloc wr (.cells (nums .u8 (List.replicate 32 0)).toArray 34 (0, 0)) = wa := ⟨_, rfl⟩
                  rw [show World.alloc wr (.cells #[.int .u8 0, .int .u8 0, .int .u8 0, .int .u8 0, .int .u8 0, .int .u8 0, .int .u8 0, .int .u8 0, .int .u8 0, .int .u8 0, .int .u8 0, .int .u8 0, .int .u8 0, .int .u8 0, .int .u8 0, .int .u8 0, .int .u8 0, .int .u8 0, .int .u8 0, .int .u8 0, .int .u8 0, .int .u8 0, .int .u8 0, .int .u8 0, .int .u8 0, .int .u8 0, .int .u8 0, .int .u8 0, .int .u8 0, .int .u8 0, .int .u8 0, .int .u8 0] 34 (0, 0)) = wa from hwa]
                  rw [hwa] at hoA
                  clear hwa ho
                  generalize wr.heap.size = p9 at hoA ⊢
                  obtain ⟨V, hV⟩ : ∃ V, V = shaW bs := ⟨_, rfl⟩
                  have hVl : V.length = 8 := by rw [hV]; exact shaW_len bs
                  rw [← hV] at hoA
                  replace hoA : Hidd (Own w (fun _ => False) wa [blk p9 (.cells (nums .u8 (ob V 0)).toArray 34 (0, 0)), blk p3 (.cells (vals V) 98 (0, 0)), blk p2 (.cells (nums .u8 (List.replicate 32 0)).toArray 34 (0, 0))]) := ⟨hoA.out.reorder [0, 3, 4] rfl (by decide)⟩
                  have hsh : Hidd (sha bs = outB V) := ⟨by rw [hV]; rfl⟩
                  replace hV := Hidd.mk hV
                  refine wp_region_list (wpList_load_row rfl 98 (.tmp 3) rfl p3 rfl 98 (vals V) (0, 0) _ (hoA.out.get 1 rfl) Try.underlying98 rfl (by rw [show (vals V).size = 8 by simp [vals, hVl]]; exact info_av) ?_)
                  go_wp2
                  go_loopg [66] 8 (fun g v66 wx => ∃ (i : Nat), i + g = 8 ∧ v66 = .int .i64 i ∧ Hidd (Own w (fun _ => False) wx [blk p9 (.cells (nums .u8 (ob V i)).toArray 34 (0, 0)), blk p3 (.cells (vals V) 98 (0, 0)), blk p2 (.cells (nums .u8 (List.replicate 32 0)).toArray 34 (0, 0))]))
                  case atStart => exact ⟨0, by omega, rfl, hoA⟩
                  case round =>
                    clear hoA
                    obtain ⟨i, hg, rfl, ho⟩ := hrel
                    cases gk with
                    | succ g =>
                      -- {E
                      have d3 : decide ((i : Int) < 8) = true := by rw [decide_eq_true_eq]; omega
                      have bi0 : (0 : Int) ≤ (i : Int) := by omega
                      have bi1 : (i : Int) < 8 := by omega
                      have hx : V[i]? = some (V.getD i 0) := getD_some 0 (by omega)
                      have hob := ob_set hVl (by omega) _ hx
                      have hix : (vals V)[i]? = some (.int .u32 ((V.getD i 0).toNat : Int)) := vals_get hx
                      have hob0 := ob_len (V := V) (i := i) hVl (by omega)
                      have hid := idxV hVl hx
                      clear hx hix
                      generalize V.getD i 0 = x at hid hob
                      obtain ⟨y0, e0⟩ : ∃ y, byteOf x 0 = y := ⟨_, rfl⟩
                      obtain ⟨y1, e1⟩ : ∃ y, byteOf x 1 = y := ⟨_, rfl⟩
                      obtain ⟨y2, e2⟩ : ∃ y, byteOf x 2 = y := ⟨_, rfl⟩
                      obtain ⟨y3, e3⟩ : ∃ y, byteOf x 3 = y := ⟨_, rfl⟩
                      rw [e0, e1, e2, e3] at hob
                      have w0 : (x.toNat : Int) / (16777216 : Int) = y0 := by
                        rw [← e0, byteOf]
                        have := x.isLt
                        omega
                      have w1 : (x.toNat : Int) / (65536 : Int) % 256 = y1 := e1
                      have w2 : (x.toNat : Int) / (256 : Int) % 256 = y2 := e2
                      have w3 : (x.toNat : Int) % 256 = y3 := by rw [← e3, byteOf]; simp
                      clear e0 e1 e2 e3
                      obtain ⟨j, hj⟩ : ∃ j, j = 4 * i := ⟨_, rfl⟩
                      obtain ⟨j1, hj1⟩ : ∃ j, j = 4 * i + 1 := ⟨_, rfl⟩
                      obtain ⟨j2, hj2⟩ : ∃ j, j = 4 * i + 2 := ⟨_, rfl⟩
                      obtain ⟨j3, hj3⟩ : ∃ j, j = 4 * i + 3 := ⟨_, rfl⟩
                      rw [← hj1, ← hj2, ← hj3, ← hj] at hob
                      have m0 : (4 : Int) * (i : Int) = (j : Int) := by omega
                      have m1 : (j : Int) + 1 = (j1 : Int) := by omega
                      have m2 : (j : Int) + 2 = (j2 : Int) := by omega
                      have m3 : (j : Int) + 3 = (j3 : Int) := by omega
                      have n0 : (j : Int) < 32 := by omega
                      have n1 : (j1 : Int) < 32 := by omega
                      have n2 : (j2 : Int) < 32 := by omega
                      have n3 : (j3 : Int) < 32 := by omega
                      have k01 : ¬ j1 = j := by omega
                      have k02 : ¬ j2 = j := by omega
                      have k03 : ¬ j3 = j := by omega
                      have k12 : ¬ j2 = j1 := by omega
                      have k13 : ¬ j3 = j1 := by omega
                      have k23 : ¬ j3 = j2 := by omega
                      have hcl : ∀ q, q < 32 → ∃ v, wr.cell? ⟨p9, q, none⟩ = some (.int .u8 v) := fun q hq => by
                        refine ⟨(ob V i).getD q 0, (ho.out.cell 0 rfl q).trans ?_⟩
                        exact nums_getA (getD_some (0 : Int) (show q < (ob V i).length by omega))
                      obtain ⟨v0, c0⟩ := hcl j (by omega)
                      obtain ⟨v1, c1⟩ := hcl j1 (by omega)
                      obtain ⟨v2, c2⟩ := hcl j2 (by omega)
                      obtain ⟨v3, c3⟩ := hcl j3 (by omega)
                      clear hcl hj hj1 hj2 hj3 hob0
                      have f0 := ho.out.frozen 0 rfl j
                      have f1 := ho.out.frozen 0 rfl j1
                      have f2 := ho.out.frozen 0 rfl j2
                      have f3 := ho.out.frozen 0 rfl j3
                      replace hob := Hidd.mk hob
                      have ho2 := Hidd.mk ((((ho.out.set 0 rfl j (.int .u8 y0)).set 0 rfl j1 (.int .u8 y1)).set 0 rfl j2 (.int .u8 y2)).set 0 rfl j3 (.int .u8 y3))
                      go_wp2
                      go_roundg g
                      case rel =>
                        refine ⟨i + 1, by omega, by go_num, ⟨?_⟩⟩
                        have h2 := ho2.out
                        simp only [List.set_cons_zero, nums_setA] at h2
                        rw [hob.out] at h2
                        exact h2
                      case measure => omega
                      -- E}
                    | zero =>
                      obtain rfl : i = 8 := by omega
                      have d3 : decide ((8 : Int) < 8) = false := by decide
                      have ho2 : Hidd (Own w (fun _ => False) wr [blk p9 (.cells (nums .u8 (sha bs)).toArray 34 (0, 0)), blk p2 (.cells (nums .u8 (List.replicate 32 0)).toArray 34 (0, 0))]) := ⟨by
                        rw [hsh.out, ← ob_all hVl]
                        exact ho.out.reorder [0, 2] rfl (by decide)⟩
                      have hsl : (nums .u8 (sha bs)).toArray.size = 32 := by simp [nums_length, sha_len]
                      clear ho hg
                      go_upto_region 27 with fail
                      refine wp_region_list (wpList_load_row rfl 34 (.tmp 9) rfl p9 rfl 34 (nums .u8 (sha bs)).toArray (0, 0) _ (ho2.out.get 0 rfl) Try.underlying34 rfl (by rw [hsl]; exact info_ab) ?_)
                      refine wpList_store_row rfl 34 (.tmp 2) _ rfl p2 (nums .u8 (sha bs)).toArray rfl rfl 34 _ (ho2.out.get 1 rfl) (by rw [hsl]; exact info_ab) (by rw [hsl]; simp [nums_length]) (by rw [Array.all_eq_true_iff_forall_mem]; intro v hv; exact nums_one _ _ v (by simpa using hv)) ?_
                      have ho3 := Hidd.mk (ho2.out.step 1 rfl (blk p2 (.cells (nums .u8 (sha bs)).toArray 34 (0, 0))) (Kept.setRow _ _ _) (setRow_heap _ p2 _ _ 34 _ (ho2.out.get 1 rfl)) fun _ h => .inl h)
                      generalize World.setRow wr p2 _ = W9 at ho3 ⊢
                      go_wp2
                      refine bodyPost_ret (v := .agg (nums .u8 (sha bs)).toArray) (results_cell_row rfl _ _ p2 34 _ (0, 0) _ rfl (ho3.out.get 1 rfl) Try.underlying34 rfl (by rw [hsl]; exact info_ab)) rfl ⟨rfl, ho3.out.below fun _ => id⟩
end Go.Proofs.Ytjbhcmkloamcmaa
