/- The contracts of Right and Members. -/
import Derived.Test.YtjejkmnlkmcckaaMemC
namespace Go.Proofs.Ytjejkmnlkmcckaa
open Go.RowKit

def num (f : Fr) : Int := (f.r : Int) * 256 + (f.m : Int)
def rightN (r m : Nat) (kn : Bool) (l : List Fr) : (Nat × Nat) × Bool :=
  if kn = true then ((r, m), true) else if (mostV (l.map num)).2 = true then (((mostV (l.map num)).1.toNat / 256, (mostV (l.map num)).1.toNat % 256), true) else ((0, 0), false)
theorem i64_or_nat (a b : Nat) (ha : a < 4611686018427387904) (hb : b < 4611686018427387904) : bits .or .i64 (a : Int) (b : Int) = ((a ||| b : Nat) : Int) := by
  have hx : a ||| b < 2 ^ 62 := Nat.or_lt_two_pow (by omega) (by omega)
  show IntKind.i64.wrap ((BitVec.ofInt 64 (a : Int) ||| BitVec.ofInt 64 (b : Int)).toNat : Int) = _
  rw [BitVec.toNat_or, ofInt_u64 a (by omega), ofInt_u64 b (by omega), IntKind.wrap_i64]
  omega
theorem or_num (r m : Nat) (hr : r < 4294967296) (hm : m < 256) : bits .or .i64 ((r : Int) * 256) (m : Int) = (r : Int) * 256 + (m : Int) := by
  rw [show (r : Int) * 256 + (m : Int) = ((r * 256 + m : Nat) : Int) by omega]
  have h := i64_or_nat (r * 256) m (by omega) (by omega)
  rw [Int.natCast_mul] at h
  rw [show (256 : Int) = ((256 : Nat) : Int) from rfl, h]
  congr 1
  have := Nat.shiftLeft_add_eq_or_of_lt (i := 8) hm r
  rw [Nat.shiftLeft_eq] at this
  exact this.symm
theorem most_mem (l : List Int) (h : (mostV l).2 = true) : (mostV l).1 ∈ l := by
  have h1 : mostV l = ((mostV l).1, true) := by rw [← h]
  have := (most_spec l _).1 h1
  rcases Nat.eq_zero_or_pos (l.count (mostV l).1) with h0 | h0
  · omega
  · exact List.count_pos_iff.1 h0
theorem most_num {l : List Fr} (hl : ∀ x ∈ l, x.Ok) (h : (mostV (l.map num)).2 = true) : ∃ r m : Nat, r < 4294967296 ∧ m < 256 ∧ (mostV (l.map num)).1 = (r : Int) * 256 + (m : Int) := by
  obtain ⟨x, hx, he⟩ := List.mem_map.1 (most_mem _ h)
  exact ⟨x.r, x.m, (hl x hx).r, (hl x hx).m, he.symm⟩

set_option maxRecDepth 100000 in
set_option maxHeartbeats 4000000 in
theorem right_at {w0 w : World} {S : Nat → Prop} {L : List Res} {b r m : Nat} {kn : Bool} {A : Option Addr} {len cap : Nat} {l : List Fr} (k : Nat) (hO : Own w0 S w L) (hk : L[k]? = some (hres b r m kn A len cap l)) (hl : len ≤ 1000)
    (rr mm : Nat) (ok : Bool) (hr : rightN r m kn l = ((rr, mm), ok)) :
    Calls Try.prog 23 #[.pointer (some ⟨b, 0, none⟩)] w fun e w' => e = .returned (.tuple #[.agg #[.int .u32 rr, .int .u8 mm], .bool ok]) ∧ Own w0 S w' L := by
  have hH : HIn w b r m kn A len cap l := hO.get k hk
  obtain ⟨c0, c1, c2, c3⟩ := hH.cell
  have hbl := hH.lt
  have hO1 := Hidd.mk (hO.alloc (.cells #[.int .u32 0, .int .u8 0] 50))
  cases kn
  · have hll := Hidd.mk hH.ll
    have hok := Hidd.mk hH.ok
    have hk1 := Hidd.mk hk
    have hr1 : rightN r m false l = if (mostV (l.map num)).2 = true then (((mostV (l.map num)).1.toNat / 256, (mostV (l.map num)).1.toNat % 256), true) else ((0, 0), false) := by unfold rightN; rw [if_neg (by decide)]
    rw [hr1] at hr
    replace hr := Hidd.mk hr
    obtain ⟨iI, hI⟩ := info_parts info_int
    replace hI := Hidd.mk hI
    clear hk hr1 hO hH
    go_enter Try.func23, Try.ntmps23
    go_wp2
    generalize w.heap.size = pr at hO1 ⊢
    generalize w.alloc _ = w1 at hO1 ⊢
    clear c0 c1 c2 c3
    have hO2 := Hidd.mk (hO1.out.new (wres 3 1 none 0 0 []) (Below.refl _ _) (wres_nil _ _ _) (fun i hi => by cases hi))
    go_loopw [4, 25] (fun v4 v25 wr => ∃ (i : Nat) (B : Option Addr) (capB : Nat), v25 = .int .i64 i ∧ i ≤ len ∧ v4 = .slice B i capB ∧ Hidd (Own w0 S wr (wres 3 1 B i capB (nums .i64 ((l.take i).map num)) :: blk pr (.cells #[.int .u32 0, .int .u8 0] 50) :: L))) (fun _ v25 _ => len - (intOf v25).toNat)
    case atStart => exact ⟨0, none, 0, rfl, Nat.zero_le _, rfl, hO2⟩
    case round =>
      clear hO1 hO2
      obtain ⟨i, B, capB, rfl, hi, rfl, ho⟩ := hrel
      have hH : HIn wr b r m false A len cap l := ho.out.get (k + 2) hk1.out
      by_cases hlt : i < len
      · obtain ⟨x, hx⟩ : ∃ x, l[i]? = some x := ⟨_, List.getElem?_eq_getElem (by rw [hll.out]; exact hlt)⟩
        obtain ⟨g, rfl⟩ := hH.form (by omega)
        obtain ⟨x0, x1, x2, x3, x4, x5, x6, x7, x8⟩ := hH.at_ hx
        have hxo := hok.out x (List.mem_of_getElem? hx)
        have hxr := hxo.r
        have hxm := hxo.m
        have hor := or_num x.r x.m hxr hxm
        have hw8 := u8_int hxm
        have hw32 : wrap64 (x.r : Int) = x.r := by unfold wrap64; omega
        have htk : Hidd ((l.take i).map num ++ [num x] = (l.take (i + 1)).map num) := ⟨by rw [List.take_add_one, hx]; simp⟩
        clear hH hxo hx
        go_wp2_with (at_builtin; refine wpList_want rfl _ _ 65 rfl 3 iI (.int .i64 0) 1 8 Try.underlying65 hI.out.1 hI.out.2.1 hI.out.2.2.1 hI.out.2.2.2 (by rfl) (by decide) ((ho.out.alloc _).alloc _) 2 B i capB _ rfl rfl _ 1 1 (nums .i64 [num x]) rfl rfl (Cells.new1 _ _ _ _ _ rfl) (nums_one _ _) (by decide) (by unfold maxLen; omega) (by omega) ?_; intro B' capB' w6 ho6; replace ho6 := ho6.tail.tail; rw [← nums_append, htk.out] at ho6; replace ho6 := Hidd.mk ho6)
        go_roundw
        case rel => exact ⟨i + 1, B', capB', by go_num, by omega, rfl, ho6⟩
        case measure => simp [intOf]; omega
      · obtain rfl : i = len := by omega
        have hcs : Cells wr B (nums .i64 (l.map num)) := by
          have h := (show WIn wr 3 1 B i capB (nums .i64 ((l.take i).map num)) from ho.out.get 0 rfl).cells
          rw [← hll.out, List.take_length] at h
          exact h
        replace hcs := Hidd.mk hcs
        have p0 := ho.out.cell 1 rfl 0
        have p1 := ho.out.cell 1 rfl 1
        have f0 := ho.out.frozen 1 rfl 0
        have f1 := ho.out.frozen 1 rfl 1
        simp at p0 p1
        clear hH
        obtain ⟨⟨v, t⟩, hv⟩ : ∃ v, mostV (l.map num) = v := ⟨_, rfl⟩
        have hv1 : (mostV (l.map num)).1 = v := by rw [hv]
        have hv2 : (mostV (l.map num)).2 = t := by rw [hv]
        have hr2 := hr.out
        rw [hv1, hv2] at hr2
        have hmn := Hidd.mk fun h => most_num (l := l) hok.out (hv2.trans h)
        rw [hv1] at hmn
        have hv12 := Hidd.mk (And.intro hv1 hv2)
        clear hv hv1 hv2 hr
        cases t
        · rw [if_neg (by decide)] at hr2
          injection hr2 with h1 h2
          injection h1 with h1 h3
          subst h1 h2 h3
          go_wp2_with (go_at_call 43; refine (most_any B i capB (l.map num) _ hcs.out (by rw [List.length_map]; exact hll.out) (by omega)).mono ?_; rintro e w7 ⟨rfl, rfl⟩; rw [hv12.out.1, hv12.out.2])
          have hof := (ho.out.set 1 rfl 0 (.int .u32 ((0 : Nat) : Int))).set 1 rfl 1 (.int .u8 ((0 : Nat) : Int))
          have q0 := hof.cell 1 rfl 0
          have q1 := hof.cell 1 rfl 1
          simp at q0 q1
          refine bodyPost_ret (v := .tuple #[.agg #[.int .u32 ((0 : Nat) : Int), .int .u8 ((0 : Nat) : Int)], .bool false]) (by simp [results, Try.results23, go_sem, q0, q1]) rfl ⟨rfl, hof.tail.tail⟩
        · rw [if_pos rfl] at hr2
          injection hr2 with h1 h2
          injection h1 with h1 h3
          obtain ⟨r', m', hr', hm', hve⟩ := hmn.out rfl
          have e1 : v.toNat / 256 = r' := by omega
          have e2 : v.toNat % 256 = m' := by omega
          rw [e1] at h1
          rw [e2] at h3
          subst h1 h2 h3
          have g1 : ((r' : Int) * 256 + (m' : Int)) / 256 = r' := by omega
          have g2 : ((r' : Int) * 256 + (m' : Int)) % 256 = m' := by omega
          have g3 : (r' : Int) % 4294967296 = r' := by omega
          clear e1 e2 hmn
          subst hve
          go_wp2_with (go_at_call 43; refine (most_any B i capB (l.map num) _ hcs.out (by rw [List.length_map]; exact hll.out) (by omega)).mono ?_; rintro e w7 ⟨rfl, rfl⟩; rw [hv12.out.1, hv12.out.2])
          have hof := (ho.out.set 1 rfl 0 (.int .u32 (r' : Int))).set 1 rfl 1 (.int .u8 (m' : Int))
          have q0 := hof.cell 1 rfl 0
          have q1 := hof.cell 1 rfl 1
          simp at q0 q1
          refine bodyPost_ret (v := .tuple #[.agg #[.int .u32 (r' : Int), .int .u8 (m' : Int)], .bool true]) (by simp [results, Try.results23, go_sem, q0, q1]) rfl ⟨rfl, hof.tail.tail⟩
  · obtain ⟨rfl, rfl, rfl⟩ : r = rr ∧ m = mm ∧ true = ok := by
      have : rightN r m true l = ((r, m), true) := by unfold rightN; rw [if_pos rfl]
      rw [this] at hr
      injection hr with h1 h2
      injection h1 with h1 h3
      exact ⟨h1, h3, h2⟩
    have hO2 := Hidd.mk (hO.alloc (.cells #[.int .u32 r, .int .u8 m] 50))
    clear hr hH hk hO hO1
    go_enter Try.func23, Try.ntmps23
    go_wp2
    refine bodyPost_ret (v := .tuple #[.agg #[.int .u32 r, .int .u8 m], .bool true]) (by simp [results, Try.results23, go_sem]) rfl ⟨rfl, hO2.out.tail⟩

/-- The members of those who were heard. -/
def memStep (rr mm : Nat) (s : Nat) (x : Fr) : Nat := if x.r = rr ∧ x.m = mm then s ||| ofN [(x.s : Int)] else s
def membersN (l : List Fr) (rr mm : Nat) : Nat := l.foldl (memStep rr mm) 0
theorem or_lt128 {a b : Nat} (h : a < 128) (k : b < 128) : a ||| b < 128 := Nat.or_lt_two_pow (n := 7) h k
theorem memStep_lt {rr mm s : Nat} (h : s < 128) (x : Fr) : memStep rr mm s x < 128 := by
  unfold memStep
  split
  · exact or_lt128 h (ofN_lt _)
  · exact h
theorem members_lt (l : List Fr) (rr mm : Nat) : membersN l rr mm < 128 := by
  unfold membersN
  suffices h : ∀ (l : List Fr) (s : Nat), s < 128 → l.foldl (memStep rr mm) s < 128 from h l 0 (by decide)
  intro l
  induction l with
  | nil => exact fun s h => h
  | cons x l ih => exact fun s h => ih _ (memStep_lt h x)
theorem members_take {l : List Fr} {i : Nat} {x : Fr} (h : l[i]? = some x) (rr mm : Nat) : membersN (l.take (i + 1)) rr mm = memStep rr mm (membersN (l.take i) rr mm) x := by
  unfold membersN
  rw [List.take_add_one, h, List.foldl_append]
  rfl
set_option maxRecDepth 100000 in
set_option maxHeartbeats 4000000 in
theorem members_at {w0 w : World} {S : Nat → Prop} {L : List Res} {b r m : Nat} {kn : Bool} {A : Option Addr} {len cap : Nat} {l : List Fr} (k : Nat) (hO : Own w0 S w L) (hk : L[k]? = some (hres b r m kn A len cap l)) (hl : len ≤ 1000)
    (rr mm : Nat) (ok : Bool) (hr : rightN r m kn l = ((rr, mm), ok)) (M : Nat) (hM : (if ok = true then membersN l rr mm else 0) = M) :
    Calls Try.prog 24 #[.pointer (some ⟨b, 0, none⟩)] w fun e w' => e = .returned (.int .u8 M) ∧ Own w0 S w' L := by
  have hO0 := Hidd.mk hO
  have hr0 := Hidd.mk hr
  have hk0 := Hidd.mk hk
  have hll := Hidd.mk (show HIn w b r m kn A len cap l from hO.get k hk).ll
  have hok := Hidd.mk (show HIn w b r m kn A len cap l from hO.get k hk).ok
  clear hO hr hk
  cases ok
  · rw [if_neg (by decide)] at hM
    subst hM
    go_enter Try.func24, Try.ntmps24
    go_wp2_with (go_at_call 23; refine (right_at k hO0.out hk0.out hl rr mm false hr0.out).mono ?_; rintro e w1 ⟨rfl, ho1⟩; replace ho1 := Hidd.mk ho1)
    go_ret
    exact ⟨rfl, (ho1.out.alloc _).tail⟩
  · rw [if_pos rfl] at hM
    subst hM
    go_enter Try.func24, Try.ntmps24
    go_wp2_with (go_at_call 23; refine (right_at k hO0.out hk0.out hl rr mm true hr0.out).mono ?_; rintro e w1 ⟨rfl, ho1⟩; have hH1 : HIn w1 b r m kn A len cap l := ho1.get k hk0.out; obtain ⟨c0, c1, c2, c3⟩ := hH1.cell; have hbl := hH1.lt; replace ho1 := Hidd.mk (ho1.alloc (.cells #[.int .u32 rr, .int .u8 mm] 50)); clear c0 c1 c2 hH1)
    generalize w1.heap.size = pr at ho1 ⊢
    generalize w1.alloc _ = w2 at ho1 ⊢
    clear c3 hbl
    go_loopw [5, 21] (fun v5 v21 wr => ∃ (i s : Nat), v21 = .int .i64 i ∧ i ≤ len ∧ v5 = .int .u8 s ∧ s < 128 ∧ Hidd (membersN (l.take i) rr mm = s) ∧ Hidd (Own w0 S wr (blk pr (.cells #[.int .u32 rr, .int .u8 mm] 50) :: L))) (fun _ v21 _ => len - (intOf v21).toNat)
    case atStart => exact ⟨0, 0, rfl, Nat.zero_le _, rfl, by decide, ⟨rfl⟩, ho1⟩
    case round =>
      clear ho1
      obtain ⟨i, s, rfl, hi, rfl, hs, hms, ho⟩ := hrel
      have hH : HIn wr b r m kn A len cap l := ho.out.get (k + 1) hk0.out
      by_cases hlt : i < len
      · obtain ⟨x, hx⟩ : ∃ x, l[i]? = some x := ⟨_, List.getElem?_eq_getElem (by rw [hll.out]; exact hlt)⟩
        obtain ⟨g, rfl⟩ := hH.form (by omega)
        obtain ⟨x0, x1, x2, x3, x4, x5, x6, x7, x8⟩ := hH.at_ hx
        have hxs := (hok.out x (List.mem_of_getElem? hx)).s
        have hw8 := u8_int hxs
        have hst := members_take hx rr mm
        rw [hms.out] at hst
        replace hst := Hidd.mk hst
        have p0 := ho.out.cell 0 rfl 0
        have p1 := ho.out.cell 0 rfl 1
        have hpl := ho.out.lt 0 rfl
        simp at p0 p1
        clear hH hx
        by_cases he : x.r = rr ∧ x.m = mm
        · have hst2 := Hidd.mk (hst.out.trans (by unfold memStep; rw [if_pos he]))
          obtain ⟨rfl, rfl⟩ := he
          go_wp2_with (go_at_call 29; refine (with_any s (by omega) x.s _).mono ?_; rintro e w5 ⟨rfl, hb5⟩; have ho5 := Hidd.mk (((ho.out.alloc _).ext hb5).tail))
          go_roundw
          case rel => exact ⟨i + 1, s ||| ofN [(x.s : Int)], by go_num, by omega, rfl, or_lt128 hs (ofN_lt _), hst2, ho5⟩
          case measure => simp [intOf]; omega
        · have hst2 := Hidd.mk (hst.out.trans (by unfold memStep; rw [if_neg he]))
          by_cases h1 : x.r = rr
          · have h2 : ¬ x.m = mm := fun h => he ⟨h1, h⟩
            subst h1
            clear he
            go_wp2
            go_roundw
            case rel => exact ⟨i + 1, s, by go_num, by omega, rfl, hs, hst2, ⟨(ho.out.alloc _).tail⟩⟩
            case measure => simp [intOf]; omega
          · clear he
            go_wp2
            go_roundw
            case rel => exact ⟨i + 1, s, by go_num, by omega, rfl, hs, hst2, ⟨(ho.out.alloc _).tail⟩⟩
            case measure => simp [intOf]; omega
      · obtain rfl : i = len := by omega
        have ht : Hidd (membersN l rr mm = s) := ⟨by rw [← hms.out, ← hll.out, List.take_length]⟩
        go_wp2
        go_ret
        exact ⟨ret_int (by rw [ht.out]), ho.out.tail⟩
end Go.Proofs.Ytjejkmnlkmcckaa
