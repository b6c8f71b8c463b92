/- An image comes into a store. -/
import Derived.Test.YtjbhcmkloamcmaaBkG
import Derived.Test.YtjbhcmkloamcmaaBkI
namespace Go.Proofs.Ytjbhcmkloamcmaa
open Go.RowKit

def feedR (part : Nat) : Nat → List Int → Vw → Option (Int × Int) × Vw
  | 0, _, v => rcommit v
  | k + 1, bs, v => if bs = [] then rcommit v else match rchunk (bs.take part) v with
    | (none, v') => feedR part k (bs.drop part) v'
    | (some e, v') => (some e, v')
def putR (part : Nat) (bs : List Int) (sum : List Int) (v : Vw) : Option (Int × Int) × Vw :=
  match rbegin bs.length sum v with
  | (none, v') => feedR part bs.length bs v'
  | (some e, v') => (some e, v')
theorem feedR_end (part k : Nat) (v : Vw) : feedR part k [] v = rcommit v := by cases k <;> simp [feedR]
/-- A slice that the thing does not touch. -/
def Off (r : Res) (A : Option Addr) (bs : List Int) : Prop := bs ≠ [] → ∀ ad, A = some ad → ¬ r.foot ad.block
theorem off_cells {w w' : World} {G : Nat → Prop} {A : Option Addr} {bs : List Int} (h : Cells w A (nums .u8 bs)) (hk : Kept G w w') (ho : bs ≠ [] → ∀ ad, A = some ad → ¬ G ad.block) : Cells w' A (nums .u8 bs) := by
  by_cases hb : bs = []
  · subst hb
    exact Cells.nil _ _
  · exact h.kept hk fun ad e => ho hb ad e
theorem chunk_len {bs : List Int} {n : Nat} (hn : bs.length = n) (i part : Nat) : ((bs.drop i).take part).length = min part (n - i) := by rw [List.length_take, List.length_drop, hn]
theorem chunk_ne {bs : List Int} {n i : Nat} (hn : bs.length = n) (hi : i < n) : bs.drop i ≠ [] := by
  intro e
  have := congrArg List.length e
  rw [List.length_drop, hn] at this
  simp at this
  omega
theorem put_arith (n c i part g N N2 q : Nat) (hc : n ≤ c) (hp1 : 1 ≤ part) (hp2 : part ≤ 100) (_hn2 : n ≤ 600) (hN : N + n + 2 ≤ 9000) (hi : i < n) (hi2 : n ≤ i + (g + 1)) (hN2 : N2 + (g + 1) ≤ N + n) (hq : q = min part (n - i)) :
    (1 ≤ q ∧ q ≤ 100 ∧ N2 ≤ 9000 ∧ (i : Int) + (part : Int) ≤ 1000000 ∧ (0 : Int) ≤ (i : Int) ∧ (n : Int) ≤ (c : Int) ∧ ¬ c = i ∧ ¬ c - i = 0 ∧ (i + part ≤ n + part ∧ n ≤ i + part + g ∧ N2 + 1 + g ≤ N + n)) ∧
      ∃ e : Nat, min ((i : Int) + (part : Int)) (n : Int) = (e : Int) ∧ (e : Int) ≤ (c : Int) ∧ (i : Int) ≤ (e : Int) ∧ e - i = q ∧ (0 : Int) ≤ (e : Int) ∧ (e : Int) ≤ 1000000 := by
  refine ⟨⟨by omega, by omega, by omega, by omega, by omega, by omega, by omega, by omega, by omega, by omega, by omega⟩, i + q, ?_, by omega, by omega, by omega, by omega, by omega⟩
  omega
theorem sum_cells (sum : List Int) : (nums .u8 sum).toArray.size = sum.length := by simp [nums_length]
set_option maxRecDepth 100000
set_option maxHeartbeats 16000000
theorem put_own' {w w0 : World} {S : Nat → Prop} {L : List Res} {p f : Nat} {M : FA} {t : St} {s : Fs} {v : Vw} {N : Nat} (k : Nat) (hO : Own w0 S w L) (hk : L[k]? = some (bankR p f M t s)) (h : Ok t s v N) (A : Option Addr) (n c : Nat) (bs : List Int)
    (hA : Cells w A (nums .u8 bs)) (hoff : Off (bankR p f M t s) A bs) (hb : Bytes bs) (hn : bs.length = n) (hc : n ≤ c) (_hcm : c ≤ 9223372036854775807) (hn2 : n ≤ 600) (hN : N + n + 2 ≤ 9000) (sum : List Int) (hsum : sum.length = 32) (part : Nat) (hp1 : 1 ≤ part) (hp2 : part ≤ 100)
    (er : Option (Int × Int)) (v' : Vw) (hx : putR part bs sum v = (er, v')) :
    Calls Try.prog 15 #[.pointer (some ⟨p, 0, none⟩), .slice A n c, .agg (nums .u8 sum).toArray, .int .i64 part] w fun e w' => ∃ x, e = .returned x ∧ ∃ M' t' s', Ok t' s' v' (N + n + 2) ∧ Own w0 S w' (eres er x :: L.set k (bankR p f M' t' s')) := by
  obtain ⟨G, hG⟩ : ∃ G, G = (bankR p f M t s).foot := ⟨_, rfl⟩
  have ho : Hidd (Own w G w [bankR p f M t s]) := ⟨by rw [hG]; exact Own.one (hO.get k hk)⟩
  have hend : Hidd (∀ w' x er M' t' s', Own w G w' [bankR p f M' t' s', eres er x] → Own w0 S w' (eres er x :: L.set k (bankR p f M' t' s'))) := ⟨fun w' x er M' t' s' h => by
    rw [hG] at h
    exact hO.call2 k hk h⟩
  have hAk : Hidd (∀ w', Kept G w w' → Cells w' A (nums .u8 bs)) := ⟨fun w' hk => off_cells hA hk (by rw [hG]; exact hoff)⟩
  have hoA := Hidd.mk (ho.out.alloc (.cells (nums .u8 sum).toArray 34 (0, 0)))
  clear hG hO hk hA hoff ho
  obtain ⟨er1, t1, s1, hx1⟩ : ∃ er1 t1 s1, beginX (n : Int) sum t s = (er1, t1, s1) := ⟨_, _, _, rfl⟩
  obtain ⟨v1, hr1, hok1⟩ := begin_sim h (by omega) (n : Int) sum hsum hx1
  have hst := Hidd.mk h.st.sum
  have hfs := Hidd.mk h.fs.left
  unfold putR at hx
  rw [hn, hr1] at hx
  replace hn := Hidd.mk hn
  replace hb := Hidd.mk hb
  replace hx1 := Hidd.mk hx1
  clear h hr1
  cases er1 with
  | some e1 =>
    injection hx with e2 e3
    subst e2 e3
    have hok2 : Hidd (Ok t1 s1 v1 (N + n + 2)) := ⟨⟨hok1.inv, hok1.st, hok1.fs, bnd_mono hok1.bnd (by omega)⟩⟩
    clear hok1
    go_enter Try.func15, Try.ntmps15
    go_wp2_with (first
      | (have hq := hoA.out; clear hq; refine wpList_load_row rfl 34 (.tmp 6) rfl _ rfl 34 _ (0, 0) _ (hoA.out.get 0 rfl) Try.underlying34 rfl (by rw [sum_cells, hsum]; exact info_sum) ?_)
      | (go_at_call 13; have hq := hoA.out; clear hq; refine (begin_own 1 hoA.out rfl hst.out hfs.out (n : Int) sum hsum _ _ _ hx1.out).mono ?_; rintro e w1 ⟨x, rfl, M1, ho1⟩; obtain ⟨e1c, e1a⟩ := e1; obtain ⟨b9, rfl, _⟩ := (show IsE w1 (some (e1c, e1a)) x from ho1.get 0 rfl); replace ho1 := Hidd.mk ho1; clear hoA))
    go_ret
    exact ⟨_, rfl, M1, t1, s1, hok2.out, hend.out _ _ _ _ _ _ (ho1.out.reorder [2, 0] rfl (by decide))⟩
  | none =>
    simp only at hx
    go_enter Try.func15, Try.ntmps15
    go_upto_region 5 with (first
      | (have hq := hoA.out; clear hq; refine wpList_load_row rfl 34 (.tmp 6) rfl _ rfl 34 _ (0, 0) _ (hoA.out.get 0 rfl) Try.underlying34 rfl (by rw [sum_cells, hsum]; exact info_sum) ?_)
      | (go_at_call 13; have hq := hoA.out; clear hq; refine (begin_own 1 hoA.out rfl hst.out hfs.out (n : Int) sum hsum _ _ _ hx1.out).mono ?_; rintro e w1 ⟨x, rfl, M1, ho1⟩; obtain rfl : x = .nilIface := (show IsE w1 none x from ho1.get 0 rfl); replace ho1 := Hidd.mk (ho1.reorder (M := [bankR p f M1 t1 s1]) [2] rfl (by decide)); clear hoA))
    replace hx := Hidd.mk hx
    replace hok1 := Hidd.mk hok1
    have hcc := Hidd.mk (show n ≤ c ∧ n ≤ 600 ∧ N + n + 2 ≤ 9000 from ⟨hc, hn2, hN⟩)
    have hpp := Hidd.mk (show 1 ≤ part ∧ part ≤ 100 from ⟨hp1, hp2⟩)
    clear hc _hcm hn2 hN hp1 hp2
    go_loopg [10] n (fun g v10 wx => ∃ (i : Nat) (t2 : St) (s2 : Fs) (v2 : Vw) (M2 : FA) (N2 : Nat), v10 = .int .i64 i ∧ i ≤ n + part ∧ n ≤ i + g ∧ N2 + g ≤ N + n ∧ Hidd (feedR part g (bs.drop i) v2 = (er, v')) ∧ Hidd (Ok t2 s2 v2 N2) ∧ Hidd (Own w G wx [bankR p f M2 t2 s2]))
    case atStart => exact ⟨0, t1, s1, v1, M1, N, rfl, Nat.zero_le _, by rw [Nat.zero_add]; exact Nat.le_refl _, Nat.le_refl _, hx, hok1, ho1⟩
    case round =>
      clear hx hok1 ho1 hx1
      obtain ⟨i, t2, s2, v2, M2, N2, rfl, hi1, hi2, hN2, hx, hok, ho⟩ := hrel
      by_cases hi : i < n
      · obtain ⟨g, rfl⟩ : ∃ g, gk = g + 1 := ⟨gk - 1, by omega⟩
        have di : decide (i < n) = true := decide_eq_true hi
        have di2 : decide ((i : Int) < (n : Int)) = true := decide_eq_true (by omega)
        obtain ⟨q, hqe⟩ : ∃ q, q = min part (n - i) := ⟨_, rfl⟩
        have hq : ((bs.drop i).take part).length = q := by rw [hqe]; exact chunk_len hn.out i part
        have hne := chunk_ne hn.out hi
        obtain ⟨⟨r1, r2, r3, r4, b0, b2, b5, b6, hnext⟩, ez, q1, q3, q4, q2, q5, q6⟩ := put_arith n c i part g N N2 q hcc.out.1 hpp.out.1 hpp.out.2 hcc.out.2.1 hcc.out.2.2 hi hi2 hN2 hqe
        have hx' := hx.out
        rw [feedR, if_neg hne] at hx'
        obtain ⟨er2, t3, s3, hx2⟩ : ∃ er2 t3 s3, chunkX ((bs.drop i).take part) t2 s2 = (er2, t3, s3) := ⟨_, _, _, rfl⟩
        have hbc : Bytes ((bs.drop i).take part) := bytes_take (bytes_drop hb.out i) part
        obtain ⟨v3, hr3, hok3⟩ := chunk_sim hok.out r3 _ hbc hx2
        rw [hr3] at hx'
        have hC := hAk.out wr ho.out.kept
        obtain ⟨a, rfl⟩ : ∃ a, A = some a := by
          obtain ⟨ad, e, _⟩ := hC.at i (by rw [hn.out]; exact hi)
          exact ⟨ad, e⟩
        have hCc : Hidd (Cells wr (some (a.add i)) (nums .u8 ((bs.drop i).take part))) := ⟨by
          have := (hC.drop i).take part
          rw [nums_take, nums_drop]
          exact this⟩
        have hq2 := Hidd.mk hq
        have hb3 : Hidd (s2.b0.length ≤ 9999 ∧ s2.b1.length ≤ 9999) := ⟨Nat.le_trans hok.out.bnd.1 (Nat.le_trans r3 (by decide)), Nat.le_trans hok.out.bnd.2.1 (Nat.le_trans r3 (by decide))⟩
        have w1 : IntKind.i64.wrap ((i : Int) + (part : Int)) = (i : Int) + (part : Int) := wrap_small _ (Int.le_trans (by decide) (Int.add_nonneg b0 (Int.natCast_nonneg part))) r4
        have w2 : wrap64 ((i : Int) + (part : Int)) = (i : Int) + (part : Int) := wrap64_small _ (Int.le_trans (by decide) (Int.add_nonneg b0 (Int.natCast_nonneg part))) r4
        replace hx2 := Hidd.mk hx2
        replace hbc := Hidd.mk hbc
        have hb9 := Hidd.mk hb3.out
        clear hq hne hx hC hi1 hi2 hN2 hr3
        replace hqe := Hidd.mk hqe
        replace hnext := Hidd.mk hnext
        have hq9 := Hidd.mk r2
        have hqm : Hidd (q ≤ 100) := ⟨r2⟩
        cases er2 with
        | none =>
          simp only [List.drop_drop] at hx'
          replace hx' := Hidd.mk hx'
          replace hok3 := Hidd.mk hok3
          clear r1 r2 r3 r4
          all_goals go_wp2_with (first
              | (at_builtin; have hE := row_lit ho.out 5 1 0 #[] (nums .u8 []) rfl rfl (by decide); refine appb rfl _ _ rfl hE 0 _ 0 0 [] rfl rfl _ _ _ ((bs.drop i).take part) rfl (by first | exact hq2.out | (rw [q2]; exact hq2.out) | (rw [hq2.out]; exact q2.symm)) (hCc.out.alloc _) (by simp only [Nat.zero_add]; have h1 := hq9.out; have h2 := hqm.out; first | omega | (simp only [q2]; omega)) ?_; intro A4 c4 w4 ho4; rw [Nat.zero_add, List.nil_append] at ho4; have ho5 := Hidd.mk ho4; clear hE ho4 ho)
              | (go_at_call 14; have hq := ho5.out; clear hq; refine (chunk_own 1 ho5.out rfl hok.out.st hok.out.fs _ _ _ ((bs.drop i).take part) (row_cells ho5.out 0 rfl) hbc.out (by first | exact hq2.out | (rw [q2]; exact hq2.out) | (rw [hq2.out]; exact q2.symm)) (by have h1 := hq9.out; have h2 := hqm.out; first | omega | (simp only [q2]; omega)) _ _ _ hx2.out hb9.out).mono ?_; rintro e w5 ⟨x, rfl, M3, ho6⟩; obtain rfl : x = .nilIface := (show IsE w5 none x from ho6.get 0 rfl); replace ho6 := Hidd.mk (ho6.reorder (M := [bankR p f M3 t3 s3]) [2] rfl (by decide)); clear ho5))
          all_goals go_roundg g
          all_goals first
            | (case rel => exact ⟨i + part, t3, s3, v3, M3, N2 + 1, by go_num, hnext.out.1, hnext.out.2.1, hnext.out.2.2, hx', hok3, ho6⟩)
            | omega
        | some e2 =>
          injection hx' with e3 e4
          subst e3 e4
          have hok4 : Hidd (Ok t3 s3 v3 (N + n + 2)) := ⟨⟨hok3.inv, hok3.st, hok3.fs, bnd_mono hok3.bnd (by have := hnext.out.2.2; omega)⟩⟩
          clear hok3 r1 r2 r3 r4
          all_goals go_wp2_with (first
              | (at_builtin; have hE := row_lit ho.out 5 1 0 #[] (nums .u8 []) rfl rfl (by decide); refine appb rfl _ _ rfl hE 0 _ 0 0 [] rfl rfl _ _ _ ((bs.drop i).take part) rfl (by first | exact hq2.out | (rw [q2]; exact hq2.out) | (rw [hq2.out]; exact q2.symm)) (hCc.out.alloc _) (by simp only [Nat.zero_add]; have h1 := hq9.out; have h2 := hqm.out; first | omega | (simp only [q2]; omega)) ?_; intro A4 c4 w4 ho4; rw [Nat.zero_add, List.nil_append] at ho4; have ho5 := Hidd.mk ho4; clear hE ho4 ho)
              | (go_at_call 14; have hq := ho5.out; clear hq; refine (chunk_own 1 ho5.out rfl hok.out.st hok.out.fs _ _ _ ((bs.drop i).take part) (row_cells ho5.out 0 rfl) hbc.out (by first | exact hq2.out | (rw [q2]; exact hq2.out) | (rw [hq2.out]; exact q2.symm)) (by have h1 := hq9.out; have h2 := hqm.out; first | omega | (simp only [q2]; omega)) _ _ _ hx2.out hb9.out).mono ?_; rintro e w5 ⟨x, rfl, M3, ho6⟩; obtain ⟨e2c, e2a⟩ := e2; obtain ⟨b9, rfl, _⟩ := (show IsE w5 (some (e2c, e2a)) x from ho6.get 0 rfl); replace ho6 := Hidd.mk (ho6.reorder (M := [bankR p f M3 t3 s3, eres (some (e2c, e2a)) (.iface 86 (.pointer (some ⟨b9, 0, none⟩)))]) [2, 0] rfl (by decide)); clear ho5))
          all_goals (try rw [Exit.noGoto_ret])
          all_goals go_ret
          all_goals exact ⟨_, rfl, M3, t3, s3, hok4.out, hend.out _ _ _ _ _ _ ho6.out⟩
      · have di : decide (i < n) = false := decide_eq_false hi
        have hbe : bs.drop i = [] := List.drop_of_length_le (by rw [hn.out]; omega)
        have hx' := hx.out
        rw [hbe, feedR_end] at hx'
        have hN3 : N2 ≤ 9000 := by have := hcc.out.2.2; omega
        obtain ⟨er2, t3, s3, hx2⟩ : ∃ er2 t3 s3, commitX t2 s2 = (er2, t3, s3) := ⟨_, _, _, rfl⟩
        obtain ⟨v3, hr3, hok3⟩ := commit_sim hok.out hN3 hx2
        rw [hx'] at hr3
        injection hr3 with e3 e4
        subst e3 e4
        have hok4 : Hidd (Ok t3 s3 v' (N + n + 2)) := ⟨⟨hok3.inv, hok3.st, hok3.fs, bnd_mono hok3.bnd (by omega)⟩⟩
        have hmk9 : Hidd (s2.mrk.length ≤ 9999) := ⟨Nat.le_trans hok.out.bnd.2.2 (Nat.le_trans hN3 (by decide))⟩
        replace hx2 := Hidd.mk hx2
        clear hok3 hx' hbe hx hi hi1 hi2 hN2 hN3
        go_wp2_with (go_at_call 20; refine (commit_own 0 ho.out rfl hok.out.st hok.out.fs _ _ _ hx2.out hmk9.out).mono ?_; rintro e w5 ⟨x, rfl, M3, ho6⟩; replace ho6 := Hidd.mk (ho6.reorder (M := [bankR p f M3 t3 s3, eres er x]) [1, 0] rfl (by decide)); clear ho)
        (try rw [Exit.noGoto_ret])
        go_ret
        exact ⟨_, rfl, M3, t3, s3, hok4.out, hend.out _ _ _ _ _ _ ho6.out⟩
end Go.Proofs.Ytjbhcmkloamcmaa
