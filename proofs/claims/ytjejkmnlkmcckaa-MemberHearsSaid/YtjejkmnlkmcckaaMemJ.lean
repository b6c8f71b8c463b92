/- The contract of Frames. -/
import Derived.Test.YtjejkmnlkmcckaaMemE
import Derived.Test.YtjejkmnlkmcckaaAppR
namespace Go.Proofs.Ytjejkmnlkmcckaa
open Go.RowKit

def frameL (l : List Fr) (ns : List Nat) : List Fr := ns.flatMap fun n => l.filter fun x => decide (x.s = n)
theorem frameL_succ {l : List Fr} {ns : List Nat} {i n : Nat} (h : ns[i]? = some n) : frameL l (ns.take (i + 1)) = frameL l (ns.take i) ++ l.filter fun x => decide (x.s = n) := by
  unfold frameL
  rw [List.take_add_one, h, List.flatMap_append]
  simp
theorem frameL_len (l : List Fr) : ∀ ns : List Nat, (frameL l ns).length ≤ ns.length * l.length
  | [] => by simp [frameL]
  | n :: ns => by
    have := frameL_len l ns
    have h2 := List.length_filter_le (fun x : Fr => decide (x.s = n)) l
    unfold frameL at this ⊢
    rw [List.flatMap_cons, List.length_append, List.length_cons, Nat.add_mul]
    omega
theorem filt_succ {l : List Fr} {j n : Nat} {x : Fr} (h : l[j]? = some x) : (l.take (j + 1)).filter (fun x => decide (x.s = n)) = (l.take j).filter (fun x => decide (x.s = n)) ++ if x.s = n then [x] else [] := by
  rw [List.take_add_one, h, List.filter_append]
  by_cases he : x.s = n <;> simp [he]
theorem frCells_len (l : List Fr) : (frCells l).length = l.length * 9 := by
  induction l with
  | nil => rfl
  | cons x l ih => rw [frCells, List.flatMap_cons, List.length_append, List.length_cons, Nat.add_mul]; unfold frCells at ih; rw [ih]; simp [Fr.cells]; omega
theorem M_lt {ok : Bool} {l : List Fr} {rr mm M : Nat} (hM : (if ok = true then membersN l rr mm else 0) = M) : M < 128 := by
  rw [← hM]
  split
  · exact members_lt _ _ _
  · decide

theorem fl_bound {l : List Fr} {ns : List Nat} {i j n nl len q : Nat} (h1 : ns.length = nl) (h2 : l.length = len) (h3 : nl ≤ 7) (h4 : len ≤ 1000) (h : (frameL l (ns.take i) ++ (l.take j).filter fun x => decide (x.s = n)).length = q) : q ≤ 100000 := by
  have g1 := frameL_len l (ns.take i)
  have g2 := List.length_filter_le (fun x : Fr => decide (x.s = n)) (l.take j)
  rw [List.length_take] at g1 g2
  rw [List.length_append] at h
  have g3 := Nat.mul_le_mul (show min i ns.length ≤ 7 by omega) (show l.length ≤ 1000 by omega)
  omega

set_option maxRecDepth 100000 in
set_option maxHeartbeats 4000000 in
theorem frames_own {w0 w : World} {S : Nat → Prop} {L : List Res} {b r m : Nat} {kn : Bool} {A : Option Addr} {len cap : Nat} {l : List Fr} (k : Nat) (hO : Own w0 S w L) (hk : L[k]? = some (hres b r m kn A len cap l)) (hl : len ≤ 1000)
    (rr mm : Nat) (ok : Bool) (hr : rightN r m kn l = ((rr, mm), ok)) (M : Nat) (hM : (if ok = true then membersN l rr mm else 0) = M) (fl : List Fr) (hfl : frameL l (bitsTo M 7) = fl) :
    Calls Try.prog 38 #[.pointer (some ⟨b, 0, none⟩)] w fun e w' => ∃ B c, e = .returned (.slice B fl.length c) ∧ Own w0 S w' (row 59 9 (.slice B fl.length c) fl.length (frCells fl) :: L) := by
  have hM8 := M_lt hM
  have hO0 := Hidd.mk hO
  have hr0 := Hidd.mk hr
  have hk0 := Hidd.mk hk
  have hM0 := Hidd.mk hM
  have hll := Hidd.mk (show HIn w b r m kn A len cap l from hO.get k hk).ll
  have hok := Hidd.mk (show HIn w b r m kn A len cap l from hO.get k hk).ok
  clear hO hr hk hM
  obtain ⟨iF, hIF⟩ := info_parts info_fr
  replace hIF := Hidd.mk hIF
  obtain ⟨ns, hns⟩ : ∃ ns, bitsTo M 7 = ns := ⟨_, rfl⟩
  have hnl : ns.length ≤ 7 := by rw [← hns]; exact bitsTo_len M 7
  have hnr : ∀ n ∈ ns, n < 7 := fun n hn => by
    rw [← hns] at hn
    unfold bitsTo at hn
    exact List.mem_range.1 (List.mem_filter.1 hn).1
  obtain ⟨nl, hnn⟩ : ∃ nl, ns.length = nl := ⟨_, rfl⟩
  rw [hns] at hfl
  rw [hnn] at hnl
  replace hnr := Hidd.mk hnr
  have hns2 := Hidd.mk hns
  have hnn2 := Hidd.mk hnn
  clear hns hnn
  go_enter Try.func38, Try.ntmps38
  go_wp2_with (first
    | (go_at_call 24; refine (members_at k hO0.out hk0.out hl rr mm ok hr0.out M hM0.out).mono ?_; rintro e w1 ⟨rfl, ho1⟩; replace ho1 := Hidd.mk ho1; clear hO0)
    | (go_at_call 33; refine (list_any M (by omega) _).mono ?_; rintro e w2 ⟨A2, c2, rfl, ho2⟩; rw [hns2.out, hnn2.out] at ho2 ⊢; have ho3 := Hidd.mk (row_nil (ho1.out.made ho2) 59 9); clear ho2 ho1))
  go_loopw [3, 12] (fun v3 v12 wr => ∃ (i q : Nat) (B : Option Addr) (c : Nat), v12 = .int .i64 i ∧ i ≤ nl ∧ v3 = .slice B q c ∧ Hidd ((frameL l (ns.take i)).length = q) ∧ Hidd (Own w0 S wr (row 59 9 (.slice B q c) q (frCells (frameL l (ns.take i))) :: row 3 1 (.slice A2 nl c2) nl (nums .i64 (ints ns)) :: L))) (fun _ v12 _ => nl - (intOf v12).toNat)
  case atStart => exact ⟨0, 0, none, 0, rfl, Nat.zero_le _, rfl, ⟨rfl⟩, ho3⟩
  case round =>
    clear ho3
    obtain ⟨i, q, B, c, rfl, hi, rfl, hql, ho⟩ := hrel
    by_cases hlt : i < nl
    · obtain ⟨n, hn⟩ : ∃ n, ns[i]? = some n := ⟨_, List.getElem?_eq_getElem (by rw [hnn2.out]; exact hlt)⟩
      have hn7 := hnr.out n (List.mem_of_getElem? hn)
      have hsc := Hidd.mk (frameL_succ (l := l) hn)
      obtain ⟨g, rfl, _, _⟩ := own_head (show wr.ownsRow 0 3 1 (.slice A2 nl c2) nl (nums .i64 (ints ns)) from ho.out.get 1 rfl) (by omega)
      have x0 : wr.cell? ⟨g, i, none⟩ = some (.int .i64 (n : Int)) := by
        obtain ⟨a, e, hc⟩ := row_cells ho.out 1 rfl i (.int .i64 (n : Int)) (by unfold nums ints; rw [List.getElem?_map, List.getElem?_map, hn]; rfl)
        injection e with e
        subst e
        rwa [add_plain] at hc
      have hH : HIn wr b r m kn A len cap l := ho.out.get (k + 2) hk0.out
      obtain ⟨c0, c1, c2', c3⟩ := hH.cell
      have bi0 : (0 : Int) ≤ (i : Int) := by omega
      have bi1 : (i : Int) < (nl : Int) := by omega
      clear hn hH
      go_wp2
      go_loopw [3, 7, 21] (fun v3 v7 v21 wr => ∃ (j q2 : Nat) (B2 : Option Addr) (c4 : Nat), v21 = .int .i64 j ∧ j ≤ len ∧ v3 = .slice B2 q2 c4 ∧ Hidd ((frameL l (ns.take i) ++ (l.take j).filter fun x => decide (x.s = n)).length = q2) ∧ Hidd (Own w0 S wr (row 59 9 (.slice B2 q2 c4) q2 (frCells (frameL l (ns.take i) ++ (l.take j).filter fun x => decide (x.s = n))) :: row 3 1 (.slice (some ⟨g, 0, none⟩) nl c2) nl (nums .i64 (ints ns)) :: L))) (fun _ _ v21 _ => len - (intOf v21).toNat)
      case atStart => exact ⟨0, q, B, c, rfl, Nat.zero_le _, rfl, ⟨by rw [List.take_zero, List.filter_nil, List.append_nil]; exact hql.out⟩, ⟨by rw [List.take_zero, List.filter_nil, List.append_nil]; exact ho.out⟩⟩
      case round =>
        clear ho c0 c1 c2' c3 x0
        obtain ⟨j, q2, B2, c4, rfl, hj, rfl, hq2l, ho⟩ := hrel
        by_cases hjl : j < len
        · obtain ⟨x, hx⟩ : ∃ x, l[j]? = some x := ⟨_, List.getElem?_eq_getElem (by rw [hll.out]; exact hjl)⟩
          have hxs := (hok.out x (List.mem_of_getElem? hx)).s
          have hw8 := u8_int hxs
          have hfs := Hidd.mk (filt_succ (n := n) hx)
          have hH : HIn _ b r m kn A len cap l := ho.out.get (k + 2) hk0.out
          obtain ⟨ga, rfl⟩ := hH.form (by omega)
          obtain ⟨x0, x1, x2, x3, x4, x5, x6, x7, x8⟩ := hH.at_ hx
          have bj0 : (0 : Int) ≤ (j : Int) := by omega
          have bj1 : (j : Int) < (len : Int) := by omega
          clear hH hx
          obtain ⟨ys, yr, ym, yma, ymn, ymc, y0, y1, y2, y3, yra, yrn, yrc⟩ := x
          simp only at x0 x1 x2 x3 x4 x5 x6 x7 x8 hw8 hxs
          have hfs0 : Hidd (List.filter (fun x => decide (x.s = n)) (List.take (j + 1) l) = List.filter (fun x => decide (x.s = n)) (List.take j l) ++ if ys = n then [⟨ys, yr, ym, yma, ymn, ymc, y0, y1, y2, y3, yra, yrn, yrc⟩] else []) := hfs
          clear hfs
          by_cases he : ys = n
          · have hfs2 := Hidd.mk (hfs0.out.trans (by rw [if_pos he]))
            subst he
            have hb1 := fl_bound hnn2.out hll.out hnl hl hq2l.out
            have hb2 := Hidd.mk (show q2 + 1 ≤ maxLen by unfold maxLen; omega)
            have hb3 := Hidd.mk (show (q2 + 1) * 72 ≤ 140737488355328 by omega)
            go_wp2_with (at_builtin; refine wpList_row rfl _ _ 76 rfl 59 iF (.agg #[.int .u8 0, .int .u32 0, .int .u8 0, .slice none 0 0, .int .u8 0, .int .u8 0, .int .u16 0, .int .u16 0, .slice none 0 0]) 9 72 Try.underlying76 hIF.out.1 hIF.out.2.1 hIF.out.2.2.1 hIF.out.2.2.2 (by rfl) (by decide) ((ho.out.alloc _).alloc _) 2 B2 q2 c4 _ rfl rfl _ 1 1 (Fr.cells ⟨ys, yr, ym, yma, ymn, ymc, y0, y1, y2, y3, yra, yrn, yrc⟩) rfl rfl (Cells.new1 _ _ _ _ _ rfl) (by intro _ h; cases h) (Fr.one _) hb2.out hb3.out ?_; intro B3 c5 w6 ho6; replace ho6 := Hidd.mk ho6.tail.tail)
            go_roundw
            case rel =>
              refine ⟨j + 1, q2 + 1, B3, c5, by go_num, by omega, rfl, ⟨?_⟩, ⟨?_⟩⟩
              · rw [hfs2.out, ← List.append_assoc, List.length_append, hq2l.out]; rfl
              · have h := ho6.out
                rw [hfs2.out, ← List.append_assoc, frCells_append]
                rw [show frCells [(⟨ys, yr, ym, yma, ymn, ymc, y0, y1, y2, y3, yra, yrn, yrc⟩ : Fr)] = Fr.cells ⟨ys, yr, ym, yma, ymn, ymc, y0, y1, y2, y3, yra, yrn, yrc⟩ by simp [frCells]]
                exact h
            case measure => (simp [intOf]; try omega)
          · have hfs2 := Hidd.mk (hfs0.out.trans (by rw [if_neg he, List.append_nil]))
            have hne : ((ys : Int) == (n : Int)) = false := by rw [beq_eq_false_iff_ne]; omega
            clear he
            go_wp2
            go_roundw
            case rel => exact ⟨j + 1, q2, B2, c4, by go_num, by omega, rfl, ⟨by rw [hfs2.out]; exact hq2l.out⟩, ⟨by rw [hfs2.out]; exact (ho.out.alloc _).tail⟩⟩
            case measure => (simp [intOf]; try omega)
        · obtain rfl : j = len := by omega
          go_wp2
          go_roundw
          case rel =>
            have htl : l.take j = l := by rw [← hll.out, List.take_length]
            have h1 := hq2l.out
            have h2 := ho.out
            rw [htl, ← hsc.out] at h1 h2
            exact ⟨i + 1, q2, B2, c4, by go_num, by omega, rfl, ⟨h1⟩, ⟨h2⟩⟩
          case measure => (simp [intOf]; try omega)
    · obtain rfl : i = nl := by omega
      have htl : ns.take i = ns := by rw [← hnn2.out, List.take_length]
      have h1 := hql.out
      rw [htl, hfl] at h1
      replace h1 := Hidd.mk h1
      replace htl := Hidd.mk htl
      go_wp2
      go_ret
      refine ⟨B, c, by rw [h1.out]; rfl, ?_⟩
      have h2 := ho.out
      rw [htl.out, hfl] at h2
      rw [h1.out]
      exact h2.sub (.cons_cons _ (.cons _ (List.Sublist.refl _)))
end Go.Proofs.Ytjejkmnlkmcckaa
