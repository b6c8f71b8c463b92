/- TableCuts walked. -/
import Derived.Test.YtcamoldjljfbeaaTbK
import Derived.Test.YtcamoldjljfbeaaTbA
import Derived.Test.YtcamoldjljfbeaaSoG
import Derived.Test.YtcamoldjljfbeaaCrcBu
import Derived.Test.YtcamoldjljfbeaaRefOpen
import Derived.Test.YtcamoldjljfbeaaTbC
namespace Go.Proofs.Ytcamoldjljfbeaa

theorem valN_cons' (x : Int) (l : List Int) : valN (x :: l) = x.toNat * 256 ^ l.length + valN l := by
  have key : ∀ (l : List Int) (a : Nat), l.foldl (fun a x => a * 256 + x.toNat) a = a * 256 ^ l.length + l.foldl (fun a x => a * 256 + x.toNat) 0 := by
    intro l
    induction l with
    | nil => intro a; simp
    | cons y l ih =>
      intro a
      rw [List.foldl_cons, List.foldl_cons, ih (a * 256 + y.toNat), ih (0 * 256 + y.toNat), List.length_cons, Nat.pow_succ]
      simp only [Nat.add_mul, Nat.zero_mul, Nat.zero_add, Nat.mul_assoc, Nat.add_assoc, Nat.mul_comm (256 ^ l.length) 256]
  unfold valN
  rw [List.foldl_cons, key]
  simp
theorem valN_wput' (v : Nat) : ∀ k, valN (wputN v k) = v % 256 ^ k
  | 0 => by simp [wputN, valN, Nat.mod_one]
  | k + 1 => by
    rw [wputN, valN_cons', valN_wput' v k, wputN_length, Int.toNat_natCast, Nat.mod_pow_succ]
    rw [Nat.mul_comm, Nat.add_comm]
/-- Numbers, each with its size. -/
def encN (l : List (Nat × Nat)) : List Int := l.flatMap fun p => wputN p.2 p.1
def szs (l : List (Nat × Nat)) : Nat := (l.map Prod.fst).sum
theorem encN_len : ∀ l : List (Nat × Nat), (encN l).length = szs l
  | [] => rfl
  | p :: l => by
    have := encN_len l
    simp only [encN, szs] at this ⊢
    rw [List.flatMap_cons, List.length_append, wputN_length, this, List.map_cons, List.sum_cons]
def Fit (l : List (Nat × Nat)) : Prop := ∀ p ∈ l, 1 ≤ p.1 ∧ p.1 ≤ 4 ∧ p.2 < 256 ^ p.1
section
variable {xs : List Int} {n : Nat}
theorem tk_img {z v : Nat} {s : RS} {r : List Int} (hn : xs.length = n) (hz : 1 ≤ z ∧ z ≤ 4 ∧ v < 256 ^ z) (he : s.er = none) (h : xs.drop s.p = wputN v z ++ r) : tk xs n z s = (v, ⟨s.p + z, none⟩) := by
  have hl := congrArg List.length h
  rw [List.length_drop, List.length_append, wputN_length] at hl
  have hm : moreB n s.p s.er (z : Int) = true := by
    unfold moreB
    rw [he]
    simp
    omega
  unfold tk takeR
  rw [if_neg (by omega), if_pos hm, Int.toNat_natCast, h, List.take_left' (wputN_length v z), valN_wput', Nat.mod_eq_of_lt hz.2.2, he]
theorem takes_img (hn : xs.length = n) : ∀ (l : List (Nat × Nat)) (s : RS) (r : List Int), Fit l → s.er = none → xs.drop s.p = encN l ++ r → takes xs n (l.map Prod.fst) s = (l.map Prod.snd, ⟨s.p + szs l, none⟩)
  | [], s, r, _, he, _ => by
    obtain ⟨p, er⟩ := s
    obtain rfl : er = none := he
    rfl
  | p :: l, s, r, hf, he, h => by
    have h1 : xs.drop s.p = wputN p.2 p.1 ++ (encN l ++ r) := by rw [h]; simp [encN]
    have hk := tk_img hn (hf p List.mem_cons_self) he h1
    have h2 : xs.drop (s.p + p.1) = encN l ++ r := by
      rw [← List.drop_drop, h1, List.drop_left' (wputN_length _ _)]
    have ih := takes_img hn l ⟨s.p + p.1, none⟩ r (fun q hq => hf q (List.mem_cons_of_mem _ hq)) rfl h2
    simp only [List.map_cons, takes, hk, ih, szs, List.sum_cons, Nat.add_assoc]
end
def ptE (p : Pt) : List (Nat × Nat) := [(1, p.node.toNat), (4, p.start.toNat), (4, p.len.toNat), (1, p.budget.toNat), (1, p.words.toNat), (1, p.r0), (1, p.r1), (1, p.r2), (1, p.r3)]
def qtE (q : Qt) : List (Nat × Nat) := [(1, q.part.toNat), (1, q.kind), (1, (bI q.out).toNat), (1, q.size.toNat), (1, q.depth.toNat), (1, q.fresh.toNat)]
def rtE (r : Rt) : List (Nat × Nat) := [(1, r.src.toNat), (1, r.dst.toNat)]
theorem ptE_by (p : Pt) : ptBy p = encN (ptE p) := by simp [ptBy, ptE, encN, putsL]
theorem qtE_by (q : Qt) : qtBy q = encN (qtE q) := by simp [qtBy, qtE, encN, putsL]
theorem rtE_by (r : Rt) : rtBy r = encN (rtE r) := by simp [rtBy, rtE, encN, putsL]
theorem pt_fit {p : Pt} {n : Int} (h : ptB p n = true) (h7 : n ≤ 7) : Fit (ptE p) ∧ ptOf ((ptE p).map Prod.snd) = p := by
  obtain ⟨h1, h2, h3, h4, h5, h6⟩ : (0 ≤ p.node ∧ p.node < 7) ∧ (0 ≤ p.start ∧ p.start ≤ 268435456) ∧ (0 ≤ p.len ∧ p.len ≤ 268435456) ∧ (0 ≤ p.budget ∧ p.budget ≤ 64) ∧ (0 ≤ p.words ∧ p.words ≤ 16) ∧ p.r0 ≤ 3 ∧ p.r1 ≤ 3 ∧ p.r2 ≤ 3 ∧ p.r3 ≤ 3 := by
    simp only [ptB, inB, Bool.and_eq_true, decide_eq_true_eq] at h
    omega
  refine ⟨fun q hq => ?_, ?_⟩
  · simp only [ptE, List.mem_cons, List.not_mem_nil, or_false] at hq
    rcases hq with rfl | rfl | rfl | rfl | rfl | rfl | rfl | rfl | rfl <;> refine ⟨by simp, by simp, ?_⟩ <;> simp only <;> omega
  · obtain ⟨a, b, c, d, e, g0, g1, g2, g3⟩ := p
    simp only at h1 h2 h3 h4 h5 h6
    show (⟨((a.toNat : Nat) : Int), ((b.toNat : Nat) : Int), ((c.toNat : Nat) : Int), ((d.toNat : Nat) : Int), ((e.toNat : Nat) : Int), g0, g1, g2, g3⟩ : Pt) = _
    rw [Int.toNat_of_nonneg h1.1, Int.toNat_of_nonneg h2.1, Int.toNat_of_nonneg h3.1, Int.toNat_of_nonneg h4.1, Int.toNat_of_nonneg h5.1]
theorem qt_fit {q : Qt} {n : Nat} (h : qtB q (n : Int) = true) (h7 : n ≤ 12) : Fit (qtE q) ∧ qtOf ((qtE q).map Prod.snd) = q ∧ ¬ 1 < (bI q.out).toNat := by
  obtain ⟨h1, h2, h3, h4, h5⟩ : (0 ≤ q.part ∧ q.part < 12) ∧ (1 ≤ q.kind ∧ q.kind ≤ 2) ∧ (0 ≤ q.size ∧ q.size ≤ 16) ∧ (0 ≤ q.depth ∧ q.depth ≤ 4) ∧ (0 ≤ q.fresh ∧ q.fresh ≤ 8) := by
    simp only [qtB, inB, Bool.and_eq_true, decide_eq_true_eq] at h
    obtain ⟨⟨h1, h2⟩, h3⟩ := h
    split at h3
    · simp only [Bool.and_eq_true, decide_eq_true_eq] at h3
      omega
    · split at h3
      · simp only [Bool.and_eq_true, decide_eq_true_eq] at h3
        omega
      · cases h3
  have ho : (bI q.out).toNat ≤ 1 := by unfold bI; split <;> decide
  refine ⟨fun p hp => ?_, ?_, by omega⟩
  · simp only [qtE, List.mem_cons, List.not_mem_nil, or_false] at hp
    rcases hp with rfl | rfl | rfl | rfl | rfl | rfl <;> refine ⟨by simp, by simp, ?_⟩ <;> simp only <;> omega
  · obtain ⟨a, b, c, d, e, g⟩ := q
    simp only at h1 h2 h3 h4 h5
    show (⟨((a.toNat : Nat) : Int), b, decide ((bI c).toNat = 1), ((d.toNat : Nat) : Int), ((e.toNat : Nat) : Int), ((g.toNat : Nat) : Int)⟩ : Qt) = _
    rw [Int.toNat_of_nonneg h1.1, Int.toNat_of_nonneg h3.1, Int.toNat_of_nonneg h4.1, Int.toNat_of_nonneg h5.1]
    cases c <;> rfl
theorem rt_fit {r : Rt} {n : Nat} (h : rtB r (n : Int) = true) (h7 : n ≤ 24) : Fit (rtE r) ∧ rtOf ((rtE r).map Prod.snd) = r := by
  simp only [rtB, inB, Bool.and_eq_true, decide_eq_true_eq] at h
  refine ⟨fun p hp => ?_, ?_⟩
  · simp only [rtE, List.mem_cons, List.not_mem_nil, or_false] at hp
    rcases hp with rfl | rfl <;> refine ⟨by simp, by simp, ?_⟩ <;> simp only <;> omega
  · obtain ⟨a, b⟩ := r
    simp only at h
    show (⟨((a.toNat : Nat) : Int), ((b.toNat : Nat) : Int)⟩ : Rt) = _
    rw [Int.toNat_of_nonneg (by omega), Int.toNat_of_nonneg (by omega)]
section
variable {xs : List Int} {n : Nat}
theorem ptsR_img (hn : xs.length = n) {m : Int} (h7 : m ≤ 7) : ∀ (ps : List Pt) (s : RS) (r : List Int), (∀ p ∈ ps, ptB p m = true) → s.er = none → xs.drop s.p = ps.flatMap ptBy ++ r → ptsR xs n ps.length s = (ps, ⟨s.p + 15 * ps.length, none⟩)
  | [], s, r, _, he, _ => by
    obtain ⟨p, er⟩ := s
    obtain rfl : er = none := he
    rfl
  | p :: ps, s, r, hp, he, h => by
    obtain ⟨hf, ho⟩ := pt_fit (hp p List.mem_cons_self) h7
    rw [List.flatMap_cons, ptE_by, List.append_assoc] at h
    have ht := takes_img hn (ptE p) s _ hf he h
    have hlen : (encN (ptE p)).length = 15 := encN_len _
    have h2 : xs.drop (s.p + 15) = ps.flatMap ptBy ++ r := by rw [← List.drop_drop, h, List.drop_left' hlen]
    have ih := ptsR_img hn h7 ps ⟨s.p + 15, none⟩ r (fun q hq => hp q (List.mem_cons_of_mem _ hq)) rfl h2
    rw [List.length_cons]
    unfold ptsR
    rw [he, if_neg (by decide), show ([1, 4, 4, 1, 1, 1, 1, 1, 1] : List Nat) = (ptE p).map Prod.fst from rfl, ht]
    simp only [ho]
    rw [show szs (ptE p) = 15 from rfl, ih]
    simp only [Prod.mk.injEq, true_and, RS.mk.injEq, and_true]
    omega
theorem qtsR_img (hn : xs.length = n) {m : Nat} (h7 : m ≤ 12) : ∀ (qs : List Qt) (i : Nat) (s : RS) (r : List Int), (∀ q ∈ qs, qtB q (m : Int) = true) → s.er = none → xs.drop s.p = qs.flatMap qtBy ++ r → qtsR xs n qs.length i s = (none, qs, ⟨s.p + 6 * qs.length, none⟩)
  | [], i, s, r, _, he, _ => by
    obtain ⟨p, er⟩ := s
    obtain rfl : er = none := he
    rfl
  | q :: qs, i, s, r, hp, he, h => by
    obtain ⟨hf, ho, hout⟩ := qt_fit (hp q List.mem_cons_self) h7
    rw [List.flatMap_cons, qtE_by, List.append_assoc] at h
    have ht := takes_img hn (qtE q) s _ hf he h
    have ht3 := takes_img hn ((qtE q).take 3) s (encN ((qtE q).drop 3) ++ (qs.flatMap qtBy ++ r)) (fun p hp' => hf p (List.mem_of_mem_take hp')) he (by rw [h]; simp [encN, qtE])
    have hlen : (encN (qtE q)).length = 6 := encN_len _
    have h2 : xs.drop (s.p + 6) = qs.flatMap qtBy ++ r := by rw [← List.drop_drop, h, List.drop_left' hlen]
    have ih := qtsR_img hn h7 qs (i + 1) ⟨s.p + 6, none⟩ r (fun q hq => hp q (List.mem_cons_of_mem _ hq)) rfl h2
    rw [List.length_cons]
    unfold qtsR
    have ht3' : takes xs n [1, 1, 1] s = (((qtE q).take 3).map Prod.snd, ⟨s.p + szs ((qtE q).take 3), none⟩) := ht3
    have ht' : takes xs n [1, 1, 1, 1, 1, 1] s = ((qtE q).map Prod.snd, ⟨s.p + 6, none⟩) := ht
    rw [he, if_neg (by decide), ht3']
    rw [if_neg (by unfold badOut; simp only [qtE, List.take_succ_cons, List.take_zero, List.map_cons, List.map_nil, List.getD_cons_succ, List.getD_cons_zero]; rw [decide_eq_false hout]; simp)]
    rw [ht']
    simp only [ho]
    rw [ih]
    simp only [Prod.mk.injEq, true_and, RS.mk.injEq, and_true]
    omega
theorem rtsR_img (hn : xs.length = n) {m : Nat} (h7 : m ≤ 24) : ∀ (rs : List Rt) (s : RS) (r : List Int), (∀ p ∈ rs, rtB p (m : Int) = true) → s.er = none → xs.drop s.p = rs.flatMap rtBy ++ r → rtsR xs n rs.length s = (rs, ⟨s.p + 2 * rs.length, none⟩)
  | [], s, r, _, he, _ => by
    obtain ⟨p, er⟩ := s
    obtain rfl : er = none := he
    rfl
  | p :: ps, s, r, hp, he, h => by
    obtain ⟨hf, ho⟩ := rt_fit (hp p List.mem_cons_self) h7
    rw [List.flatMap_cons, rtE_by, List.append_assoc] at h
    have ht := takes_img hn (rtE p) s _ hf he h
    have hlen : (encN (rtE p)).length = 2 := encN_len _
    have h2 : xs.drop (s.p + 2) = ps.flatMap rtBy ++ r := by rw [← List.drop_drop, h, List.drop_left' hlen]
    have ih := rtsR_img hn h7 ps ⟨s.p + 2, none⟩ r (fun q hq => hp q (List.mem_cons_of_mem _ hq)) rfl h2
    rw [List.length_cons]
    unfold rtsR
    rw [he, if_neg (by decide), show ([1, 1] : List Nat) = (rtE p).map Prod.fst from rfl, ht]
    simp only [ho]
    rw [show szs (rtE p) = 2 from rfl, ih]
    simp only [Prod.mk.injEq, true_and, RS.mk.injEq, and_true]
    omega
end
def hdE (n f sl gp rh d0 d1 mg : Int) (pn on rn : Nat) : List (Nat × Nat) := [(1, n.toNat), (1, f.toNat), (4, sl.toNat), (4, gp.toNat), (4, rh.toNat), (4, d0.toNat), (4, d1.toNat), (4, mg.toNat), (1, pn), (1, on), (1, rn)]
theorem hdE_by (n f sl gp rh d0 d1 mg : Int) (pn on rn : Nat) : hdBy n f sl gp rh d0 d1 mg pn on rn = wputN 1163084593 4 ++ encN (hdE n f sl gp rh d0 d1 mg pn on rn) := by simp [hdBy, hdE, encN, putsL]
/-- An image, and what stands behind it: what is read. -/
theorem rdT_img {n f sl gp rh d0 d1 mg : Int} {ps : List Pt} {qs : List Qt} {rs : List Rt} (hT : Tab n f sl gp rh d0 d1 mg ps qs rs) (more : List Int) (N M : Nat) (hN : (imgB n f sl gp rh d0 d1 mg ps qs rs).length = N) (hM : N + more.length = M) :
    rdT (imgB n f sl gp rh d0 d1 mg ps qs rs ++ more) M = ⟨none, [n.toNat, f.toNat, sl.toNat, gp.toNat, rh.toNat, d0.toNat, d1.toNat, mg.toNat, ps.length, qs.length, rs.length], ps, qs, rs, ⟨N, none⟩⟩ := by
  have hNl := imgB_len n f sl gp rh d0 d1 mg ps qs rs
  obtain ⟨X, hX⟩ : ∃ X, imgB n f sl gp rh d0 d1 mg ps qs rs ++ more = X := ⟨_, rfl⟩
  have hXl : X.length = M := by rw [← hX, List.length_append, hN, hM]
  have hX0 : X.drop 0 = wputN 1163084593 4 ++ (encN (hdE n f sl gp rh d0 d1 mg ps.length qs.length rs.length) ++ (ps.flatMap ptBy ++ (qs.flatMap qtBy ++ (rs.flatMap rtBy ++ more)))) := by
    rw [← hX, List.drop_zero, imgB, hdE_by]
    simp only [List.append_assoc]
  have k1 : tk X M 4 ⟨0, none⟩ = (1163084593, ⟨4, none⟩) := tk_img (s := ⟨0, none⟩) hXl ⟨by decide, by decide, by decide⟩ rfl hX0
  have hX4 : X.drop 4 = encN (hdE n f sl gp rh d0 d1 mg ps.length qs.length rs.length) ++ (ps.flatMap ptBy ++ (qs.flatMap qtBy ++ (rs.flatMap rtBy ++ more))) := by
    rw [show 4 = 0 + 4 from rfl, ← List.drop_drop, hX0, List.drop_left' (wputN_length _ _)]
  have hS := hT.sc
  have hs := hS.s1
  have b1 := hT.np
  have b2 := hT.nq
  have b3 := hT.nr
  obtain ⟨s1, s2, s3, s4, s5, s6, s7, s8, s9, s10, s11, s12, s13, s14, s15, s16⟩ := hS
  have hf : Fit (hdE n f sl gp rh d0 d1 mg ps.length qs.length rs.length) := fun p hp => by
    simp only [hdE, List.mem_cons, List.not_mem_nil, or_false] at hp
    rcases hp with rfl | rfl | rfl | rfl | rfl | rfl | rfl | rfl | rfl | rfl | rfl <;> refine ⟨by simp, by simp, ?_⟩ <;> simp only <;> omega
  have k2 := takes_img hXl _ ⟨4, none⟩ _ hf rfl hX4
  have hlen : (encN (hdE n f sl gp rh d0 d1 mg ps.length qs.length rs.length)).length = 29 := encN_len _
  have hX37 : X.drop 33 = ps.flatMap ptBy ++ (qs.flatMap qtBy ++ (rs.flatMap rtBy ++ more)) := by
    rw [show 33 = 4 + 29 from rfl, ← List.drop_drop, hX4, List.drop_left' hlen]
  have k3 := ptsR_img hXl s2 ps ⟨33, none⟩ _ hT.p rfl hX37
  have hXq : X.drop (33 + 15 * ps.length) = qs.flatMap qtBy ++ (rs.flatMap rtBy ++ more) := by
    rw [← List.drop_drop, hX37, List.drop_left' (by rw [len_flat ptBy_len]; omega)]
  have k4 := qtsR_img hXl b1 qs 0 ⟨33 + 15 * ps.length, none⟩ _ hT.q rfl hXq
  have hXr : X.drop (33 + 15 * ps.length + 6 * qs.length) = rs.flatMap rtBy ++ more := by
    rw [← List.drop_drop, hXq, List.drop_left' (by rw [len_flat qtBy_len]; omega)]
  have k5 := rtsR_img hXl b2 rs ⟨33 + 15 * ps.length + 6 * qs.length, none⟩ _ hT.r rfl hXr
  rw [hX]
  unfold rdT
  rw [k1, if_neg (by simp), show ([1, 1, 4, 4, 4, 4, 4, 4, 1, 1, 1] : List Nat) = (hdE n f sl gp rh d0 d1 mg ps.length qs.length rs.length).map Prod.fst from rfl, k2]
  simp only [hdE, List.map_cons, List.map_nil, List.getD_cons_succ, List.getD_cons_zero]
  rw [show 4 + szs _ = 33 from rfl, k3]
  simp only
  rw [k4]
  simp only
  rw [if_neg (by decide), k5]
  simp only [Rd.mk.injEq, RS.mk.injEq, and_true, true_and]
  omega
section
variable {xs : List Int} {k m : Nat}
theorem tk_mono {n z : Nat} {s : RS} (h : (tk xs n z s).2.er = none) : s.er = none := by
  rcases he : s.er with _ | q
  · rfl
  · rw [tk_err (by rw [he]; rfl), he] at h
    cases h
theorem takes_mono {n : Nat} : ∀ (a : List Nat) (s : RS), (takes xs n a s).2.er = none → s.er = none
  | [], _, h => h
  | _ :: a, _, h => tk_mono (takes_mono a _ h)
theorem ptsR_mono {n : Nat} : ∀ (k : Nat) (s : RS), (ptsR xs n k s).2.er = none → s.er = none
  | 0, _, h => h
  | k + 1, s, h => by
    unfold ptsR at h
    split at h
    · exact h
    · exact takes_mono _ _ (ptsR_mono k _ h)
theorem qtsR_mono {n : Nat} : ∀ (k i : Nat) (s : RS), (qtsR xs n k i s).2.2.er = none → s.er = none
  | 0, _, _, h => h
  | k + 1, i, s, h => by
    unfold qtsR at h
    split at h
    · exact h
    · split at h
      · exact takes_mono _ _ h
      · exact takes_mono _ _ (qtsR_mono k _ _ h)
theorem rtsR_mono {n : Nat} : ∀ (k : Nat) (s : RS), (rtsR xs n k s).2.er = none → s.er = none
  | 0, _, h => h
  | k + 1, s, h => by
    unfold rtsR at h
    split at h
    · exact h
    · exact takes_mono _ _ (rtsR_mono k _ h)
/-- What is read of the first bytes without an error is read of all. -/
theorem tk_pre {n z : Nat} {s : RS} (hkn : k ≤ n) (h : (tk (xs.take k) k z s).2.er = none) : tk xs n z s = tk (xs.take k) k z s := by
  have he := tk_mono h
  unfold tk takeR at h ⊢
  by_cases hb : (z : Int) < 1 ∨ 4 < (z : Int)
  · rw [if_pos hb, if_pos hb]
  · rw [if_neg hb] at h
    rw [if_neg hb, if_neg hb]
    by_cases hm : moreB k s.p s.er (z : Int) = true
    · have hm' : moreB n s.p s.er (z : Int) = true := by
        unfold moreB at hm ⊢
        simp only [Bool.and_eq_true, decide_eq_true_eq] at hm ⊢
        exact ⟨hm.1, by omega⟩
      have hp : s.p + z ≤ k := by
        unfold moreB at hm
        simp only [Bool.and_eq_true, decide_eq_true_eq] at hm
        omega
      rw [if_pos hm, if_pos hm', Int.toNat_natCast, List.drop_take, List.take_take, Nat.min_eq_left (by omega)]
    · exfalso
      rw [if_neg hm] at h
      simp only at h
      unfold moreE at h
      unfold moreB at hm
      rw [he] at h hm
      rw [if_neg (by decide)] at h
      split at h
      · cases h
      · simp at hm
        omega
theorem takes_pre {n : Nat} (hkn : k ≤ n) : ∀ (a : List Nat) (s : RS), (takes (xs.take k) k a s).2.er = none → takes xs n a s = takes (xs.take k) k a s
  | [], _, _ => rfl
  | z :: a, s, h => by
    have h1 := tk_pre hkn (takes_mono a _ h)
    have ih := takes_pre hkn a _ h
    simp only [takes, h1, ih]
theorem ptsR_pre {n : Nat} (hkn : k ≤ n) : ∀ (m : Nat) (s : RS), (ptsR (xs.take k) k m s).2.er = none → ptsR xs n m s = ptsR (xs.take k) k m s
  | 0, _, _ => rfl
  | m + 1, s, h => by
    have he := ptsR_mono _ _ h
    unfold ptsR at h ⊢
    rw [he, if_neg (by decide)] at h
    rw [he, if_neg (by decide), if_neg (by decide)]
    have h1 := takes_pre hkn _ _ (ptsR_mono m _ h)
    rw [h1, ptsR_pre hkn m _ h]
theorem qtsR_pre {n : Nat} (hkn : k ≤ n) : ∀ (m i : Nat) (s : RS), (qtsR (xs.take k) k m i s).1 = none → (qtsR (xs.take k) k m i s).2.2.er = none → qtsR xs n m i s = qtsR (xs.take k) k m i s
  | 0, _, _, _, _ => rfl
  | m + 1, i, s, h0, h => by
    have he := qtsR_mono _ _ _ h
    unfold qtsR at h0 h ⊢
    simp only [he, Option.isSome_none, Bool.false_eq_true, if_false] at h0 h ⊢
    by_cases hb : badOut (takes (xs.take k) k [1, 1, 1] s) = true
    · rw [if_pos hb] at h0
      cases h0
    · rw [if_neg hb] at h0 h
      have e6 := qtsR_mono m _ _ h
      have h1 := takes_pre hkn _ _ e6
      have e3 : (takes (xs.take k) k [1, 1, 1] s).2.er = none := by
        have := takes_app (xs := xs.take k) (n := k) [1, 1, 1] [1, 1, 1] s
        rw [show ([1, 1, 1] ++ [1, 1, 1] : List Nat) = [1, 1, 1, 1, 1, 1] from rfl] at this
        rw [this] at e6
        exact takes_mono _ _ e6
      have h3 := takes_pre hkn _ _ e3
      rw [h3, if_neg hb, if_neg hb, h1, qtsR_pre hkn m _ _ h0 h]
theorem rtsR_pre {n : Nat} (hkn : k ≤ n) : ∀ (m : Nat) (s : RS), (rtsR (xs.take k) k m s).2.er = none → rtsR xs n m s = rtsR (xs.take k) k m s
  | 0, _, _ => rfl
  | m + 1, s, h => by
    have he := rtsR_mono _ _ h
    unfold rtsR at h ⊢
    rw [he, if_neg (by decide)] at h
    rw [he, if_neg (by decide), if_neg (by decide)]
    have h1 := takes_pre hkn _ _ (rtsR_mono m _ h)
    rw [h1, rtsR_pre hkn m _ h]
theorem rdT_pre {n : Nat} (hkn : k ≤ n) (h0 : (rdT (xs.take k) k).e = none) (h : (rdT (xs.take k) k).s.er = none) : rdT xs n = rdT (xs.take k) k := by
  unfold rdT at h0 h ⊢
  by_cases hm : (tk (xs.take k) k 4 ⟨0, none⟩).1 ≠ 1163084593 ∧ (tk (xs.take k) k 4 ⟨0, none⟩).2.er.isNone = true
  · rw [if_pos hm] at h0
    cases h0
  · rw [if_neg hm] at h0 h
    simp only at h0 h
    by_cases hq : (qtsR (xs.take k) k ((takes (xs.take k) k [1, 1, 4, 4, 4, 4, 4, 4, 1, 1, 1] (tk (xs.take k) k 4 ⟨0, none⟩).2).1.getD 9 0) 0 (ptsR (xs.take k) k ((takes (xs.take k) k [1, 1, 4, 4, 4, 4, 4, 4, 1, 1, 1] (tk (xs.take k) k 4 ⟨0, none⟩).2).1.getD 8 0) (takes (xs.take k) k [1, 1, 4, 4, 4, 4, 4, 4, 1, 1, 1] (tk (xs.take k) k 4 ⟨0, none⟩).2).2).2).1.isSome = true
    · rw [if_pos hq] at h0
      simp only at h0
      rw [h0] at hq
      cases hq
    · rw [if_neg hq] at h0 h
      simp only at h
      have hq0 : (qtsR (xs.take k) k ((takes (xs.take k) k [1, 1, 4, 4, 4, 4, 4, 4, 1, 1, 1] (tk (xs.take k) k 4 ⟨0, none⟩).2).1.getD 9 0) 0 (ptsR (xs.take k) k ((takes (xs.take k) k [1, 1, 4, 4, 4, 4, 4, 4, 1, 1, 1] (tk (xs.take k) k 4 ⟨0, none⟩).2).1.getD 8 0) (takes (xs.take k) k [1, 1, 4, 4, 4, 4, 4, 4, 1, 1, 1] (tk (xs.take k) k 4 ⟨0, none⟩).2).2).2).1 = none := by
        rcases he : (qtsR (xs.take k) k ((takes (xs.take k) k [1, 1, 4, 4, 4, 4, 4, 4, 1, 1, 1] (tk (xs.take k) k 4 ⟨0, none⟩).2).1.getD 9 0) 0 (ptsR (xs.take k) k ((takes (xs.take k) k [1, 1, 4, 4, 4, 4, 4, 4, 1, 1, 1] (tk (xs.take k) k 4 ⟨0, none⟩).2).1.getD 8 0) (takes (xs.take k) k [1, 1, 4, 4, 4, 4, 4, 4, 1, 1, 1] (tk (xs.take k) k 4 ⟨0, none⟩).2).2).2).1 with _ | q
        · rfl
        · rw [he] at hq
          exact absurd rfl hq
      have eq := rtsR_mono _ _ h
      have ep := qtsR_mono _ _ _ eq
      have et := ptsR_mono _ _ ep
      have e0 := takes_mono _ _ et
      have g0 := tk_pre hkn e0
      have g1 := takes_pre hkn _ _ et
      have g2 := ptsR_pre hkn _ _ ep
      have g3 := qtsR_pre hkn _ _ _ hq0 eq
      have g4 := rtsR_pre hkn _ _ h
      rw [g0, if_neg hm, if_neg hm]
      simp only
      rw [g1, g2, g3, if_neg hq, if_neg hq, g4]
end
end Go.Proofs.Ytcamoldjljfbeaa
namespace Go.Proofs.Ytcamoldjljfbeaa

theorem fits_res' {ys : List Int} {n : Nat} (hb : Bytes ys) (hl : ys.length = n + 4) : fits ys = true ↔ crcStep 4294967295 ys = bitN 32 4294967295 := by
  rw [fits_iff hb hl]
  constructor
  · intro h
    rw [← h]
    exact rests _ (bytes_take hb n)
  · intro h
    have e1 : ys.take n ++ ys.drop n = ys := List.take_append_drop n ys
    have e2 := le4_num4 (bytes_drop hb n) (by rw [List.length_drop]; omega)
    have hv : num4 (ys.drop n) < 4294967296 := by
      have b := fun k => bytes_get (bytes_drop hb n) k
      have b0 := b 0
      have b1 := b 1
      have b2 := b 2
      have b3 := b 3
      unfold num4
      omega
    have hr := crcStep_lt (ys.take n) (r := 4294967295) (by decide) (bytes_take hb n)
    rw [← e1, crcStep_append, ← e2, crcStep_le4 _ _ hv] at h
    have h2 := bitN_inj 32 (xor_lt hr hv) (by decide) h
    have h3 : crcSum (ys.take n) = num4 (ys.drop n) := by
      rw [crcSum]
      generalize crcStep 4294967295 (ys.take n) = r at *
      rw [← h2, Nat.xor_comm r, Nat.xor_assoc, Nat.xor_self, Nat.xor_zero]
    rw [crcSeal, h3, e2, e1]
theorem seal_len (xs : List Int) : (crcSeal xs).length = xs.length + 4 := by unfold crcSeal; rw [List.length_append]; rfl
theorem dec_seal {xs : List Int} (hb : Bytes xs) (hl : xs.length + 4 ≤ 4096) : decR (crcSeal xs) = rdT xs xs.length ∧ decE (crcSeal xs) = (rdE xs.length (rdT xs xs.length)).map fun q => (((rdT xs xs.length).s.p : Int), q) := by
  have h1 : decR (crcSeal xs) = rdT xs xs.length := by
    unfold decR
    rw [seal_len, Nat.add_sub_cancel, seal_take]
  refine ⟨h1, ?_⟩
  unfold decE
  rw [seal_len, if_neg (by omega), if_neg (by rw [fits_seal hb]; decide), h1, Nat.add_sub_cancel]
section
variable {n f sl gp rh d0 d1 mg : Int} {ps : List Pt} {qs : List Qt} {rs : List Rt}
theorem img_small (hT : Tab n f sl gp rh d0 d1 mg ps qs rs) : (imgB n f sl gp rh d0 d1 mg ps qs rs).length ≤ 405 := by
  rw [imgB_len]
  have := hT.np
  have := hT.nq
  have := hT.nr
  omega
theorem dec_back (hT : Tab n f sl gp rh d0 d1 mg ps qs rs) (he : tabE n f sl gp rh d0 d1 mg ps qs rs = none) :
    decE (crcSeal (imgB n f sl gp rh d0 d1 mg ps qs rs)) = none ∧ decR (crcSeal (imgB n f sl gp rh d0 d1 mg ps qs rs)) = ⟨none, [n.toNat, f.toNat, sl.toNat, gp.toNat, rh.toNat, d0.toNat, d1.toNat, mg.toNat, ps.length, qs.length, rs.length], ps, qs, rs, ⟨(imgB n f sl gp rh d0 d1 mg ps qs rs).length, none⟩⟩ := by
  obtain ⟨h1, h2⟩ := dec_seal (imgB_rng n f sl gp rh d0 d1 mg ps qs rs) (by have := img_small hT; omega)
  have h3 := rdT_img hT [] _ _ rfl (Nat.add_zero _)
  rw [List.append_nil] at h3
  rw [h3] at h1 h2
  refine ⟨?_, h1⟩
  rw [h2]
  have hS := hT.sc
  obtain ⟨s1, s2, s3, s4, s5, s6, s7, s8, s9, s10, s11, s12, s13, s14, s15, s16⟩ := hS
  have hc : rdC ⟨none, [n.toNat, f.toNat, sl.toNat, gp.toNat, rh.toNat, d0.toNat, d1.toNat, mg.toNat, ps.length, qs.length, rs.length], ps, qs, rs, ⟨(imgB n f sl gp rh d0 d1 mg ps qs rs).length, none⟩⟩ = none := by
    show tabE ((n.toNat : Nat) : Int) ((f.toNat : Nat) : Int) ((sl.toNat : Nat) : Int) ((gp.toNat : Nat) : Int) ((rh.toNat : Nat) : Int) ((d0.toNat : Nat) : Int) ((d1.toNat : Nat) : Int) ((mg.toNat : Nat) : Int) ps qs rs = none
    rw [Int.toNat_of_nonneg (by omega), Int.toNat_of_nonneg (by omega), Int.toNat_of_nonneg (by omega), Int.toNat_of_nonneg (by omega), Int.toNat_of_nonneg (by omega), Int.toNat_of_nonneg (by omega), Int.toNat_of_nonneg (by omega), Int.toNat_of_nonneg (by omega)]
    exact he
  have hn : endE (imgB n f sl gp rh d0 d1 mg ps qs rs).length (imgB n f sl gp rh d0 d1 mg ps qs rs).length none = none := by
    unfold endE
    rw [if_neg (by decide), if_neg (Nat.lt_irrefl _)]
  unfold rdE
  simp only
  rw [hn]
  simp only
  rw [hc]
  rfl
theorem dec_short (hT : Tab n f sl gp rh d0 d1 mg ps qs rs) (k : Nat) (hk : k < (imgB n f sl gp rh d0 d1 mg ps qs rs).length) : ∃ q, decE (crcSeal ((imgB n f sl gp rh d0 d1 mg ps qs rs).take k)) = some q := by
  have hs := img_small hT
  obtain ⟨I, hI⟩ : ∃ I, imgB n f sl gp rh d0 d1 mg ps qs rs = I := ⟨_, rfl⟩
  have hb : Bytes I := by rw [← hI]; exact imgB_rng n f sl gp rh d0 d1 mg ps qs rs
  have h3 := rdT_img hT [] _ _ rfl (Nat.add_zero _)
  rw [List.append_nil] at h3
  rw [hI] at h3 hk hs ⊢
  have hkl : (I.take k).length = k := by rw [List.length_take]; omega
  obtain ⟨_, h2⟩ := dec_seal (xs := I.take k) (fun x hx => hb x (List.mem_of_mem_take hx)) (by rw [hkl]; omega)
  rw [hkl] at h2
  rw [h2]
  have hne : rdE k (rdT (I.take k) k) ≠ none := by
    intro h0
    have hp := rdT_pos (xs := I.take k) (n := k)
    unfold rdE at h0
    rcases he : (rdT (I.take k) k).e with _ | q
    · rw [he] at h0
      simp only at h0
      rcases hr : (rdT (I.take k) k).s.er with _ | q
      · have h4 := rdT_pre (xs := I) (Nat.le_of_lt hk) he hr
        rw [h3] at h4
        rw [← h4] at hp
        simp only at hp
        omega
      · rw [hr] at h0
        unfold endE at h0
        rw [if_pos (by rfl)] at h0
        cases h0
    · rw [he] at h0
      cases h0
  rcases hE : rdE k (rdT (I.take k) k) with _ | q
  · exact absurd hE hne
  · exact ⟨_, rfl⟩
theorem dec_far (hT : Tab n f sl gp rh d0 d1 mg ps qs rs) (more : List Int) (hm : Bytes more) (hl : more.length ≤ 1000) (h0 : 0 < more.length) : ∃ q, decE (crcSeal (imgB n f sl gp rh d0 d1 mg ps qs rs ++ more)) = some q := by
  have hs := img_small hT
  obtain ⟨_, h2⟩ := dec_seal (xs := imgB n f sl gp rh d0 d1 mg ps qs rs ++ more) (bytes_app (imgB_rng n f sl gp rh d0 d1 mg ps qs rs) hm) (by rw [List.length_append]; omega)
  have h3 := rdT_img hT more _ _ rfl rfl
  rw [List.length_append, h3] at h2
  rw [h2]
  have he : endE ((imgB n f sl gp rh d0 d1 mg ps qs rs).length + more.length) (imgB n f sl gp rh d0 d1 mg ps qs rs).length none = some (5, (((imgB n f sl gp rh d0 d1 mg ps qs rs).length : Nat) : Int)) := by
    unfold endE
    rw [if_neg (by decide), if_pos (by omega)]
  unfold rdE
  simp only
  rw [he]
  exact ⟨_, rfl⟩
end
theorem bt_set (xs : List Int) (k : Nat) (x by_ : Nat) (hx : xs[k]? = some (x : Int)) (hb : by_ < 256) (j : Nat) :
    btAt (xs.set k ((x ^^^ by_ : Nat) : Int)) j = (btAt xs j ^^ (decide (8 * k ≤ j ∧ j < 8 * k + 32) && by_.testBit (j - 8 * k))) := by
  unfold btAt
  have hk : k < xs.length := (List.getElem?_eq_some_iff.1 hx).1
  by_cases h : j / 8 = k
  · subst h
    rw [List.getD_eq_getElem?_getD, List.getD_eq_getElem?_getD, List.getElem?_set_self hk, hx, Option.getD_some, Option.getD_some, Int.toNat_natCast, Int.toNat_natCast, Nat.testBit_xor, decide_eq_true (by omega), Bool.true_and, show j - 8 * (j / 8) = j % 8 by omega]
  · rw [List.getD_eq_getElem?_getD, List.getD_eq_getElem?_getD, List.getElem?_set_ne (Ne.symm h)]
    have : (decide (8 * k ≤ j ∧ j < 8 * k + 32) && by_.testBit (j - 8 * k)) = false := by
      by_cases h2 : 8 * k ≤ j ∧ j < 8 * k + 32
      · rw [Nat.testBit_lt_two_pow (Nat.lt_of_lt_of_le hb (show 2 ^ 8 ≤ 2 ^ (j - 8 * k) from Nat.pow_le_pow_right (by decide) (by omega)))]
        simp
      · rw [decide_eq_false h2, Bool.false_and]
    rw [this, Bool.xor_false]
/-- One byte turned. -/
theorem fits_set (xs : List Int) (hb : Bytes xs) (k : Nat) (hk : k < xs.length) (x by_ : Nat) (hx : (crcSeal xs)[k]? = some (x : Int)) (hby : by_ < 256) (h0 : by_ ≠ 0) : fits ((crcSeal xs).set k ((x ^^^ by_ : Nat) : Int)) = false := by
  have hxb : x < 256 := by
    have := crcSeal_bytes hb _ (List.mem_of_getElem? hx)
    omega
  have hlt : x ^^^ by_ < 256 := Nat.xor_lt_two_pow (n := 8) hxb hby
  have hyb : Bytes ((crcSeal xs).set k ((x ^^^ by_ : Nat) : Int)) := fun y hy => by
    rcases List.mem_or_eq_of_mem_set hy with h | h
    · exact crcSeal_bytes hb y h
    · subst h
      omega
  have hl : ((crcSeal xs).set k ((x ^^^ by_ : Nat) : Int)).length = xs.length + 4 := by rw [List.length_set, seal_len]
  rw [Bool.eq_false_iff]
  intro h
  rw [fits_res' hyb hl] at h
  have hw := (burst_law (crcSeal xs) _ (xs.length + 4) (8 * k) by_ (crcSeal_bytes hb) hyb (seal_len xs) hl (by omega) (by omega) (rests xs hb) (fun j _ => bt_set _ k x by_ hx hby j)).1 h
  rw [Nat.min_eq_left (by omega), Nat.mod_eq_of_lt (by omega)] at hw
  exact h0 hw
theorem dec_odd (xs : List Int) (hb : Bytes xs) (hl : xs.length ≤ 4000) (k : Nat) (hk : k < xs.length) (x by_ : Nat) (hx : (crcSeal xs)[k]? = some (x : Int)) (hby : by_ < 256) (h0 : by_ ≠ 0) : ∃ q, decE ((crcSeal xs).set k ((x ^^^ by_ : Nat) : Int)) = some q := by
  unfold decE
  rw [List.length_set, seal_len, if_neg (by omega), if_pos (fits_set xs hb k hk x by_ hx hby h0)]
  exact ⟨_, rfl⟩
end Go.Proofs.Ytcamoldjljfbeaa
namespace Go.Proofs.Ytcamoldjljfbeaa
open Go.RowKit

theorem decBack_any (n f sl gp rh d0 d1 mg : Int) (ps : List Pt) (qs : List Qt) (rs : List Rt) (hT : Tab n f sl gp rh d0 d1 mg ps qs rs) (he : tabE n f sl gp rh d0 d1 mg ps qs rs = none) (N : Nat) (hN : (imgB n f sl gp rh d0 d1 mg ps qs rs).length = N)
    (pn on rn : Nat) (hpl : ps.length = pn) (hql : qs.length = on) (hrl : rs.length = rn) (A : Option Addr) (c : Nat) (w : World) (hA : Cells w A (nums .u8 (crcSeal (imgB n f sl gp rh d0 d1 mg ps qs rs)))) (hc : N + 4 ≤ c) :
    Calls Try.prog 44 #[.slice A (N + 4) c] w fun e w' => ∃ A1 c1 A2 c2 A3 c3, e = .returned (.tuple #[.agg #[.int .i64 n, .int .i64 f, .int .i64 sl, .int .i64 gp, .int .i64 rh, .int .i64 d0, .int .i64 d1, .int .i64 mg, .slice A1 pn c1, .slice A2 on c2, .slice A3 rn c3], .nilIface]) ∧
      Own w (fun _ => False) w' [row 41 2 (.slice A3 rn c3) rn (rs.flatMap Rt.cells), row 44 6 (.slice A2 on c2) on (qs.flatMap Qt.cells), row 38 9 (.slice A1 pn c1) pn (ps.flatMap Pt.cells)] := by
  obtain ⟨h1, h2⟩ := dec_back hT he
  have hs := img_small hT
  refine (tabDec_any A (N + 4) c _ w hA (crcSeal_bytes (imgB_rng n f sl gp rh d0 d1 mg ps qs rs)) (by rw [seal_len, hN]) hc (by omega)).mono ?_
  rintro e w' ⟨_, hK⟩
  obtain ⟨A1, c1, A2, c2, A3, c3, r, hR, e1, hn⟩ := hK h1
  rw [h2] at hR
  subst hR
  obtain ⟨s1, s2, s3, s4, s5, s6, s7, s8, s9, s10, s11, s12, s13, s14, s15, s16⟩ := hT.sc
  simp only [List.getD_cons_zero, List.getD_cons_succ] at e1
  rw [Int.toNat_of_nonneg (show 0 ≤ n by omega), Int.toNat_of_nonneg (show 0 ≤ f by omega), Int.toNat_of_nonneg (show 0 ≤ sl by omega), Int.toNat_of_nonneg (show 0 ≤ gp by omega), Int.toNat_of_nonneg (show 0 ≤ rh by omega), Int.toNat_of_nonneg (show 0 ≤ d0 by omega), Int.toNat_of_nonneg (show 0 ≤ d1 by omega), Int.toNat_of_nonneg (show 0 ≤ mg by omega)] at e1
  subst hpl hql hrl
  exact ⟨A1, c1, A2, c2, A3, c3, e1, hn⟩

theorem calls_len {f n' m : Nat} {A : Option Addr} {c : Nat} {w : World} {Q : Ending → World → Prop} (h : n' = m) (hk : Calls Try.prog f #[.slice A m c] w Q) : Calls Try.prog f #[.slice A n' c] w Q := by subst h; exact hk
theorem u64_mod' (z : Int) (m : Nat) (hm : 0 < m) : ∃ f : Nat, f < m ∧ (IntKind.u64.wrap z).tmod (m : Int) = f ∧ IntKind.u64.wrap z % (m : Int) = f := by
  have h0 : 0 ≤ IntKind.u64.wrap z := by unfold IntKind.wrap; simp [IntKind.signed, IntKind.bits]; omega
  have h1 : 0 ≤ IntKind.u64.wrap z % (m : Int) := Int.emod_nonneg _ (by omega)
  have h2 : IntKind.u64.wrap z % (m : Int) < m := Int.emod_lt_of_pos _ (by omega)
  exact ⟨(IntKind.u64.wrap z % (m : Int)).toNat, by omega, by rw [Int.tmod_eq_emod_of_nonneg h0]; omega, by omega⟩
theorem head_row {w w0 : World} {S : Nat → Prop} {L : List Res} {e : TypeId} {size n c : Nat} {A : Option Addr} {xs : List Value} (h : Own w0 S w L) (k : Nat) (hk : L[k]? = some (row e size (.slice A n c) n xs)) (hn : 0 < n) : ∃ g, A = some ⟨g, 0, none⟩ := by
  rcases (show w.ownsRow 0 e size (.slice A n c) n xs from h.get k hk).2 with ⟨_, h0⟩ | ⟨g', cap', cur, h', hb, hg, _⟩
  · omega
  · injection h' with h1 _ _
    exact ⟨g', h1⟩
theorem take_seal {xs : List Int} {k : Nat} (h : k ≤ xs.length) : (crcSeal xs).take k = xs.take k := by unfold crcSeal; rw [List.take_append_of_le_length h]
theorem decErr_any (A : Option Addr) (n c : Nat) (xs : List Int) (w : World) (hA : Cells w A (nums .u8 xs)) (hb : Bytes xs) (hl : xs.length = n) (hc : n ≤ c) (hn : n ≤ 100000) (h : ∃ q, decE xs = some q) :
    Calls Try.prog 44 #[.slice A n c] w fun e w' => ∃ b, e = .returned (.tuple #[.agg #[.int .i64 0, .int .i64 0, .int .i64 0, .int .i64 0, .int .i64 0, .int .i64 0, .int .i64 0, .int .i64 0, .slice none 0 0, .slice none 0 0, .slice none 0 0], .iface 77 (.pointer (some ⟨b, 0, none⟩))]) ∧ Below w.heap.size w w' := by
  obtain ⟨q, hq⟩ := h
  refine (tabDec_any A n c xs w hA hb hl hc hn).mono ?_
  rintro e w' ⟨hE, _⟩
  obtain ⟨v, rfl, ⟨b, _, rfl, _⟩, hB⟩ := hE _ hq
  exact ⟨b, rfl, hB⟩
theorem nums_set' (xs : List Int) (i : Nat) (x : Int) : (nums .u8 xs).set i (.int .u8 x) = nums .u8 (xs.set i x) := by simp [nums, List.map_set]
theorem nums_at {xs : List Int} {i : Nat} {x : Int} (h : xs[i]? = some x) : (nums .u8 xs)[i]? = some (.int .u8 x) := by unfold nums; rw [List.getElem?_map, h]; rfl
set_option maxRecDepth 100000
set_option maxHeartbeats 16000000
theorem tableCuts_walk (n f sl gp rh d0 d1 mg : Int) (PA : Option Addr) (pn pc : Nat) (pz : List (List Value)) (OA : Option Addr) (on oc : Nat) (oz : List (List Value)) (RA : Option Addr) (rn rc : Nat) (rz : List (List Value)) (cut : Int) (a2 : Option Addr) (len2 cap2 : Nat) (z2 : List Int) (z3 : Int) (w : World) (_h0 : (Lit.int .i64 n).wf = true) (_h1 : (Lit.int .i64 f).wf = true) (_h2 : (Lit.int .i64 sl).wf = true) (_h3 : (Lit.int .i64 gp).wf = true) (_h4 : (Lit.int .i64 rh).wf = true) (_h5 : (Lit.int .i64 d0).wf = true) (_h6 : (Lit.int .i64 d1).wf = true) (_h7 : (Lit.int .i64 mg).wf = true) (h8 : Rows' w 48 [.int .i64, .int .i64, .int .i64, .int .i64, .int .i64, .int .u8, .int .u8, .int .u8, .int .u8] PA pn pc pz) (h9 : Rows' w 40 [.int .i64, .int .u8, .bool, .int .i64, .int .i64, .int .i64] OA on oc oz) (hA : Rows' w 16 [.int .i64, .int .i64] RA rn rc rz) (_ : (Lit.int .i64 cut).wf = true) (hz2 : IsRow .u8 w a2 len2 cap2 z2) (_hlb : len2 * 1 ≤ 140737488351232) (hz3 : (Lit.int .u8 z3).wf = true) :
    Calls Try.prog 16 #[.agg #[.int .i64 n, .int .i64 f, .int .i64 sl, .int .i64 gp, .int .i64 rh, .int .i64 d0, .int .i64 d1, .int .i64 mg, .slice PA pn pc, .slice OA on oc, .slice RA rn rc], .int .i64 cut, .slice a2 len2 cap2, .int .u8 z3] w fun e w' => e = .returned (.bool true) ∧ Below w.heap.size w w' := by
  obtain ⟨ps, hP, oP⟩ := parts_of h8
  obtain ⟨qs, hQ, oQ⟩ := ports_of h9
  obtain ⟨rs, hR, _⟩ := routes_of hA
  have hpw := h8.wt
  have hqw := h9.wt
  have hrw := hA.wt
  unfold reachBytes at hpw hqw hrw
  obtain ⟨zs, hzl, hzc, _, hzA, hzwf⟩ := hz2.open_
  obtain ⟨by_, rfl, hby⟩ := wf8 hz3
  have hzb := Hidd.mk (show Bytes zs from fun x h => ⟨(wf8s hzwf x h).1, by have := (wf8s hzwf x h).2; omega⟩)
  clear _h0 _h1 _h2 _h3 _h4 _h5 _h6 _h7 h8 h9 hA hz2 hz3 hzwf _hlb
  have ho := Hidd.mk ((Own.nil w (fun _ => False)).alloc (.cells #[.int .i64 n, .int .i64 f, .int .i64 sl, .int .i64 gp, .int .i64 rh, .int .i64 d0, .int .i64 d1, .int .i64 mg, .slice PA pn pc, .slice OA on oc, .slice RA rn rc] 26))
  replace hP := Hidd.mk hP
  replace hQ := Hidd.mk hQ
  replace hR := Hidd.mk hR
  replace oP := Hidd.mk oP
  replace oQ := Hidd.mk oQ
  replace hzA := Hidd.mk hzA
  replace hzl := Hidd.mk hzl
  rcases hl : lngB pn on rn with _ | _
  rotate_left
  · replace hl := Hidd.mk hl
    go_enter Try.func16, Try.ntmps16
    go_wp2_with (first
      | (go_at_call 27; refine (awake5_any _).mono ?_; rintro e w1 ⟨rfl, hb⟩; have ho1 := Hidd.mk (ho.out.ext hb); clear hb ho; obtain ⟨x0, x1, x2, x3, x4, x5, x6, x7, x8, x9, xA⟩ := cells11 ho1.out 0 rfl)
      | (go_at_call 28; refine (lng_any n f sl gp rh d0 d1 mg PA pn pc OA on oc RA rn rc _).mono ?_; rintro e w2 ⟨rfl, hb⟩; rw [hl.out]; have ho2 := Hidd.mk (ho1.out.ext hb); clear hb ho1; clear x0 x1 x2 x3 x4 x5 x6 x7 x8 x9 xA; obtain ⟨x0, x1, x2, x3, x4, x5, x6, x7, x8, x9, xA⟩ := cells11 ho2.out 0 rfl))
    go_ret
    exact ⟨rfl, ho2.out.below fun _ => id⟩
  · replace hl := Hidd.mk hl
    by_cases hm : 1000 < len2
    · have hd : decide ((1000 : Int) < (len2 : Int)) = true := decide_eq_true (by omega)
      go_enter Try.func16, Try.ntmps16
      go_wp2_with (first
        | (go_at_call 27; refine (awake5_any _).mono ?_; rintro e w1 ⟨rfl, hb⟩; have ho1 := Hidd.mk (ho.out.ext hb); clear hb ho; obtain ⟨x0, x1, x2, x3, x4, x5, x6, x7, x8, x9, xA⟩ := cells11 ho1.out 0 rfl)
        | (go_at_call 28; refine (lng_any n f sl gp rh d0 d1 mg PA pn pc OA on oc RA rn rc _).mono ?_; rintro e w2 ⟨rfl, hb⟩; rw [hl.out]; have ho2 := Hidd.mk (ho1.out.ext hb); clear hb ho1; clear x0 x1 x2 x3 x4 x5 x6 x7 x8 x9 xA; obtain ⟨x0, x1, x2, x3, x4, x5, x6, x7, x8, x9, xA⟩ := cells11 ho2.out 0 rfl))
      go_ret
      exact ⟨rfl, ho2.out.below fun _ => id⟩
    · have hd : decide ((1000 : Int) < (len2 : Int)) = false := decide_eq_false (by omega)
      rcases he : tabE n f sl gp rh d0 d1 mg ps qs rs with _ | q
      rotate_left
      · replace he := Hidd.mk he
        go_enter Try.func16, Try.ntmps16
        go_wp2_with (first
          | (go_at_call 27; refine (awake5_any _).mono ?_; rintro e w1 ⟨rfl, hb⟩; have ho1 := Hidd.mk (ho.out.ext hb); clear hb ho; obtain ⟨x0, x1, x2, x3, x4, x5, x6, x7, x8, x9, xA⟩ := cells11 ho1.out 0 rfl)
          | (go_at_call 28; refine (lng_any n f sl gp rh d0 d1 mg PA pn pc OA on oc RA rn rc _).mono ?_; rintro e w2 ⟨rfl, hb⟩; rw [hl.out]; have ho2 := Hidd.mk (ho1.out.ext hb); clear hb ho1; clear x0 x1 x2 x3 x4 x5 x6 x7 x8 x9 xA; obtain ⟨x0, x1, x2, x3, x4, x5, x6, x7, x8, x9, xA⟩ := cells11 ho2.out 0 rfl)
          | (go_at_call 22; refine (copied_any n f sl gp rh d0 d1 mg PA pn pc OA on oc RA rn rc ps qs rs _ (hP.out.below (ho2.out.below fun _ => id)) (hQ.out.below (ho2.out.below fun _ => id)) (hR.out.below (ho2.out.below fun _ => id)) hpw hqw hrw).mono ?_; rintro e w3 ⟨A, a, B, b, C, c, rfl, hn⟩; have ho3 := Hidd.mk (ho2.out.madeL hn); clear hn ho2)
          | (go_at_call 29; have hq := ho3.out; clear hq; refine (tabEnc_bad n f sl gp rh d0 d1 mg A pn a B on b C rn c ps qs rs _ ⟨hP.out.1, row_cells ho3.out 2 rfl⟩ ⟨hQ.out.1, row_cells ho3.out 1 rfl⟩ ⟨hR.out.1, row_cells ho3.out 0 rfl⟩ oP.out oQ.out _ he.out).mono ?_; rintro e w4 ⟨v, rfl, ⟨vb, rfl⟩, _, hb⟩; have ho4 := Hidd.mk (ho3.out.ext hb); clear hb ho3))
        go_ret
        exact ⟨rfl, ho4.out.below fun _ => id⟩
      · have hT := Hidd.mk (Tab.of he)
        replace he := Hidd.mk he
        obtain ⟨I, hI⟩ : ∃ I, imgB n f sl gp rh d0 d1 mg ps qs rs = I := ⟨_, rfl⟩
        obtain ⟨N, hN⟩ : ∃ N, I.length = N := ⟨_, rfl⟩
        have hIb := Hidd.mk (show Bytes I by rw [← hI]; exact imgB_rng n f sl gp rh d0 d1 mg ps qs rs)
        have hN1 : N ≤ 405 := by rw [← hN, ← hI]; exact img_small hT.out
        have hN0 : 0 < N := by
          rw [← hN, ← hI, imgB_len]
          omega
        obtain ⟨K, hK, hk1, hk2⟩ := u64_mod' cut N hN0
        have hN00 : ¬ N = 0 := by omega
        have hwN : IntKind.i64.wrap ((N : Int) + 4 - 4) = (N : Int) := by rw [show (N : Int) + 4 - 4 = N by omega]; exact IntWalk.i64_in _ (by omega)
        have hwN2 : wrap64 ((N : Int) + 4 - 4) = (N : Int) := by unfold wrap64; omega
        have huN : IntKind.u64.wrap (N : Int) = (N : Int) := IntWalk.u64_in _ ⟨by omega, by omega⟩
        have hiK : IntKind.i64.wrap (K : Int) = (K : Int) := IntWalk.i64_in _ (by omega)
        have hsl := Hidd.mk (show (crcSeal I).length = N + 4 by rw [seal_len, hN])
        have hsb := Hidd.mk (crcSeal_bytes hIb.out)
        obtain ⟨x, hx⟩ : ∃ x : Nat, (crcSeal I)[K]? = some (x : Int) := by
          obtain ⟨y, hy⟩ : ∃ y, (crcSeal I)[K]? = some y := ⟨_, List.getElem?_eq_getElem (by rw [hsl.out]; omega)⟩
          exact ⟨y.toNat, by rw [hy]; congr 1; have := hsb.out y (List.mem_of_getElem? hy); omega⟩
        have hx8 : x < 256 := by have := hsb.out _ (List.mem_of_getElem? hx); omega
        have hxor : bits .xor .u8 (x : Int) (by_ : Int) = ((x ^^^ by_ : Nat) : Int) := u8_xor_nat x by_ hx8 hby
        have hsK := Hidd.mk (show ∃ q, decE (crcSeal (I.take K)) = some q by rw [← hI]; exact dec_short hT.out K (by rw [hI, hN]; exact hK))
        have hKb := Hidd.mk (show Bytes (I.take K) from fun y h => hIb.out y (List.mem_of_mem_take h))
        have hKl := Hidd.mk (show (I.take K).length = K by rw [List.length_take]; omega)
        have hKs := Hidd.mk (show (crcSeal (I.take K)).length = K + 4 by rw [seal_len, hKl.out])
        have hMb := Hidd.mk (bytes_app hIb.out hzb.out)
        have hMl := Hidd.mk (show (I ++ zs).length = N + len2 by rw [List.length_append, hN, hzl.out])
        have hMs := Hidd.mk (show (crcSeal (I ++ zs)).length = N + len2 + 4 by rw [seal_len, hMl.out])
        have hSl := Hidd.mk (show ((crcSeal I).set K ((x ^^^ by_ : Nat) : Int)).length = N + 4 by rw [List.length_set, hsl.out])
        have hSb := Hidd.mk (show Bytes ((crcSeal I).set K ((x ^^^ by_ : Nat) : Int)) from fun y h => by
          have hlt : x ^^^ by_ < 256 := Nat.xor_lt_two_pow (n := 8) hx8 hby
          rcases List.mem_or_eq_of_mem_set h with h | h
          · exact hsb.out y h
          · subst h
            omega)
        have bK0 : (0 : Int) ≤ (K : Int) := by omega
        have bK1 : (K : Int) < (N : Int) + 4 := by omega
        replace hx := Hidd.mk hx
        replace hN := Hidd.mk hN
        replace hI := Hidd.mk hI
        have hfar : (len2 = 0 ∧ (I ++ zs = I ∧ ((len2 : Int) == 0) = true)) ∨ (0 < len2 ∧ (∃ q, decE (crcSeal (I ++ zs)) = some q) ∧ ((len2 : Int) == 0) = false) := by
          rcases Nat.eq_zero_or_pos len2 with h0 | h0
          · refine .inl ⟨h0, ?_, by rw [beq_iff_eq]; omega⟩
            have : zs = [] := List.eq_nil_of_length_eq_zero (by rw [hzl.out, h0])
            rw [this, List.append_nil]
          · refine .inr ⟨h0, ?_, by rw [beq_eq_false_iff_ne]; omega⟩
            rw [← hI.out]
            exact dec_far hT.out zs hzb.out (by rw [hzl.out]; omega) (by rw [hzl.out]; exact h0)
        have hodd : (by_ = 0 ∧ ((crcSeal I).set K ((x ^^^ by_ : Nat) : Int) = crcSeal I ∧ ((by_ : Int) == 0) = true)) ∨ (0 < by_ ∧ (∃ q, decE ((crcSeal I).set K ((x ^^^ by_ : Nat) : Int)) = some q) ∧ ((by_ : Int) == 0) = false) := by
          rcases Nat.eq_zero_or_pos by_ with h0 | h0
          · refine .inl ⟨h0, ?_, by rw [beq_iff_eq]; omega⟩
            rw [h0, Nat.xor_zero]
            obtain ⟨h1, h2⟩ := List.getElem?_eq_some_iff.1 hx.out
            rw [← h2]
            exact List.set_getElem_self h1
          · refine .inr ⟨h0, dec_odd I hIb.out (by rw [hN.out]; omega) K (by rw [hN.out]; exact hK) x by_ hx.out hby (by omega), by rw [beq_eq_false_iff_ne]; omega⟩
        obtain ⟨xb, hxb⟩ : ∃ xb : Nat, x ^^^ by_ = xb := ⟨_, rfl⟩
        rw [hxb] at hxor hSl hSb hodd
        clear hxb
        rcases hfar with ⟨hf0, hIz, dz0⟩ | ⟨hf0, hfq, dz0⟩
        · rcases hodd with ⟨hb0, hSI, dz9⟩ | ⟨hb0, hoq, dz9⟩
          · replace hf0 := Hidd.mk hf0
            replace hb0 := Hidd.mk hb0
            replace hIz := Hidd.mk hIz
            replace hSI := Hidd.mk hSI
            go_enter Try.func16, Try.ntmps16
            go_wp2_with (first
              | (go_at_call 27; refine (awake5_any _).mono ?_; rintro e w1 ⟨rfl, hb⟩; have ho1 := Hidd.mk (ho.out.ext hb); clear hb ho; obtain ⟨x0, x1, x2, x3, x4, x5, x6, x7, x8, x9, xA⟩ := cells11 ho1.out 0 rfl)
              | (go_at_call 28; refine (lng_any n f sl gp rh d0 d1 mg PA pn pc OA on oc RA rn rc _).mono ?_; rintro e w2 ⟨rfl, hb⟩; rw [hl.out]; have ho2 := Hidd.mk (ho1.out.ext hb); clear hb ho1; clear x0 x1 x2 x3 x4 x5 x6 x7 x8 x9 xA; obtain ⟨x0, x1, x2, x3, x4, x5, x6, x7, x8, x9, xA⟩ := cells11 ho2.out 0 rfl)
              | (go_at_call 22; refine (copied_any n f sl gp rh d0 d1 mg PA pn pc OA on oc RA rn rc ps qs rs _ (hP.out.below (ho2.out.below fun _ => id)) (hQ.out.below (ho2.out.below fun _ => id)) (hR.out.below (ho2.out.below fun _ => id)) hpw hqw hrw).mono ?_; rintro e w3 ⟨A, a, B, b, C, c, rfl, hn⟩; have ho3 := Hidd.mk (ho2.out.madeL hn); clear hn ho2)
              | (go_at_call 29; have hq := ho3.out; clear hq; refine (tabEnc_ok n f sl gp rh d0 d1 mg A pn a B on b C rn c ps qs rs _ ⟨hP.out.1, row_cells ho3.out 2 rfl⟩ ⟨hQ.out.1, row_cells ho3.out 1 rfl⟩ ⟨hR.out.1, row_cells ho3.out 0 rfl⟩ oP.out oQ.out hT.out N (by rw [hI.out]; exact hN.out)).mono ?_; rintro e w4 ⟨D, d, rfl, hcd, hn⟩; rw [hI.out] at hn; have B4 := Hidd.mk ((ho3.out.made hn).below fun _ => id); have HD := Hidd.mk (row_cells hn 0 rfl); obtain ⟨gD, rfl⟩ := head_row hn 0 rfl (by omega); have o4 := Hidd.mk (Own.nil w4 (fun _ => False)); clear hn ho3 x0 x1 x2 x3 x4 x5 x6 x7 x8 x9 xA)
              | (go_at_call 46; have hq := o4.out; clear hq; refine (seal_at (some ⟨gD, 0, none⟩) K d (I.take K) _ (by have h := ((HD.out.take K).below (o4.out.below fun _ => id)); rw [← nums_take] at h; rw [show (crcSeal I).take K = I.take K from take_seal (by rw [hN.out]; omega)] at h; exact h) hKb.out (by omega) hKl.out).mono ?_; rintro e w5 ⟨A5, c5, rfl, hc5, _, hA5, hb⟩; have o5 := Hidd.mk (o4.out.ext hb); replace hA5 := Hidd.mk hA5; clear hb o4)
              | (go_at_call 44; have hq := o5.out; clear hq; refine (decErr_any A5 (K + 4) c5 _ _ hA5.out (crcSeal_bytes hKb.out) hKs.out hc5 (by omega) hsK.out).mono ?_; rintro e w6 ⟨b6, rfl, hb⟩; have o6 := Hidd.mk ((o5.out.ext hb).ext (below_alloc (Below.refl _ _) (.cells #[.int .i64 0, .int .i64 0, .int .i64 0, .int .i64 0, .int .i64 0, .int .i64 0, .int .i64 0, .int .i64 0, .slice none 0 0, .slice none 0 0, .slice none 0 0] 26))); clear hb o5 hA5)
              | (at_builtin; have hq := o6.out; clear hq; refine appb rfl _ _ rfl (row_lit' o6.out 5 1 0 #[] [] (w6.heap.size + 1) (by simp) rfl rfl (by decide)) 0 _ 0 0 [] rfl rfl (some ⟨gD, 0, none⟩) N d I rfl hN.out (by have h := ((HD.out.take N).below ((o6.out.alloc (.cells #[] 5 (0, 0))).below fun _ => id)); rw [← nums_take] at h; rw [show (crcSeal I).take N = I from by rw [← hN.out]; exact seal_take I] at h; exact h) (by omega) ?_; intro A7 c7 w7 ho7; rw [Nat.zero_add, List.nil_append] at ho7; have o7 := Hidd.mk ho7; clear ho7 o6)
              | (at_builtin; have hq := o7.out; clear hq; refine appb rfl _ _ rfl o7.out 0 A7 N c7 I rfl rfl a2 len2 cap2 zs rfl hzl.out ((hzA.out.below B4.out).below (o7.out.below fun _ => id)) (by omega) ?_; intro A8 c8 w8 ho8; have o8 := Hidd.mk ho8; clear ho8 o7)
              | (go_at_call 46; have hq := o8.out; clear hq; refine (seal_at A8 (N + len2) c8 (I ++ zs) _ (row_cells o8.out 0 rfl) hMb.out (by omega) hMl.out).mono ?_; rintro e w9 ⟨A9, c9, rfl, hc9, _, hA9, hb⟩; have o9 := Hidd.mk (o8.out.ext hb); replace hA9 := Hidd.mk hA9; clear hb o8)
              | (go_at_call 44; have hq := o9.out; clear hq; have hn9 : N + len2 + 4 = N + 4 := (by have := hf0.out; omega); have hc8 : N + 4 ≤ c9 := (by omega); clear hc9; have h9 := hA9.out; rw [hIz.out, ← hI.out] at h9; refine (calls_len hn9 (decBack_any n f sl gp rh d0 d1 mg ps qs rs hT.out he.out N (by rw [hI.out]; exact hN.out) pn on rn hP.out.1 hQ.out.1 hR.out.1 A9 c9 _ h9 hc8)).mono ?_; rintro e wa ⟨A1, e1, A2, e2, A3, e3, rfl, hn⟩; have oA := Hidd.mk ((o9.out.ext (hn.below fun _ => id)).ext (below_alloc (Below.refl _ _) (.cells #[.int .i64 n, .int .i64 f, .int .i64 sl, .int .i64 gp, .int .i64 rh, .int .i64 d0, .int .i64 d1, .int .i64 mg, .slice A1 pn e1, .slice A2 on e2, .slice A3 rn e3] 26))); clear hn o9 hA9 h9)
              | (at_builtin; have hq := oA.out; clear hq; refine appb rfl _ _ rfl (row_lit' oA.out 5 1 0 #[] [] (wa.heap.size + 1) (by simp) rfl rfl (by decide)) 0 _ 0 0 [] rfl rfl (some ⟨gD, 0, none⟩) (N + 4) d (crcSeal I) rfl hsl.out (HD.out.below ((oA.out.alloc _).below fun _ => id)) (by omega) ?_; intro AB cB wB hoB; rw [Nat.zero_add, List.nil_append] at hoB; obtain ⟨gB, rfl⟩ := head_row hoB 0 rfl (by omega); have hcB := (row_le hoB 0 rfl).1; have yB := cells_at (row_cells hoB 0 rfl) (nums_at hx.out); have fB := (show wB.ownsRow 0 5 1 (.slice (some ⟨gB, 0, none⟩) (N + 4) cB) (N + 4) (nums .u8 (crcSeal I)) from hoB.get 0 rfl).frozenAt K; have oB := Hidd.mk hoB; clear hoB oA)
              | (go_at_call 44; have hq := oB.out; clear hq; have hs := row_set oB.out 0 rfl K (.int .u8 (xb : Int)); simp only [List.set_cons_zero] at hs; rw [nums_set'] at hs; have oC := Hidd.mk hs; clear hs yB fB oB; have hCB := row_cells oC.out 0 rfl; rw [hSI.out, ← hI.out] at hCB; refine (decBack_any n f sl gp rh d0 d1 mg ps qs rs hT.out he.out N (by rw [hI.out]; exact hN.out) pn on rn hP.out.1 hQ.out.1 hR.out.1 (some ⟨gB, 0, none⟩) cB _ hCB hcB).mono ?_; rintro e wd ⟨C1, k1, C2, k2, C3, k3, rfl, hn⟩; have oD := Hidd.mk ((oC.out.ext (hn.below fun _ => id)).ext (below_alloc (Below.refl _ _) (.cells #[.int .i64 n, .int .i64 f, .int .i64 sl, .int .i64 gp, .int .i64 rh, .int .i64 d0, .int .i64 d1, .int .i64 mg, .slice C1 pn k1, .slice C2 on k2, .slice C3 rn k3] 26))); clear hn oC hCB))
            go_ret
            exact ⟨by first | rfl | simp, B4.out.trans ((oD.out.below fun _ => id).mono B4.out.size)⟩
          · replace hf0 := Hidd.mk hf0
            replace hb0 := Hidd.mk hb0
            replace hIz := Hidd.mk hIz
            replace hoq := Hidd.mk hoq
            go_enter Try.func16, Try.ntmps16
            go_wp2_with (first
              | (go_at_call 27; refine (awake5_any _).mono ?_; rintro e w1 ⟨rfl, hb⟩; have ho1 := Hidd.mk (ho.out.ext hb); clear hb ho; obtain ⟨x0, x1, x2, x3, x4, x5, x6, x7, x8, x9, xA⟩ := cells11 ho1.out 0 rfl)
              | (go_at_call 28; refine (lng_any n f sl gp rh d0 d1 mg PA pn pc OA on oc RA rn rc _).mono ?_; rintro e w2 ⟨rfl, hb⟩; rw [hl.out]; have ho2 := Hidd.mk (ho1.out.ext hb); clear hb ho1; clear x0 x1 x2 x3 x4 x5 x6 x7 x8 x9 xA; obtain ⟨x0, x1, x2, x3, x4, x5, x6, x7, x8, x9, xA⟩ := cells11 ho2.out 0 rfl)
              | (go_at_call 22; refine (copied_any n f sl gp rh d0 d1 mg PA pn pc OA on oc RA rn rc ps qs rs _ (hP.out.below (ho2.out.below fun _ => id)) (hQ.out.below (ho2.out.below fun _ => id)) (hR.out.below (ho2.out.below fun _ => id)) hpw hqw hrw).mono ?_; rintro e w3 ⟨A, a, B, b, C, c, rfl, hn⟩; have ho3 := Hidd.mk (ho2.out.madeL hn); clear hn ho2)
              | (go_at_call 29; have hq := ho3.out; clear hq; refine (tabEnc_ok n f sl gp rh d0 d1 mg A pn a B on b C rn c ps qs rs _ ⟨hP.out.1, row_cells ho3.out 2 rfl⟩ ⟨hQ.out.1, row_cells ho3.out 1 rfl⟩ ⟨hR.out.1, row_cells ho3.out 0 rfl⟩ oP.out oQ.out hT.out N (by rw [hI.out]; exact hN.out)).mono ?_; rintro e w4 ⟨D, d, rfl, hcd, hn⟩; rw [hI.out] at hn; have B4 := Hidd.mk ((ho3.out.made hn).below fun _ => id); have HD := Hidd.mk (row_cells hn 0 rfl); obtain ⟨gD, rfl⟩ := head_row hn 0 rfl (by omega); have o4 := Hidd.mk (Own.nil w4 (fun _ => False)); clear hn ho3 x0 x1 x2 x3 x4 x5 x6 x7 x8 x9 xA)
              | (go_at_call 46; have hq := o4.out; clear hq; refine (seal_at (some ⟨gD, 0, none⟩) K d (I.take K) _ (by have h := ((HD.out.take K).below (o4.out.below fun _ => id)); rw [← nums_take] at h; rw [show (crcSeal I).take K = I.take K from take_seal (by rw [hN.out]; omega)] at h; exact h) hKb.out (by omega) hKl.out).mono ?_; rintro e w5 ⟨A5, c5, rfl, hc5, _, hA5, hb⟩; have o5 := Hidd.mk (o4.out.ext hb); replace hA5 := Hidd.mk hA5; clear hb o4)
              | (go_at_call 44; have hq := o5.out; clear hq; refine (decErr_any A5 (K + 4) c5 _ _ hA5.out (crcSeal_bytes hKb.out) hKs.out hc5 (by omega) hsK.out).mono ?_; rintro e w6 ⟨b6, rfl, hb⟩; have o6 := Hidd.mk ((o5.out.ext hb).ext (below_alloc (Below.refl _ _) (.cells #[.int .i64 0, .int .i64 0, .int .i64 0, .int .i64 0, .int .i64 0, .int .i64 0, .int .i64 0, .int .i64 0, .slice none 0 0, .slice none 0 0, .slice none 0 0] 26))); clear hb o5 hA5)
              | (at_builtin; have hq := o6.out; clear hq; refine appb rfl _ _ rfl (row_lit' o6.out 5 1 0 #[] [] (w6.heap.size + 1) (by simp) rfl rfl (by decide)) 0 _ 0 0 [] rfl rfl (some ⟨gD, 0, none⟩) N d I rfl hN.out (by have h := ((HD.out.take N).below ((o6.out.alloc (.cells #[] 5 (0, 0))).below fun _ => id)); rw [← nums_take] at h; rw [show (crcSeal I).take N = I from by rw [← hN.out]; exact seal_take I] at h; exact h) (by omega) ?_; intro A7 c7 w7 ho7; rw [Nat.zero_add, List.nil_append] at ho7; have o7 := Hidd.mk ho7; clear ho7 o6)
              | (at_builtin; have hq := o7.out; clear hq; refine appb rfl _ _ rfl o7.out 0 A7 N c7 I rfl rfl a2 len2 cap2 zs rfl hzl.out ((hzA.out.below B4.out).below (o7.out.below fun _ => id)) (by omega) ?_; intro A8 c8 w8 ho8; have o8 := Hidd.mk ho8; clear ho8 o7)
              | (go_at_call 46; have hq := o8.out; clear hq; refine (seal_at A8 (N + len2) c8 (I ++ zs) _ (row_cells o8.out 0 rfl) hMb.out (by omega) hMl.out).mono ?_; rintro e w9 ⟨A9, c9, rfl, hc9, _, hA9, hb⟩; have o9 := Hidd.mk (o8.out.ext hb); replace hA9 := Hidd.mk hA9; clear hb o8)
              | (go_at_call 44; have hq := o9.out; clear hq; have hn9 : N + len2 + 4 = N + 4 := (by have := hf0.out; omega); have hc8 : N + 4 ≤ c9 := (by omega); clear hc9; have h9 := hA9.out; rw [hIz.out, ← hI.out] at h9; refine (calls_len hn9 (decBack_any n f sl gp rh d0 d1 mg ps qs rs hT.out he.out N (by rw [hI.out]; exact hN.out) pn on rn hP.out.1 hQ.out.1 hR.out.1 A9 c9 _ h9 hc8)).mono ?_; rintro e wa ⟨A1, e1, A2, e2, A3, e3, rfl, hn⟩; have oA := Hidd.mk ((o9.out.ext (hn.below fun _ => id)).ext (below_alloc (Below.refl _ _) (.cells #[.int .i64 n, .int .i64 f, .int .i64 sl, .int .i64 gp, .int .i64 rh, .int .i64 d0, .int .i64 d1, .int .i64 mg, .slice A1 pn e1, .slice A2 on e2, .slice A3 rn e3] 26))); clear hn o9 hA9 h9)
              | (at_builtin; have hq := oA.out; clear hq; refine appb rfl _ _ rfl (row_lit' oA.out 5 1 0 #[] [] (wa.heap.size + 1) (by simp) rfl rfl (by decide)) 0 _ 0 0 [] rfl rfl (some ⟨gD, 0, none⟩) (N + 4) d (crcSeal I) rfl hsl.out (HD.out.below ((oA.out.alloc _).below fun _ => id)) (by omega) ?_; intro AB cB wB hoB; rw [Nat.zero_add, List.nil_append] at hoB; obtain ⟨gB, rfl⟩ := head_row hoB 0 rfl (by omega); have hcB := (row_le hoB 0 rfl).1; have yB := cells_at (row_cells hoB 0 rfl) (nums_at hx.out); have fB := (show wB.ownsRow 0 5 1 (.slice (some ⟨gB, 0, none⟩) (N + 4) cB) (N + 4) (nums .u8 (crcSeal I)) from hoB.get 0 rfl).frozenAt K; have oB := Hidd.mk hoB; clear hoB oA)
              | (go_at_call 44; have hq := oB.out; clear hq; have hs := row_set oB.out 0 rfl K (.int .u8 (xb : Int)); simp only [List.set_cons_zero] at hs; rw [nums_set'] at hs; have oC := Hidd.mk hs; clear hs yB fB oB; refine (decErr_any (some ⟨gB, 0, none⟩) (N + 4) cB _ _ (row_cells oC.out 0 rfl) hSb.out hSl.out hcB (by omega) hoq.out).mono ?_; rintro e wd ⟨bd, rfl, hb⟩; have oD := Hidd.mk ((oC.out.ext hb).ext (below_alloc (Below.refl _ _) (.cells #[.int .i64 0, .int .i64 0, .int .i64 0, .int .i64 0, .int .i64 0, .int .i64 0, .int .i64 0, .int .i64 0, .slice none 0 0, .slice none 0 0, .slice none 0 0] 26))); clear hb oC))
            go_ret
            exact ⟨by first | rfl | simp, B4.out.trans ((oD.out.below fun _ => id).mono B4.out.size)⟩
        · rcases hodd with ⟨hb0, hSI, dz9⟩ | ⟨hb0, hoq, dz9⟩
          · replace hf0 := Hidd.mk hf0
            replace hb0 := Hidd.mk hb0
            replace hfq := Hidd.mk hfq
            replace hSI := Hidd.mk hSI
            go_enter Try.func16, Try.ntmps16
            go_wp2_with (first
              | (go_at_call 27; refine (awake5_any _).mono ?_; rintro e w1 ⟨rfl, hb⟩; have ho1 := Hidd.mk (ho.out.ext hb); clear hb ho; obtain ⟨x0, x1, x2, x3, x4, x5, x6, x7, x8, x9, xA⟩ := cells11 ho1.out 0 rfl)
              | (go_at_call 28; refine (lng_any n f sl gp rh d0 d1 mg PA pn pc OA on oc RA rn rc _).mono ?_; rintro e w2 ⟨rfl, hb⟩; rw [hl.out]; have ho2 := Hidd.mk (ho1.out.ext hb); clear hb ho1; clear x0 x1 x2 x3 x4 x5 x6 x7 x8 x9 xA; obtain ⟨x0, x1, x2, x3, x4, x5, x6, x7, x8, x9, xA⟩ := cells11 ho2.out 0 rfl)
              | (go_at_call 22; refine (copied_any n f sl gp rh d0 d1 mg PA pn pc OA on oc RA rn rc ps qs rs _ (hP.out.below (ho2.out.below fun _ => id)) (hQ.out.below (ho2.out.below fun _ => id)) (hR.out.below (ho2.out.below fun _ => id)) hpw hqw hrw).mono ?_; rintro e w3 ⟨A, a, B, b, C, c, rfl, hn⟩; have ho3 := Hidd.mk (ho2.out.madeL hn); clear hn ho2)
              | (go_at_call 29; have hq := ho3.out; clear hq; refine (tabEnc_ok n f sl gp rh d0 d1 mg A pn a B on b C rn c ps qs rs _ ⟨hP.out.1, row_cells ho3.out 2 rfl⟩ ⟨hQ.out.1, row_cells ho3.out 1 rfl⟩ ⟨hR.out.1, row_cells ho3.out 0 rfl⟩ oP.out oQ.out hT.out N (by rw [hI.out]; exact hN.out)).mono ?_; rintro e w4 ⟨D, d, rfl, hcd, hn⟩; rw [hI.out] at hn; have B4 := Hidd.mk ((ho3.out.made hn).below fun _ => id); have HD := Hidd.mk (row_cells hn 0 rfl); obtain ⟨gD, rfl⟩ := head_row hn 0 rfl (by omega); have o4 := Hidd.mk (Own.nil w4 (fun _ => False)); clear hn ho3 x0 x1 x2 x3 x4 x5 x6 x7 x8 x9 xA)
              | (go_at_call 46; have hq := o4.out; clear hq; refine (seal_at (some ⟨gD, 0, none⟩) K d (I.take K) _ (by have h := ((HD.out.take K).below (o4.out.below fun _ => id)); rw [← nums_take] at h; rw [show (crcSeal I).take K = I.take K from take_seal (by rw [hN.out]; omega)] at h; exact h) hKb.out (by omega) hKl.out).mono ?_; rintro e w5 ⟨A5, c5, rfl, hc5, _, hA5, hb⟩; have o5 := Hidd.mk (o4.out.ext hb); replace hA5 := Hidd.mk hA5; clear hb o4)
              | (go_at_call 44; have hq := o5.out; clear hq; refine (decErr_any A5 (K + 4) c5 _ _ hA5.out (crcSeal_bytes hKb.out) hKs.out hc5 (by omega) hsK.out).mono ?_; rintro e w6 ⟨b6, rfl, hb⟩; have o6 := Hidd.mk ((o5.out.ext hb).ext (below_alloc (Below.refl _ _) (.cells #[.int .i64 0, .int .i64 0, .int .i64 0, .int .i64 0, .int .i64 0, .int .i64 0, .int .i64 0, .int .i64 0, .slice none 0 0, .slice none 0 0, .slice none 0 0] 26))); clear hb o5 hA5)
              | (at_builtin; have hq := o6.out; clear hq; refine appb rfl _ _ rfl (row_lit' o6.out 5 1 0 #[] [] (w6.heap.size + 1) (by simp) rfl rfl (by decide)) 0 _ 0 0 [] rfl rfl (some ⟨gD, 0, none⟩) N d I rfl hN.out (by have h := ((HD.out.take N).below ((o6.out.alloc (.cells #[] 5 (0, 0))).below fun _ => id)); rw [← nums_take] at h; rw [show (crcSeal I).take N = I from by rw [← hN.out]; exact seal_take I] at h; exact h) (by omega) ?_; intro A7 c7 w7 ho7; rw [Nat.zero_add, List.nil_append] at ho7; have o7 := Hidd.mk ho7; clear ho7 o6)
              | (at_builtin; have hq := o7.out; clear hq; refine appb rfl _ _ rfl o7.out 0 A7 N c7 I rfl rfl a2 len2 cap2 zs rfl hzl.out ((hzA.out.below B4.out).below (o7.out.below fun _ => id)) (by omega) ?_; intro A8 c8 w8 ho8; have o8 := Hidd.mk ho8; clear ho8 o7)
              | (go_at_call 46; have hq := o8.out; clear hq; refine (seal_at A8 (N + len2) c8 (I ++ zs) _ (row_cells o8.out 0 rfl) hMb.out (by omega) hMl.out).mono ?_; rintro e w9 ⟨A9, c9, rfl, hc9, _, hA9, hb⟩; have o9 := Hidd.mk (o8.out.ext hb); replace hA9 := Hidd.mk hA9; clear hb o8)
              | (go_at_call 44; have hq := o9.out; clear hq; refine (decErr_any A9 (N + len2 + 4) c9 _ _ hA9.out (crcSeal_bytes hMb.out) hMs.out hc9 (by omega) hfq.out).mono ?_; rintro e wa ⟨ba, rfl, hb⟩; have oA := Hidd.mk ((o9.out.ext hb).ext (below_alloc (Below.refl _ _) (.cells #[.int .i64 0, .int .i64 0, .int .i64 0, .int .i64 0, .int .i64 0, .int .i64 0, .int .i64 0, .int .i64 0, .slice none 0 0, .slice none 0 0, .slice none 0 0] 26))); clear hb o9 hA9)
              | (at_builtin; have hq := oA.out; clear hq; refine appb rfl _ _ rfl (row_lit' oA.out 5 1 0 #[] [] (wa.heap.size + 1) (by simp) rfl rfl (by decide)) 0 _ 0 0 [] rfl rfl (some ⟨gD, 0, none⟩) (N + 4) d (crcSeal I) rfl hsl.out (HD.out.below ((oA.out.alloc _).below fun _ => id)) (by omega) ?_; intro AB cB wB hoB; rw [Nat.zero_add, List.nil_append] at hoB; obtain ⟨gB, rfl⟩ := head_row hoB 0 rfl (by omega); have hcB := (row_le hoB 0 rfl).1; have yB := cells_at (row_cells hoB 0 rfl) (nums_at hx.out); have fB := (show wB.ownsRow 0 5 1 (.slice (some ⟨gB, 0, none⟩) (N + 4) cB) (N + 4) (nums .u8 (crcSeal I)) from hoB.get 0 rfl).frozenAt K; have oB := Hidd.mk hoB; clear hoB oA)
              | (go_at_call 44; have hq := oB.out; clear hq; have hs := row_set oB.out 0 rfl K (.int .u8 (xb : Int)); simp only [List.set_cons_zero] at hs; rw [nums_set'] at hs; have oC := Hidd.mk hs; clear hs yB fB oB; have hCB := row_cells oC.out 0 rfl; rw [hSI.out, ← hI.out] at hCB; refine (decBack_any n f sl gp rh d0 d1 mg ps qs rs hT.out he.out N (by rw [hI.out]; exact hN.out) pn on rn hP.out.1 hQ.out.1 hR.out.1 (some ⟨gB, 0, none⟩) cB _ hCB hcB).mono ?_; rintro e wd ⟨C1, k1, C2, k2, C3, k3, rfl, hn⟩; have oD := Hidd.mk ((oC.out.ext (hn.below fun _ => id)).ext (below_alloc (Below.refl _ _) (.cells #[.int .i64 n, .int .i64 f, .int .i64 sl, .int .i64 gp, .int .i64 rh, .int .i64 d0, .int .i64 d1, .int .i64 mg, .slice C1 pn k1, .slice C2 on k2, .slice C3 rn k3] 26))); clear hn oC hCB))
            go_ret
            exact ⟨by first | rfl | simp, B4.out.trans ((oD.out.below fun _ => id).mono B4.out.size)⟩
          · replace hf0 := Hidd.mk hf0
            replace hb0 := Hidd.mk hb0
            replace hfq := Hidd.mk hfq
            replace hoq := Hidd.mk hoq
            go_enter Try.func16, Try.ntmps16
            go_wp2_with (first
              | (go_at_call 27; refine (awake5_any _).mono ?_; rintro e w1 ⟨rfl, hb⟩; have ho1 := Hidd.mk (ho.out.ext hb); clear hb ho; obtain ⟨x0, x1, x2, x3, x4, x5, x6, x7, x8, x9, xA⟩ := cells11 ho1.out 0 rfl)
              | (go_at_call 28; refine (lng_any n f sl gp rh d0 d1 mg PA pn pc OA on oc RA rn rc _).mono ?_; rintro e w2 ⟨rfl, hb⟩; rw [hl.out]; have ho2 := Hidd.mk (ho1.out.ext hb); clear hb ho1; clear x0 x1 x2 x3 x4 x5 x6 x7 x8 x9 xA; obtain ⟨x0, x1, x2, x3, x4, x5, x6, x7, x8, x9, xA⟩ := cells11 ho2.out 0 rfl)
              | (go_at_call 22; refine (copied_any n f sl gp rh d0 d1 mg PA pn pc OA on oc RA rn rc ps qs rs _ (hP.out.below (ho2.out.below fun _ => id)) (hQ.out.below (ho2.out.below fun _ => id)) (hR.out.below (ho2.out.below fun _ => id)) hpw hqw hrw).mono ?_; rintro e w3 ⟨A, a, B, b, C, c, rfl, hn⟩; have ho3 := Hidd.mk (ho2.out.madeL hn); clear hn ho2)
              | (go_at_call 29; have hq := ho3.out; clear hq; refine (tabEnc_ok n f sl gp rh d0 d1 mg A pn a B on b C rn c ps qs rs _ ⟨hP.out.1, row_cells ho3.out 2 rfl⟩ ⟨hQ.out.1, row_cells ho3.out 1 rfl⟩ ⟨hR.out.1, row_cells ho3.out 0 rfl⟩ oP.out oQ.out hT.out N (by rw [hI.out]; exact hN.out)).mono ?_; rintro e w4 ⟨D, d, rfl, hcd, hn⟩; rw [hI.out] at hn; have B4 := Hidd.mk ((ho3.out.made hn).below fun _ => id); have HD := Hidd.mk (row_cells hn 0 rfl); obtain ⟨gD, rfl⟩ := head_row hn 0 rfl (by omega); have o4 := Hidd.mk (Own.nil w4 (fun _ => False)); clear hn ho3 x0 x1 x2 x3 x4 x5 x6 x7 x8 x9 xA)
              | (go_at_call 46; have hq := o4.out; clear hq; refine (seal_at (some ⟨gD, 0, none⟩) K d (I.take K) _ (by have h := ((HD.out.take K).below (o4.out.below fun _ => id)); rw [← nums_take] at h; rw [show (crcSeal I).take K = I.take K from take_seal (by rw [hN.out]; omega)] at h; exact h) hKb.out (by omega) hKl.out).mono ?_; rintro e w5 ⟨A5, c5, rfl, hc5, _, hA5, hb⟩; have o5 := Hidd.mk (o4.out.ext hb); replace hA5 := Hidd.mk hA5; clear hb o4)
              | (go_at_call 44; have hq := o5.out; clear hq; refine (decErr_any A5 (K + 4) c5 _ _ hA5.out (crcSeal_bytes hKb.out) hKs.out hc5 (by omega) hsK.out).mono ?_; rintro e w6 ⟨b6, rfl, hb⟩; have o6 := Hidd.mk ((o5.out.ext hb).ext (below_alloc (Below.refl _ _) (.cells #[.int .i64 0, .int .i64 0, .int .i64 0, .int .i64 0, .int .i64 0, .int .i64 0, .int .i64 0, .int .i64 0, .slice none 0 0, .slice none 0 0, .slice none 0 0] 26))); clear hb o5 hA5)
              | (at_builtin; have hq := o6.out; clear hq; refine appb rfl _ _ rfl (row_lit' o6.out 5 1 0 #[] [] (w6.heap.size + 1) (by simp) rfl rfl (by decide)) 0 _ 0 0 [] rfl rfl (some ⟨gD, 0, none⟩) N d I rfl hN.out (by have h := ((HD.out.take N).below ((o6.out.alloc (.cells #[] 5 (0, 0))).below fun _ => id)); rw [← nums_take] at h; rw [show (crcSeal I).take N = I from by rw [← hN.out]; exact seal_take I] at h; exact h) (by omega) ?_; intro A7 c7 w7 ho7; rw [Nat.zero_add, List.nil_append] at ho7; have o7 := Hidd.mk ho7; clear ho7 o6)
              | (at_builtin; have hq := o7.out; clear hq; refine appb rfl _ _ rfl o7.out 0 A7 N c7 I rfl rfl a2 len2 cap2 zs rfl hzl.out ((hzA.out.below B4.out).below (o7.out.below fun _ => id)) (by omega) ?_; intro A8 c8 w8 ho8; have o8 := Hidd.mk ho8; clear ho8 o7)
              | (go_at_call 46; have hq := o8.out; clear hq; refine (seal_at A8 (N + len2) c8 (I ++ zs) _ (row_cells o8.out 0 rfl) hMb.out (by omega) hMl.out).mono ?_; rintro e w9 ⟨A9, c9, rfl, hc9, _, hA9, hb⟩; have o9 := Hidd.mk (o8.out.ext hb); replace hA9 := Hidd.mk hA9; clear hb o8)
              | (go_at_call 44; have hq := o9.out; clear hq; refine (decErr_any A9 (N + len2 + 4) c9 _ _ hA9.out (crcSeal_bytes hMb.out) hMs.out hc9 (by omega) hfq.out).mono ?_; rintro e wa ⟨ba, rfl, hb⟩; have oA := Hidd.mk ((o9.out.ext hb).ext (below_alloc (Below.refl _ _) (.cells #[.int .i64 0, .int .i64 0, .int .i64 0, .int .i64 0, .int .i64 0, .int .i64 0, .int .i64 0, .int .i64 0, .slice none 0 0, .slice none 0 0, .slice none 0 0] 26))); clear hb o9 hA9)
              | (at_builtin; have hq := oA.out; clear hq; refine appb rfl _ _ rfl (row_lit' oA.out 5 1 0 #[] [] (wa.heap.size + 1) (by simp) rfl rfl (by decide)) 0 _ 0 0 [] rfl rfl (some ⟨gD, 0, none⟩) (N + 4) d (crcSeal I) rfl hsl.out (HD.out.below ((oA.out.alloc _).below fun _ => id)) (by omega) ?_; intro AB cB wB hoB; rw [Nat.zero_add, List.nil_append] at hoB; obtain ⟨gB, rfl⟩ := head_row hoB 0 rfl (by omega); have hcB := (row_le hoB 0 rfl).1; have yB := cells_at (row_cells hoB 0 rfl) (nums_at hx.out); have fB := (show wB.ownsRow 0 5 1 (.slice (some ⟨gB, 0, none⟩) (N + 4) cB) (N + 4) (nums .u8 (crcSeal I)) from hoB.get 0 rfl).frozenAt K; have oB := Hidd.mk hoB; clear hoB oA)
              | (go_at_call 44; have hq := oB.out; clear hq; have hs := row_set oB.out 0 rfl K (.int .u8 (xb : Int)); simp only [List.set_cons_zero] at hs; rw [nums_set'] at hs; have oC := Hidd.mk hs; clear hs yB fB oB; refine (decErr_any (some ⟨gB, 0, none⟩) (N + 4) cB _ _ (row_cells oC.out 0 rfl) hSb.out hSl.out hcB (by omega) hoq.out).mono ?_; rintro e wd ⟨bd, rfl, hb⟩; have oD := Hidd.mk ((oC.out.ext hb).ext (below_alloc (Below.refl _ _) (.cells #[.int .i64 0, .int .i64 0, .int .i64 0, .int .i64 0, .int .i64 0, .int .i64 0, .int .i64 0, .int .i64 0, .slice none 0 0, .slice none 0 0, .slice none 0 0] 26))); clear hb oC))
            go_ret
            exact ⟨by first | rfl | simp, B4.out.trans ((oD.out.below fun _ => id).mono B4.out.size)⟩
end Go.Proofs.Ytcamoldjljfbeaa
