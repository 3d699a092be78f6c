/-
  JournalBack, walked.
-/
import Derived.Test.YtfacdoemgalodaaLive34
import Derived.Test.YtfacdoemgalodaaWritW
namespace Go.Proofs.Ytfacdoemgalodaa
open Go.RowKit
set_option linter.unusedVariables false
set_option linter.unusedSimpArgs false

set_option maxRecDepth 100000 in
set_option maxHeartbeats 4000000 in
theorem journalBack_any (A : Option Addr) (n c : Nat) (vs : List Ver) (safe at' : Int) (w : World) (h : RdV w w.heap.size A n c vs) (ha : okI safe) (hk : okI at') :
    Calls Try.prog 8 #[.slice A n c, .int .i64 safe, .int .i64 at'] w fun e w' => e = .returned (.bool true) ∧ Below w.heap.size w w' := by
  unfold okI at ha hk
  have h1 := h.max
  have h2 := h.le
  have hbt := Below.refl w.heap.size w
  go_enter Try.func8, Try.ntmps8
  go_wp2_with fail
  refine (live_any w).mono ?_
  rintro e w1 ⟨rfl, hb⟩
  replace h := (h.below hb).more hb.size
  replace hbt := hbt.trans (hb.mono hbt.size)
  clear hb
  go_wp2_with fail
  refine (fewVs_any A n c vs 10 w1 h (by omega)).mono ?_
  rintro e w2 ⟨bf, rfl, hfv, hb⟩
  replace h := (h.below hb).more hb.size
  replace hbt := hbt.trans (hb.mono hbt.size)
  clear hb
  cases bf with
  | false =>
    clear hfv
    go_wp2_with fail
    go_ret
    exact ⟨ret_bool rfl, hbt⟩
  | true =>
    have hn := (hfv.1 rfl).2
    clear hfv
    by_cases ha0 : safe < 0
    · have dA : decide (safe < 0) = true := by simp; omega
      go_wp2_with fail
      go_ret
      exact ⟨ret_bool rfl, hbt⟩
    · have dA : decide (safe < 0) = false := by simp; omega
      by_cases hb0 : (n : Int) < safe
      · have dB : decide ((n : Int) < safe) = true := by simp; omega
        go_wp2_with fail
        go_ret
        exact ⟨ret_bool rfl, hbt⟩
      · have dB : decide ((n : Int) < safe) = false := by simp; omega
        by_cases hc0 : at' < 0
        · have dC : decide (at' < 0) = true := by simp; omega
          go_wp2_with fail
          go_ret
          exact ⟨ret_bool rfl, hbt⟩
        · have dC : decide (at' < 0) = false := by simp; omega
          obtain ⟨k, rfl⟩ : ∃ k : Nat, safe = (k : Int) := ⟨safe.toNat, by omega⟩
          obtain ⟨kp, rfl⟩ : ∃ kp : Nat, at' = (kp : Int) := ⟨at'.toNat, by omega⟩
          go_wp2_with fail
          clear dA dB dC
          refine (fits_any A n c vs w2 h).mono ?_
          rintro e w3 ⟨bf, rfl, hfv, hb⟩
          replace h := (h.below hb).more hb.size
          replace hbt := hbt.trans (hb.mono hbt.size)
          clear hb
          cases bf with
          | false =>
            clear hfv
            go_wp2_with fail
            go_ret
            exact ⟨ret_bool rfl, hbt⟩
          | true =>
            have hfit := hfv.1 rfl
            clear hfv
            have hkn : k ≤ n := by omega
            go_wp2_with fail
            have HL := Lib.hid h.len
            have HG : Hid (Jn.Good 1 (Jn.num vs)) := Jn.num_good hfit (fun v hv => h.weeks v hv) (by rw [HL.out]; omega)
            obtain ⟨p, hp⟩ : ∃ p, p = (Jn.num vs).take k := ⟨_, rfl⟩
            obtain ⟨q, hq⟩ : ∃ q, q = (Jn.num vs).drop k := ⟨_, rfl⟩
            have HPQ : Hid (p ++ q = Jn.num vs) := by show _ = _; rw [hp, hq, List.take_append_drop]
            have HPL : Hid (p.length = k) := by show _ = _; rw [hp, List.length_take, Jn.num_len, HL.out]; omega
            have HQL : Hid (q.length = n - k) := by show _ = _; rw [hq, List.length_drop, Jn.num_len, HL.out]
            refine (written_any A n c vs k w3 h (by omega) hkn hfit).mono ?_
            rintro e w4 ⟨v1, v2, rfl, o1, o2, hb⟩
            rw [← hp] at o1
            rw [← hq] at o2
            clear hp hq hfit
            replace h := (h.below hb).more hb.size
            replace hbt := hbt.trans (hb.mono hbt.size)
            clear hb
            have HGD : Hid (Jn.Good 1 (p ++ q)) := by show Jn.Good 1 (p ++ q); rw [HPQ.out]; exact HG.out
            have hsum : (Jn.encB p).length + (Jn.encB q).length ≤ 14080 := by
              have := Jn.enc_le HGD.out.1
              rw [Jn.encB_app, List.length_append, List.length_append, HPL.out, HQL.out] at this
              omega
            have HRD : Hid (Jn.readD (Jn.encB p) (Jn.encB q) = (p, q, 0)) := Jn.readD_of HGD.out (by omega)
            obtain ⟨lp, hlp⟩ : ∃ l, (Jn.encB p).length = l := ⟨_, rfl⟩
            obtain ⟨lq, hlq⟩ : ∃ l, (Jn.encB q).length = l := ⟨_, rfl⟩
            rw [hlp] at o1 hsum
            rw [hlq] at o2 hsum
            have HLP := Lib.hid hlp
            have HLQ := Lib.hid hlq
            clear hlp hlq
            obtain ⟨A1, c1, rfl, q1⟩ := own_rdB o1
            obtain ⟨B1, d1, rfl, t1⟩ := own_rdB o2
            clear o1 o2
            have k1 := q1.max
            have k2 := q1.le
            have k3 := t1.max
            have k4 := t1.le
            obtain ⟨V4, hV⟩ : ∃ V4, V4 = w4.alloc (.cells #[.slice A1 lp c1, .slice B1 lq d1] 24) := ⟨_, rfl⟩
            have b4 := blk_new hV
            have hb := below_new hV
            replace h := (h.below hb).more hb.size
            replace q1 := (q1.below hb).more hb.size
            replace t1 := (t1.below hb).more hb.size
            replace hbt := hbt.trans (hb.mono hbt.size)
            clear hb
            have HSV4 : Hid (V4.heap.size = w4.heap.size + 1) := by show V4.heap.size = _; rw [hV, World.size_alloc]
            have HVV4 := Lib.hid hV.symm
            clear hV
            go_wp2_with fail
            rw [HVV4.out]
            clear HVV4 HSV4
            refine (numbered_any A n c vs V4 h hn).mono ?_
            rintro e w5 ⟨A2, c2, rfl, r2, hb⟩
            replace h := (h.below hb).more hb.size
            replace q1 := (q1.below hb).more hb.size
            replace t1 := (t1.below hb).more hb.size
            replace b4 := blk_below b4 hb
            replace hbt := hbt.trans (hb.mono hbt.size)
            clear hb
            have k5 := r2.max
            have k6 := r2.le
            have cl0 := blk_cell (j := 0) b4
            simp only [List.getElem?_toArray, List.getElem?_cons_zero, List.getElem?_cons_succ] at cl0
            have cl1 := blk_cell (j := 1) b4
            simp only [List.getElem?_toArray, List.getElem?_cons_zero, List.getElem?_cons_succ] at cl1
            go_wp2_with fail
            clear cl0 cl1
            refine (jRead_any A1 lp c1 (Jn.encB p) B1 lq d1 (Jn.encB q) w5 q1 t1 (by omega) (by omega)).mono ?_
            rintro e w6 ⟨u1, u2, rfl, o1, o2, hb⟩
            rw [HRD.out] at o1 o2 ⊢
            dsimp only at o1 o2 ⊢
            obtain ⟨E1, f1, rfl, r3⟩ := o1.rd
            obtain ⟨E2, f2, rfl, r4⟩ := o2.rd
            rw [HPL.out] at r3 ⊢
            rw [HQL.out] at r4 ⊢
            clear o1 o2
            replace h := (h.below hb).more hb.size
            replace q1 := (q1.below hb).more hb.size
            replace t1 := (t1.below hb).more hb.size
            replace b4 := blk_below b4 hb
            replace r2 := (r2.below hb).more hb.size
            replace hbt := hbt.trans (hb.mono hbt.size)
            clear hb
            have k7 := r3.max
            have k8 := r3.le
            have k9 := r4.max
            have k10 := r4.le
            obtain ⟨s1, hs1, hk1, he1⟩ := r3
            obtain ⟨s2, hs2, hk2, he2⟩ := r4
            have he1 : ElV w6 w6.heap.size p s1 := he1
            have he2 : ElV w6 w6.heap.size q s2 := he2
            have on1 := vcells_one p s1 (ElV.slices hs1 he1)
            have on2 := vcells_one q s2 (ElV.slices hs2 he2)
            have HS1 := Lib.hid hs1
            have HS2 := Lib.hid hs2
            clear hs1 hs2
            go_wp2_with (first
              | (refine wpList_appG (t := 27) _ _ elV (World.ownsRow_nil w6 w6.heap.size 42 4) hk1 on1 (by omega) (by omega) (Nat.le_refl _) rfl rfl rfl rfl ?_
                 intro v' w7 ho hg hat
                 have hb7 : Below w6.heap.size w6 w7 := (Below.refl _ _).grown hg (Nat.le_refl _) (fun g hg => by cases hg)
                 rw [Nat.zero_add, List.nil_append] at ho
                 obtain ⟨Az, cz, rfl, _⟩ := own_rdK ho
                 clear hg hat on1)
              | (refine wpList_appG (t := 27) _ _ elV ho (hk2.below hb7) on2 (by omega) (by omega) hb7.size rfl rfl rfl rfl ?_
                 intro v'' w8 ho8 hg8 hat8
                 have hb8 : Below w6.heap.size w6 w8 := hb7.grown hg8 hb7.size (own_lt ho)
                 clear hg8 hat8 ho on2 hb7)
              | fail)
            have hlen : n = k + (n - k) := by omega
            rw [← List.flatMap_append, ← List.zip_append (by rw [HS1.out])] at ho8
            obtain ⟨A8, c8, rfl, r8⟩ := ElV.rd (w := w8) (vs := p ++ q) (ss := s1 ++ s2) (by rw [List.length_append, List.length_append, HS1.out, HS2.out]) ((ElV.cat HS1.out (he1.below hb8) (he2.below hb8)).more hb8.size) (by rw [List.length_append, HPL.out, HQL.out]; exact ho8)
            rw [List.length_append, HPL.out, HQL.out, ← hlen] at r8 ⊢
            rw [HPQ.out] at r8
            clear ho8 hlen hk1 hk2 he1 he2
            have hb := hb8
            clear hb8
            replace h := (h.below hb).more hb.size
            replace q1 := (q1.below hb).more hb.size
            replace t1 := (t1.below hb).more hb.size
            replace b4 := blk_below b4 hb
            replace r2 := (r2.below hb).more hb.size
            replace hbt := hbt.trans (hb.mono hbt.size)
            clear hb
            refine (versions_any A8 A2 n c8 n c2 (Jn.num vs) (Jn.num vs) w8 r8 r2).mono ?_
            rintro e w9 ⟨b, rfl, hiff, hb⟩
            obtain rfl : b = true := hiff.2 rfl
            clear hiff r8
            replace h := (h.below hb).more hb.size
            replace q1 := (q1.below hb).more hb.size
            replace t1 := (t1.below hb).more hb.size
            replace b4 := blk_below b4 hb
            replace r2 := (r2.below hb).more hb.size
            replace hbt := hbt.trans (hb.mono hbt.size)
            clear hb
            have cl0 := blk_cell (j := 0) b4
            simp only [List.getElem?_toArray, List.getElem?_cons_zero, List.getElem?_cons_succ] at cl0
            have cl1 := blk_cell (j := 1) b4
            simp only [List.getElem?_toArray, List.getElem?_cons_zero, List.getElem?_cons_succ] at cl1
            go_wp2_with fail
            clear cl0 cl1
            obtain ⟨j, hj⟩ : ∃ j, j = Jn.whole q kp := ⟨_, rfl⟩
            obtain ⟨z, hz⟩ : ∃ z, z = p ++ q.take j := ⟨_, rfl⟩
            have HC : Hid (Jn.crashD (Jn.encB p) (Jn.encB q) (kp : Int) = (Jn.encB z, [], 0)) := by
              show _ = _
              have := Jn.crashD_of (keep := (kp : Int)) HGD.out (by rw [HLP.out, HLQ.out]; omega) (by omega)
              rw [this, Int.toNat_natCast, hz, hj]
            have HGZ : Hid (Jn.Good 1 z) := by
              show Jn.Good 1 z
              have := Jn.good_take HGD.out (p.length + j)
              rw [List.take_length_add_append] at this
              rw [hz]; exact this
            have hzl : (Jn.encB z).length ≤ 14080 := by
              rw [hz, Jn.encB_app, List.length_append]
              have := Jn.encB_take_le q j
              rw [HLQ.out] at this
              rw [HLP.out]
              omega
            have HR : Hid (Jn.readD (Jn.encB z) [] = (z, [], 0)) := by
              show _ = _
              have := Jn.readD_of (a := z) (b := []) (by rw [List.append_nil]; exact HGZ.out) (by rw [Jn.encB_nil, List.length_nil]; omega)
              exact this
            have HZT : Hid ((Jn.num vs).take z.length = z) := by
              show _ = _
              rw [← HPQ.out, hz, List.length_append, List.take_length_add_append, List.length_take]
              congr 1
              exact (Jn.take_min q j).symm
            have hz1 : k ≤ z.length := by rw [hz, List.length_append, HPL.out]; omega
            have hz2 : z.length ≤ n := by rw [hz, List.length_append, HPL.out, List.length_take, HQL.out]; omega
            have hz3 : lq ≤ kp → z.length = n := by
              intro hh
              rw [hz, hj, Jn.whole_all (fun v hv => HGD.out.1 v (List.mem_append_right _ hv)) (by rw [HLQ.out]; exact hh), List.take_length, List.length_append, HPL.out, HQL.out]
              omega
            clear hj hz HGD HGZ HG
            obtain ⟨lz, hlz⟩ : ∃ l, (Jn.encB z).length = l := ⟨_, rfl⟩
            obtain ⟨nz, hnz⟩ : ∃ l, z.length = l := ⟨_, rfl⟩
            rw [hlz] at hzl
            rw [hnz] at hz1 hz2 hz3 HZT
            have HLZ := Lib.hid hlz
            have HNZ := Lib.hid hnz
            have HZ3 := Lib.hid hz3
            clear hlz hnz hz3
            refine (jCrash_any A1 lp c1 (Jn.encB p) B1 lq d1 (Jn.encB q) kp w9 q1 t1 (by omega) (by omega) (by unfold okI; omega)).mono ?_
            rintro e w10 ⟨v1, v2, rfl, o1, o2, hb⟩
            rw [HC.out] at o1 o2 ⊢
            dsimp only at o1 o2 ⊢
            rw [HLZ.out] at o1
            obtain ⟨A3, c3, rfl, q3⟩ := own_rdB o1
            obtain ⟨B3, d3, rfl, t3⟩ := own_rdB (n := 0) (l := []) o2
            clear o1 o2
            replace h := (h.below hb).more hb.size
            replace q1 := (q1.below hb).more hb.size
            replace t1 := (t1.below hb).more hb.size
            replace b4 := blk_below b4 hb
            replace r2 := (r2.below hb).more hb.size
            replace hbt := hbt.trans (hb.mono hbt.size)
            clear hb
            have k11 := q3.max
            have k12 := q3.le
            have k13 := t3.max
            have k14 := t3.le
            obtain ⟨V10, hV⟩ : ∃ V10, V10 = w10.alloc (.cells #[.slice A3 lz c3, .slice B3 0 d3] 24) := ⟨_, rfl⟩
            have b10 := blk_new hV
            have hb := below_new hV
            replace h := (h.below hb).more hb.size
            replace q1 := (q1.below hb).more hb.size
            replace t1 := (t1.below hb).more hb.size
            replace b4 := blk_below b4 hb
            replace r2 := (r2.below hb).more hb.size
            replace q3 := (q3.below hb).more hb.size
            replace t3 := (t3.below hb).more hb.size
            replace hbt := hbt.trans (hb.mono hbt.size)
            clear hb
            have HSV10 : Hid (V10.heap.size = w10.heap.size + 1) := by show V10.heap.size = _; rw [hV, World.size_alloc]
            have HVV10 := Lib.hid hV.symm
            clear hV
            have cl0 := blk_cell (j := 0) b10
            simp only [List.getElem?_toArray, List.getElem?_cons_zero, List.getElem?_cons_succ] at cl0
            have cl1 := blk_cell (j := 1) b10
            simp only [List.getElem?_toArray, List.getElem?_cons_zero, List.getElem?_cons_succ] at cl1
            rw [← HVV10.out] at cl0 cl1
            go_wp2_with fail
            rw [HVV10.out]
            clear HVV10 HSV10 cl0 cl1
            refine (jRead_any A3 lz c3 (Jn.encB z) B3 0 d3 [] V10 q3 t3 (by omega) (by omega)).mono ?_
            rintro e w11 ⟨u1, u2, rfl, o1, o2, hb⟩
            rw [HR.out] at o1 o2 ⊢
            dsimp only at o1 o2 ⊢
            obtain ⟨E3, f3, rfl, r3⟩ := o1.rd
            obtain ⟨E4, f4, rfl, _⟩ := o2.rd
            rw [HNZ.out] at r3 ⊢
            rw [show ([] : List Ver).length = 0 from rfl]
            clear o1 o2
            replace h := (h.below hb).more hb.size
            replace q1 := (q1.below hb).more hb.size
            replace t1 := (t1.below hb).more hb.size
            replace b4 := blk_below b4 hb
            replace r2 := (r2.below hb).more hb.size
            replace q3 := (q3.below hb).more hb.size
            replace t3 := (t3.below hb).more hb.size
            replace b10 := blk_below b10 hb
            replace hbt := hbt.trans (hb.mono hbt.size)
            clear hb
            have k15 := r3.max
            have k16 := r3.le
            have r5 := r2.upto hz2
            rw [HZT.out] at r5
            have dD : decide ((k : Int) ≤ (nz : Int)) = true := by simp; omega
            have dE : decide ((nz : Int) ≤ (n : Int)) = true := by simp; omega
            have dF : decide (nz ≤ n) = true := by simp; omega
            have cl0 := blk_cell (j := 0) b4
            simp only [List.getElem?_toArray, List.getElem?_cons_zero, List.getElem?_cons_succ] at cl0
            have cl1 := blk_cell (j := 1) b4
            simp only [List.getElem?_toArray, List.getElem?_cons_zero, List.getElem?_cons_succ] at cl1
            go_wp2_with fail
            clear cl0 cl1
            refine (versions_any E3 A2 nz f3 nz c2 z z w11 r3 r5).mono ?_
            rintro e w12 ⟨b, rfl, hiff, hb⟩
            obtain rfl : b = true := hiff.2 rfl
            clear hiff
            replace h := (h.below hb).more hb.size
            replace q1 := (q1.below hb).more hb.size
            replace t1 := (t1.below hb).more hb.size
            replace b4 := blk_below b4 hb
            replace r2 := (r2.below hb).more hb.size
            replace q3 := (q3.below hb).more hb.size
            replace t3 := (t3.below hb).more hb.size
            replace b10 := blk_below b10 hb
            replace r3 := (r3.below hb).more hb.size
            replace r5 := (r5.below hb).more hb.size
            replace hbt := hbt.trans (hb.mono hbt.size)
            clear hb
            have cl0 := blk_cell (j := 0) b4
            simp only [List.getElem?_toArray, List.getElem?_cons_zero, List.getElem?_cons_succ] at cl0
            have cl1 := blk_cell (j := 1) b4
            simp only [List.getElem?_toArray, List.getElem?_cons_zero, List.getElem?_cons_succ] at cl1
            by_cases hkl : kp < lq
            · have dG : decide ((kp : Int) < (lq : Int)) = true := by simp; omega
              go_wp2_with fail
              go_ret
              exact ⟨ret_bool rfl, hbt⟩
            · have dG : decide ((kp : Int) < (lq : Int)) = false := by simp; omega
              obtain rfl := HZ3.out (by omega)
              have dH : ((nz : Int) == (nz : Int)) = true := by simp
              go_wp2_with fail
              go_ret
              exact ⟨ret_bool rfl, hbt⟩
end Go.Proofs.Ytfacdoemgalodaa
