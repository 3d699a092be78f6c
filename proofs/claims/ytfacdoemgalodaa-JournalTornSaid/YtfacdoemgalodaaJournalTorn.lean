/-
  JournalTorn, walked.
-/
import Derived.Test.YtfacdoemgalodaaLive34
import Derived.Test.YtfacdoemgalodaaWritW
import Derived.Test.YtfacdoemgalodaaSpoiltP
namespace Go.Proofs.Ytfacdoemgalodaa
open Go.RowKit
set_option linter.unusedVariables false
set_option linter.unusedSimpArgs false

set_option maxRecDepth 100000 in
set_option maxHeartbeats 4000000 in
theorem journalTorn_any (A : Option Addr) (n c : Nat) (vs : List Ver) (safe at' : Int) (to : UInt8) (w : World) (h : RdV w w.heap.size A n c vs) (ha : okI safe) (hk : okI at') :
    Calls Try.prog 10 #[.slice A n c, .int .i64 safe, .int .i64 at', .int .u8 (to.toNat : Int)] w fun e w' => e = .returned (.bool true) ∧ Below w.heap.size w w' := by
  unfold okI at ha hk
  have h1 := h.max
  have h2 := h.le
  have hbt := Below.refl w.heap.size w
  go_enter Try.func10, Try.ntmps10
  go_wp2_with fail
  refine (live_any w).mono ?_
  rintro e w1 ⟨rfl, hb⟩
  replace h := (h.below hb).more hb.size
  replace hbt := hbt.trans (hb.mono hbt.size)
  clear hb
  go_wp2_with fail
  refine (fewVs_any A n c vs 6 w1 h (by omega)).mono ?_
  rintro e w2 ⟨bf, rfl, hfv, hb⟩
  replace h := (h.below hb).more hb.size
  replace hbt := hbt.trans (hb.mono hbt.size)
  clear hb
  cases bf with
  | false =>
    clear hfv
    go_wp2_with fail
    go_ret
    exact ⟨ret_bool rfl, hbt⟩
  | true =>
    have hn := (hfv.1 rfl).2
    clear hfv
    by_cases ha0 : safe < 0
    · have dA : decide (safe < 0) = true := by simp; omega
      go_wp2_with fail
      go_ret
      exact ⟨ret_bool rfl, hbt⟩
    · have dA : decide (safe < 0) = false := by simp; omega
      by_cases hb0 : (n : Int) < safe
      · have dB : decide ((n : Int) < safe) = true := by simp; omega
        go_wp2_with fail
        go_ret
        exact ⟨ret_bool rfl, hbt⟩
      · have dB : decide ((n : Int) < safe) = false := by simp; omega
        by_cases hc0 : at' < 0
        · have dC : decide (at' < 0) = true := by simp; omega
          go_wp2_with fail
          go_ret
          exact ⟨ret_bool rfl, hbt⟩
        · have dC : decide (at' < 0) = false := by simp; omega
          obtain ⟨k, rfl⟩ : ∃ k : Nat, safe = (k : Int) := ⟨safe.toNat, by omega⟩
          obtain ⟨kp, rfl⟩ : ∃ kp : Nat, at' = (kp : Int) := ⟨at'.toNat, by omega⟩
          go_wp2_with fail
          clear dA dB dC
          refine (fits_any A n c vs w2 h).mono ?_
          rintro e w3 ⟨bf, rfl, hfv, hb⟩
          replace h := (h.below hb).more hb.size
          replace hbt := hbt.trans (hb.mono hbt.size)
          clear hb
          cases bf with
          | false =>
            clear hfv
            go_wp2_with fail
            go_ret
            exact ⟨ret_bool rfl, hbt⟩
          | true =>
            have hfit := hfv.1 rfl
            clear hfv
            have hkn : k ≤ n := by omega
            go_wp2_with fail
            have HL := Lib.hid h.len
            have HG : Hid (Jn.Good 1 (Jn.num vs)) := Jn.num_good hfit (fun v hv => h.weeks v hv) (by rw [HL.out]; omega)
            obtain ⟨p, hp⟩ : ∃ p, p = (Jn.num vs).take k := ⟨_, rfl⟩
            obtain ⟨q, hq⟩ : ∃ q, q = (Jn.num vs).drop k := ⟨_, rfl⟩
            have HPQ : Hid (p ++ q = Jn.num vs) := by show _ = _; rw [hp, hq, List.take_append_drop]
            have HPL : Hid (p.length = k) := by show _ = _; rw [hp, List.length_take, Jn.num_len, HL.out]; omega
            have HQL : Hid (q.length = n - k) := by show _ = _; rw [hq, List.length_drop, Jn.num_len, HL.out]
            refine (written_any A n c vs k w3 h (by omega) hkn hfit).mono ?_
            rintro e w4 ⟨v1, v2, rfl, o1, o2, hb⟩
            rw [← hp] at o1
            rw [← hq] at o2
            clear hp hq hfit
            replace h := (h.below hb).more hb.size
            replace hbt := hbt.trans (hb.mono hbt.size)
            clear hb
            have HGD : Hid (Jn.Good 1 (p ++ q)) := by show Jn.Good 1 (p ++ q); rw [HPQ.out]; exact HG.out
            have hsum : (Jn.encB p).length + (Jn.encB q).length ≤ 14080 := by
              have := Jn.enc_le HGD.out.1
              rw [Jn.encB_app, List.length_append, List.length_append, HPL.out, HQL.out] at this
              omega
            have HRD : Hid (Jn.readD (Jn.encB p) (Jn.encB q) = (p, q, 0)) := Jn.readD_of HGD.out (by omega)
            obtain ⟨lp, hlp⟩ : ∃ l, (Jn.encB p).length = l := ⟨_, rfl⟩
            obtain ⟨lq, hlq⟩ : ∃ l, (Jn.encB q).length = l := ⟨_, rfl⟩
            rw [hlp] at o1 hsum
            rw [hlq] at o2 hsum
            have HLP := Lib.hid hlp
            have HLQ := Lib.hid hlq
            clear hlp hlq
            obtain ⟨A1, c1, rfl, q1⟩ := own_rdB o1
            obtain ⟨B1, d1, rfl, t1⟩ := own_rdB o2
            clear o1 o2
            have k1 := q1.max
            have k2 := q1.le
            have k3 := t1.max
            have k4 := t1.le
            obtain ⟨V4, hV⟩ : ∃ V4, V4 = w4.alloc (.cells #[.slice A1 lp c1, .slice B1 lq d1] 24) := ⟨_, rfl⟩
            have b4 := blk_new hV
            have hb := below_new hV
            replace h := (h.below hb).more hb.size
            replace q1 := (q1.below hb).more hb.size
            replace t1 := (t1.below hb).more hb.size
            replace hbt := hbt.trans (hb.mono hbt.size)
            clear hb
            have HSV4 : Hid (V4.heap.size = w4.heap.size + 1) := by show V4.heap.size = _; rw [hV, World.size_alloc]
            have HVV4 := Lib.hid hV.symm
            clear hV
            go_wp2_with fail
            rw [HVV4.out]
            clear HVV4 HSV4
            have b4lt := blk_lt b4
            have hbx := Below.refl V4.heap.size V4
            have hs4 := hbt.size
            refine wp_region_tree 5 (.one [0, 1, 3, 4] 2 (.sto [])) [([], some 5), ([6], none)] (by kernel_rfl) (by kernel_rfl) ?_
            intro wd hsz hb
            clear hsz
            replace h := (h.below hb).more hb.size
            replace q1 := (q1.below hb).more hb.size
            replace t1 := (t1.below hb).more hb.size
            replace b4 := blk_below b4 hb
            replace hbx := hbx.trans (hb.mono hbx.size)
            replace hbt := hbt.trans (hb.mono hbt.size)
            clear hb
            have e0 : ∀ x : Ext wd.heap.size wd, x.val.cell? ⟨w4.heap.size, 0, none⟩ = some (.slice A1 lp c1) := fun x => (x.cell (blk_lt b4)).trans (blk_cell b4)
            have e1 : ∀ x : Ext wd.heap.size wd, x.val.cell? ⟨w4.heap.size, 1, none⟩ = some (.slice B1 lq d1) := fun x => (x.cell (blk_lt b4)).trans (blk_cell b4)
            refine tree_one ?_
            simp only [pick, List.map_cons, List.map_nil, Option.map_some, Option.map_none, List.getD_cons_zero, List.getD_cons_succ]
            (repeat (go_big_quiet_step (fail)))
            refine quiet_end ?_
            clear e0 e1
            refine plan_call (by kernel_rfl) (fun K hK => ?_)
            obtain ⟨vq, w6, hrun, oq, hg, hat⟩ := run_app (ty := 22) elB (World.ownsRow_nil wd V4.heap.size 5 1) q1 (bv_one _) (by omega) (by omega) hbx.size
            refine wp_append _ _ rfl rfl rfl hrun ?_
            have hb : Below wd.heap.size wd w6 := (Below.refl _ _).grown hg (Nat.le_refl _) (fun g hg => by cases hg)
            clear hrun hat hg
            rw [Nat.zero_add, List.nil_append] at oq
            obtain ⟨Aq, cq, rfl, _⟩ := own_rdB oq
            refine hK.out _ _ hb ?_
            clear hK K
            (try simp only [Act.put, List.setIfInBounds_toArray, List.set_cons_zero, List.set_cons_succ])
            replace h := (h.below hb).more hb.size
            replace q1 := (q1.below hb).more hb.size
            replace t1 := (t1.below hb).more hb.size
            replace b4 := blk_below b4 hb
            replace hbx := hbx.trans (hb.mono hbx.size)
            replace hbt := hbt.trans (hb.mono hbt.size)
            clear hb
            have e0 : ∀ x : Ext w6.heap.size w6, x.val.cell? ⟨w4.heap.size, 0, none⟩ = some (.slice A1 lp c1) := fun x => (x.cell (blk_lt b4)).trans (blk_cell b4)
            have e1 : ∀ x : Ext w6.heap.size w6, x.val.cell? ⟨w4.heap.size, 1, none⟩ = some (.slice B1 lq d1) := fun x => (x.cell (blk_lt b4)).trans (blk_cell b4)
            refine tree_sto ?_
            simp only [pick, List.map_cons, List.map_nil, Option.map_some, Option.map_none, List.getD_cons_zero, List.getD_cons_succ]
            (repeat (go_big_quiet_step (fail)))
            refine quiet_end ?_
            clear e0 e1
            refine late_cons ?_
            (repeat (go_big_quiet_step (fail)))
            refine late_nil ?_
            refine late_call (by kernel_rfl) (fun K hK => ?_)
            obtain ⟨vz, w7, hrun, oz, hg, hat⟩ := run_app (ty := 22) elB oq t1 (bv_one _) (by omega) (by omega) hbx.size
            refine wp_append _ _ rfl rfl rfl hrun ?_
            clear hrun hat
            have hbz := hbx.grown hg hbx.size (own_lt oq)
            replace b4 := (hg.block _ (blk_lt b4) (fun e => by have := own_lt oq _ e.symm; omega)).trans b4
            have hbt := hbt.grown hg hbt.size (fun g hg => Nat.le_trans hs4 (own_lt oq g hg))
            rw [← bv_append, ← Jn.encB_app] at oz
            obtain ⟨Az, cz, rfl, rz⟩ := own_rdB oz
            clear hg oq q1 t1 hbx
            refine hK.out _ _ ?_
            clear hK K
            (try simp only [Act.put, List.setIfInBounds_toArray, List.set_cons_zero, List.set_cons_succ])
            simp only [List.getD_eq_getElem?_getD, List.map_cons, Option.map_none, List.map_nil, List.length_cons, List.length_nil, Nat.zero_add, Nat.reduceAdd, Nat.reduceLT, getElem?_pos, List.getElem_cons_succ, List.getElem_cons_zero, Option.getD_some, List.set_cons_succ, List.set_cons_zero]
            refine late_cons ?_
            (try simp only [pickP, pick, List.map_cons, List.map_nil, Option.map_some, Option.map_none, List.getD_cons_zero, List.getD_cons_succ])
            (repeat (go_big_quiet_step (fail)))
            refine late_nil ?_
            refine late_none ?_
            have HFL : Hid ((Jn.encB (p ++ q)).length = lp + lq) := rz.len
            have hzm := rz.max
            have hzl := rz.le
            obtain ⟨fb, hfb⟩ : ∃ fb, fb = Jn.encB (p ++ q) := ⟨_, rfl⟩
            rw [← hfb] at oz rz HFL
            have HFB := Lib.hid hfb
            clear hfb
            by_cases hbig : lp + lq ≤ kp
            · have dA : decide ((lp : Int) + (lq : Int) ≤ (kp : Int)) = true := by simp; omega
              go_wp2_with fail
              go_ret
              exact ⟨ret_bool rfl, hbt⟩
            · have dA : decide ((lp : Int) + (lq : Int) ≤ (kp : Int)) = false := by simp; omega
              have hkf : kp < fb.length := by rw [HFL.out]; omega
              have hkp : kp < lp + lq := by omega
              obtain ⟨ad, rfl, _, x0⟩ := rz.at_ hkp hkf
              obtain ⟨g, hA⟩ : ∃ g, ad = ⟨g, 0, none⟩ := by
                rcases oz.2 with ⟨e, e0⟩ | ⟨g, cap, cur, e, _⟩
                · cases e
                · injection e with e1; injection e1 with e1; exact ⟨g, e1⟩
              subst hA
              rw [add_lit0] at x0
              have dD : decide (kp < lp + lq) = true := by simp; omega
              by_cases hto : fb[kp] = to
              · have dB : ((fb[kp].toNat : Int) == (to.toNat : Int)) = true := by rw [hto]; simp
                go_wp2_with fail
                go_ret
                exact ⟨ret_bool rfl, hbt⟩
              · have dB : ((fb[kp].toNat : Int) == (to.toNat : Int)) = false := by
                  simp only [beq_eq_false_iff_ne, ne_eq]
                  intro e
                  exact hto (UInt8.toNat_inj.1 (by omega))
                have HTO := Lib.hid hto
                clear hto
                go_wp2_with fail
                have HN : Hid ((p ++ q).length = n) := by show _ = _; rw [List.length_append, HPL.out, HQL.out]; omega
                have hn0 : 0 < n := by
                  rcases Nat.eq_zero_or_pos n with h0 | h0
                  · exfalso
                    have e : p ++ q = [] := List.eq_nil_of_length_eq_zero (by rw [HN.out]; exact h0)
                    have e2 := HFB.out
                    rw [e, Jn.encB_nil] at e2
                    rw [e2] at hkf
                    simp at hkf
                  · exact h0
                have hgb := own_lt oz g rfl
                clear x0 rz dA dB dD
                go_loopw [12] (fun iv wr => ∃ m : Nat, m < n ∧ iv = .int .i64 ((Jn.encB ((p ++ q).take m)).length : Nat) ∧ (Jn.encB ((p ++ q).take m)).length ≤ kp ∧ wr.heap[w4.heap.size]? = some (.cells #[.slice A1 lp c1, .slice B1 lq d1] 24) ∧
                  wr.ownsRow V4.heap.size 5 1 (.slice (some ⟨g, 0, none⟩) (lp + lq) cz) (lp + lq) (bv fb) ∧ Below w.heap.size w wr) (fun i _ => lp + lq - (intOf i).toNat)
                case atStart => exact ⟨0, hn0, by rw [List.take_zero, Jn.encB_nil]; rfl, by rw [List.take_zero, Jn.encB_nil]; exact Nat.zero_le _, b4, oz, hbt⟩
                case round =>
                  clear b4 oz hbt
                  obtain ⟨m, hm, rfl, hz0, b4, oz, hbt⟩ := hrel
                  obtain ⟨bd, HOP, hlt⟩ := Jn.open_at (vs := p ++ q) HGD.out.1 (m := m) (by rw [HN.out]; exact hm)
                  rw [← HFB.out] at HOP
                  have HOP := Lib.hid HOP
                  have HLE : Hid (m + 1 < n ∨ (Jn.encB ((p ++ q).take (m + 1))).length = lp + lq) := by
                    rcases Nat.lt_or_ge (m + 1) n with hh | hh
                    · exact .inl hh
                    · right
                      rw [List.take_of_length_le (by rw [HN.out]; exact hh), ← HFB.out, HFL.out]
                  have HTN : Hid ((Jn.encB ((p ++ q).take m)).length + 4 ≤ kp → kp < (Jn.encB ((p ++ q).take (m + 1))).length → (Jn.readD ((fb.set kp to).take lp) ((fb.set kp to).drop lp)).2.2 = 340) := fun x1 x2 => by
                    have := Jn.torn HGD.out (by rw [HLP.out, HLQ.out]; omega) m (by rw [HN.out]; exact hm) kp to (by rw [← HFB.out]; exact hkf) x1 x2 (by have := HTO.out; simp only [HFB.out] at this; exact this)
                    rw [HLP.out, ← HFB.out] at this
                    exact this
                  have hz1b : (Jn.encB ((p ++ q).take (m + 1))).length ≤ lp + lq := by have := Jn.encB_take_le (p ++ q) (m + 1); rw [← HFB.out, HFL.out] at this; exact this
                  obtain ⟨z0, hz0'⟩ : ∃ z, (Jn.encB ((p ++ q).take m)).length = z := ⟨_, rfl⟩
                  obtain ⟨z1, hz1'⟩ : ∃ z, (Jn.encB ((p ++ q).take (m + 1))).length = z := ⟨_, rfl⟩
                  rw [hz0'] at HOP hlt hz0 HTN ⊢
                  rw [hz1'] at HOP hlt HLE HTN hz1b
                  have HZ1 := Lib.hid hz1'
                  clear hz0' hz1'
                  obtain ⟨_, _, e', rz⟩ := own_rdB oz
                  injection e' with e1 _ e3
                  subst e1 e3
                  go_wp2_with fail
                  refine (open_any (some ⟨g, 0, none⟩) (lp + lq) cz fb z0 wr rz (by omega) (by omega) (by omega)).mono ?_
                  rintro e w8 ⟨vb, rfl, ob, hb⟩
                  rw [HOP.out] at ob ⊢
                  dsimp only at ob ⊢
                  clear ob rz
                  replace b4 := blk_below b4 hb
                  replace oz := own_below oz hb
                  replace hbt := hbt.trans (hb.mono hbt.size)
                  clear hb
                  have dE : decide ((z1 : Int) ≤ (z0 : Int)) = false := by simp; omega
                  by_cases hb1 : kp < z1
                  · have dF : decide ((kp : Int) < (z1 : Int)) = true := by simp; omega
                    by_cases h4 : kp < z0 + 4
                    · have dG : decide ((kp : Int) < (z0 : Int) + 4) = true := by simp; omega
                      go_wp2_with fail
                      go_ret
                      exact ⟨ret_bool rfl, hbt⟩
                    · have dG : decide ((kp : Int) < (z0 : Int) + 4) = false := by simp; omega
                      have HT := Lib.hid (HTN.out (by omega) hb1)
                      have dD : decide (kp < lp + lq) = true := by simp; omega
                      obtain ⟨u, x0⟩ := own_cell oz (j := kp) (by omega)
                      have x1 := oz.frozenAt kp
                      obtain ⟨hst, hgs⟩ := oz.stored kp (bcell to)
                      rw [bv_set] at hst
                      unfold bcell at hst hgs
                      have y4 := blk_other (p := ⟨g, kp, none⟩) (.int .u8 (to.toNat : Int)) b4 (by show g ≠ w4.heap.size; omega)
                      have hbt2 := hbt.setCell (p := ⟨g, kp, none⟩) (Nat.le_trans hs4 hgb) (.int .u8 (to.toNat : Int))
                      have cl0 := blk_cell (j := 0) y4
                      simp only [List.getElem?_toArray, List.getElem?_cons_zero, List.getElem?_cons_succ] at cl0
                      have cl1 := blk_cell (j := 1) y4
                      simp only [List.getElem?_toArray, List.getElem?_cons_zero, List.getElem?_cons_succ] at cl1
                      go_wp2_with fail
                      clear cl0 cl1 hgs x0 x1 b4 oz hbt
                      have hbt := hbt2
                      clear hbt2
                      generalize w8.setCell ⟨g, kp, none⟩ (.int .u8 (to.toNat : Int)) = W9 at *
                      obtain ⟨_, _, e', rz⟩ := own_rdB hst
                      injection e' with e1 _ e3
                      subst e1 e3
                      clear hst
                      have u1 := rz.upto (k := lp) (by omega)
                      have u2 := rz.cut (k := lp) (by omega)
                      rw [show lp + lq - lp = lq by omega] at u2
                      have dI : decide (lp ≤ lp + lq) = true := by simp
                      have dJ : decide (lp ≤ cz) = true := by simp; omega
                      have dK : decide (lp + lq ≤ cz) = true := by simp; omega
                      refine wp_region_plan [([0, 1, 2, 3, 4, 5, 6], some 7), ([8, 9], none)] (by kernel_rfl) (by kernel_rfl) ?_
                      intro wd hsz hb
                      clear hsz
                      replace u1 := (u1.below hb).more hb.size
                      replace u2 := (u2.below hb).more hb.size
                      replace hbt := hbt.trans (hb.mono hbt.size)
                      clear hb
                      simp only [pickP, pick, List.map_cons, List.map_nil, Option.map_some, Option.map_none, List.getD_cons_zero, List.getD_cons_succ]
                      refine plan_cons ?_
                      (repeat (go_big_quiet_step (fail)))
                      refine plan_nil ?_
                      refine plan_call (by kernel_rfl) (fun K hK => ?_)
                      go_simp
                      simp only [Option.map_some, add_lit0] at u2
                      generalize (if cz = lp then some (⟨g, 0, none⟩ : Addr) else some ⟨g, lp, none⟩) = A2 at u2 ⊢
                      refine (jCheck_any (some ⟨g, 0, none⟩) lp cz _ A2 lq (cz - lp) _ _ u1 u2 (by omega) (by omega)).mono ?_
                      rintro e w10 ⟨rfl, hb⟩
                      rw [HT.out]
                      refine hK.out _ _ hb ?_
                      clear hK K
                      (try simp only [Act.put, List.setIfInBounds_toArray, List.set_cons_zero, List.set_cons_succ])
                      replace u1 := (u1.below hb).more hb.size
                      replace u2 := (u2.below hb).more hb.size
                      replace hbt := hbt.trans (hb.mono hbt.size)
                      clear hb
                      refine plan_cons ?_
                      (repeat (go_big_quiet_step (fail)))
                      refine plan_nil ?_
                      refine plan_end ?_
                      go_wp2_with fail
                      go_ret
                      exact ⟨ret_bool rfl, hbt⟩
                  · have dF : decide ((kp : Int) < (z1 : Int)) = false := by simp; omega
                    go_wp2_with fail
                    go_roundw
                    case rel =>
                      refine ⟨m + 1, ?_, ?_, ?_, b4, oz, hbt⟩
                      · rcases HLE.out with hh | hh
                        · exact hh
                        · omega
                      · rw [HZ1.out]
                      · rw [HZ1.out]; omega
                    case measure => simp [intOf]; omega
end Go.Proofs.Ytfacdoemgalodaa
