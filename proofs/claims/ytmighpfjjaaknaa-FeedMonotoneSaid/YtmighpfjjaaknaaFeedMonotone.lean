/-
  FeedMonotone, walked.
-/
import Derived.Test.YtmighpfjjaaknaaShowsW
import Derived.Deep.RegionHeld3
import Derived.Deep.DeepCutAuto
namespace Go.Proofs.Ytmighpfjjaaknaa
open Go.RowKit
set_option linter.unusedVariables false
set_option linter.unusedSimpArgs false

set_option maxRecDepth 20000 in
set_option maxHeartbeats 4000000 in
theorem feedMonotone_any (A : Option Addr) (n c : Nat) (vs : List Ver) (Ao : Option Addr) (m co : Nat) (os : List Op) (w : World) (h : RdV w w.heap.size A n c vs) (ho : RdO w w.heap.size Ao m co os) :
    Calls Try.prog 5 #[.slice A n c, .slice Ao m co] w fun e w' => e = .returned (.bool true) ∧ Below w.heap.size w w' := by
  have n1 := h.max
  have n2 := h.le
  have hl := Lib.hid h.len
  have y1 := ho.max
  have y2 := ho.le
  have hlo := Lib.hid ho.len
  have hbt := Below.refl w.heap.size w
  have h0 := h
  have ho0 := ho
  go_enter Try.func5, Try.ntmps5
  go_wp2_with fail
  refine (live_any w).mono ?_
  rintro e w1 ⟨rfl, hb⟩
  replace h := (h.below hb).more hb.size
  replace ho := (ho.below hb).more hb.size
  replace hbt := hbt.trans (hb.mono hbt.size)
  clear hb
  go_wp2_with fail
  refine (few_any A n c vs w1 h).mono ?_
  rintro e w2 ⟨r, rfl, hfew, rfl⟩
  cases r
  · clear hfew
    go_wp2_with fail
    go_ret
    exact ⟨rfl, hbt⟩
  · obtain ⟨hv1, hv2⟩ := hfew rfl
    rw [hl.out] at hv1
    have HV2 := Lib.hid hv2
    have HOK := Lib.hid h.okWeeks
    have HM := fun (no to_ : Int) => @replyM_ok vs no to_ h.okWeeks hv2
    replace HM := Lib.hid HM
    clear hv2 hfew
    by_cases h30 : m ≤ 30
    · have d1 : decide ((30 : Int) < (m : Int)) = false := by simp; omega
      go_wp2_with fail
      refine (check_any A n c vs w1 h).mono ?_
      rintro e w3 ⟨rfl, hb⟩
      replace h := (h.below hb).more hb.size
      replace ho := (ho.below hb).more hb.size
      replace hbt := hbt.trans (hb.mono hbt.size)
      clear hb
      by_cases hck : checkB vs = true
      · rw [show errB (checkB vs) = 0 by rw [hck]; rfl]
        have HC := Lib.hid hck
        clear hck
        have hs3 : w.heap.size ≤ w3.heap.size := hbt.size
        obtain ⟨V4, hV⟩ : ∃ V4, V4 = w3.alloc (.cells #[.int .i64 0, .slice none 0 0] 27) := ⟨_, rfl⟩
        have bc := blk_new hV
        have hb := below_new hV
        replace h := (h.below hb).more hb.size
        replace ho := (ho.below hb).more hb.size
        replace hbt := hbt.trans (hb.mono hbt.size)
        clear hb
        have HSV4 : Hid (V4.heap.size = w3.heap.size + 1) := by show V4.heap.size = _; rw [hV, World.size_alloc]
        have HVV4 := Lib.hid hV.symm
        clear hV
        obtain ⟨V5, hV⟩ : ∃ V5, V5 = V4.alloc (.cells #[] 32) := ⟨_, rfl⟩
        have bs := blk_new hV
        rw [HSV4.out] at bs
        have hb := below_new hV
        replace h := (h.below hb).more hb.size
        replace ho := (ho.below hb).more hb.size
        replace bc := blk_below bc hb
        replace hbt := hbt.trans (hb.mono hbt.size)
        clear hb
        have HSV5 : Hid (V5.heap.size = V4.heap.size + 1) := by show V5.heap.size = _; rw [hV, World.size_alloc]
        have HVV5 := Lib.hid hV.symm
        clear hV
        have hinv : MonMem w.heap.size w3.heap.size V5 (.slice (some ⟨w3.heap.size + 1, 0, none⟩) 0 0) [] ⟨0, []⟩ (.slice none 0 0) := ⟨bc, World.ownsRow_nil _ _ _ _, ⟨rfl, .inr ⟨_, 0, #[], rfl, by omega, bs, Nat.le_refl _, by unfold maxLen; omega, rfl, rfl⟩⟩, by simp, by simp [okPs], by simp⟩
        go_wp2_with fail
        rw [HVV4.out]
        clear HVV4
        rw [HVV5.out]
        clear HVV5
        obtain ⟨bC, hbC⟩ : ∃ b, b = w3.heap.size := ⟨_, rfl⟩
        rw [← hbC] at hinv bc hs3 ⊢
        clear hbC bs bc HSV4 HSV5
        go_loopw [6, 7, 8] (fun sv th i wr => ∃ (k t : Nat) (msgs : List (Mg × Value × Value)) (cl : Cl) (cs : Value), k ≤ m ∧ i = .int .i64 k ∧ th = .int .i64 t ∧ t ≤ n ∧ msgs.length ≤ k ∧ Shows vs t cl ∧ (∀ x ∈ msgs, Sent vs t x.1) ∧ MonMem w.heap.size bC wr sv msgs cl cs ∧ Below w.heap.size w wr) (fun _ _ i _ => m - (intOf i).toNat)
        case atStart => exact ⟨0, 0, [], ⟨0, []⟩, _, by omega, rfl, rfl, by omega, by simp, .inl ⟨rfl, rfl⟩, by simp, hinv, hbt⟩
        case round =>
          obtain ⟨k, t, msgs, cl, cs, hk, rfl, rfl, htn, hmk, hsh, hst, hmem, hbr⟩ := hrel
          clear hinv hbt h ho
          obtain ⟨As, ks, hsv, _⟩ := own_rdK hmem.row
          subst hsv
          obtain ⟨Ac, kc, hcv, _⟩ := own_rdK hmem.week
          subst hcv
          obtain ⟨ms, hms⟩ : ∃ z, z = msgs.length := ⟨_, rfl⟩
          rw [← hms] at hmem hmk ⊢
          have HMS := Lib.hid hms
          clear hms
          have HSH := Lib.hid hsh
          have HST := Lib.hid hst
          clear hsh hst
          have hbt := hbr
          by_cases hkm : k < m
          · have d5 : decide ((k : Int) < (m : Int)) = true := by simp; omega
            have hkl : k < os.length := by rw [hlo.out]; exact hkm
            obtain ⟨ad, rfl, hab, w0, w1, w2, w3', w4, hoo⟩ := ho0.at_ hkm hkl
            generalize os[k] = o at *
            obtain ⟨many, now, old, which, comes⟩ := o
            unfold okOp at hoo
            dsimp only at *
            obtain ⟨o1, o2, o3⟩ := hoo
            obtain ⟨cno, lc⟩ := cl
            obtain ⟨nc, hnc⟩ : ∃ z, z = lc.length := ⟨_, rfl⟩
            rw [← hnc] at hmem
            have HNC := Lib.hid hnc
            clear hnc
            have c0 := (hbt.cell (p := (ad.add (k * 5))) (by rw [add_block]; exact hab)).trans w0
            have c1 := (hbt.cell (p := ⟨(ad.add (k * 5)).block, (ad.add (k * 5)).off + 1, none⟩) (by dsimp only; rw [add_block]; exact hab)).trans w1
            have c2 := (hbt.cell (p := ⟨(ad.add (k * 5)).block, (ad.add (k * 5)).off + 2, none⟩) (by dsimp only; rw [add_block]; exact hab)).trans w2
            have c3 := (hbt.cell (p := ⟨(ad.add (k * 5)).block, (ad.add (k * 5)).off + 3, none⟩) (by dsimp only; rw [add_block]; exact hab)).trans w3'
            have c4 := (hbt.cell (p := ⟨(ad.add (k * 5)).block, (ad.add (k * 5)).off + 4, none⟩) (by dsimp only; rw [add_block]; exact hab)).trans w4
            have b0 : wr.cell? ⟨bC, 0, none⟩ = some (.int .i64 cno) := cell_of_row wr _ 0 _ _ _ hmem.box
            have hcr : 0 ≤ cno ∧ cno ≤ (t : Int) := by rcases HSH.out with hh | hh <;> (dsimp only at hh; omega)
            have hcr1 := hcr.1
            have hcr2 := hcr.2
            clear hcr
            obtain ⟨r, hr, hrn⟩ : ∃ r : Nat, (many : Int) % ((n : Int) + 1) = (r : Int) ∧ r ≤ n := by
              have e1 := Int.emod_nonneg (many : Int) (show ((n : Int) + 1) ≠ 0 by omega)
              have e2 := Int.emod_lt_of_pos (many : Int) (show 0 < ((n : Int) + 1) by omega)
              exact ⟨((many : Int) % ((n : Int) + 1)).toNat, by omega, by omega⟩
            go_upto_region 11 with fail
            go_cut [7] (fun s7 wx => ∃ tt : Nat, s7 = .int .i64 tt ∧ t ≤ tt ∧ tt ≤ n ∧ wr = wx)
            case first =>
              by_cases htr : t < r
              all_goals (go_wp2_with fail; go_meet)
              · exact ⟨r, rfl, by omega, hrn, rfl⟩
              · exact ⟨t, rfl, Nat.le_refl _, htn, rfl⟩
            case rest =>
              obtain ⟨tt, rfl, htt, httn, rfl⟩ := hcut
              clear hr hrn
              go_upto_if 59 with fail
              go_cut [9] (fun s9 wx => ∃ no : Int, s9 = .int .i64 no ∧ 0 ≤ no ∧ no ≤ 255 ∧ wr = wx)
              case first =>
                cases now
                all_goals (go_wp2_with fail; go_meet)
                · exact ⟨(old : Int), rfl, by omega, by omega, rfl⟩
                · exact ⟨cno, rfl, by omega, by omega, rfl⟩
              case rest =>
                obtain ⟨no, rfl, hno1, hno2, rfl⟩ := hcut
                have HSH2 := Lib.hid (HSH.out.more htt)
                have HST2 : Hid (∀ x ∈ msgs, Sent vs tt x.1) := fun x hx => (HST.out x hx).more htt
                clear HSH HST
                have httc : tt ≤ c := by omega
                have h := (h0.below hbt).more hbt.size
                have hup := h.upto httn
                go_wp2_with fail
                clear c0 c1 c2 c3 c4 b0
                have hrs := reply_sent (t := tt) (no := no) HC.out (by rw [hl.out]; exact httn) (by omega) (by omega)
                obtain ⟨ok1, ok2, ok3⟩ := @replyM_ok (vs.take tt) no 3 (fun v hv => HOK.out v (List.mem_of_mem_take hv)) (fun v hv => HV2.out v (List.mem_of_mem_take hv))
                refine (reply_any A tt c (vs.take tt) no 3 wr hup (by omega) (fun v hv => Nat.le_trans (HV2.out v (List.mem_of_mem_take hv)) (by omega))).mono ?_
                rintro e w5 ⟨v, u, rfl, hov, hou, hb⟩
                clear h hup
                generalize replyM (vs.take tt) no 3 = M at *
                generalize replyE (vs.take tt) no 3 = E at *
                obtain ⟨m0, m1, m2, m3, lw, lm⟩ := M
                dsimp only at hov hou ok1 ok2 ok3 ⊢
                obtain ⟨A5, k5, rfl, q5⟩ := own_rdP hov ok1
                obtain ⟨P5, j5, rfl, r5⟩ := own_rdM hou ok2
                clear q5 r5
                replace hov := own_mono hov hbt.size
                replace hou := own_mono hou hbt.size
                replace hmem := hmem.below hb
                replace hbt := hbt.trans (hb.mono hbt.size)
                clear hb
                obtain ⟨nw, hnw⟩ : ∃ z, z = lw.length := ⟨_, rfl⟩
                obtain ⟨nm, hnm⟩ : ∃ z, z = lm.length := ⟨_, rfl⟩
                rw [← hnw] at hov ok3 ⊢
                rw [← hnm] at hou ⊢
                have HNW := Lib.hid hnw
                have HNM := Lib.hid hnm
                clear hnw hnm
                obtain ⟨V5b, hV⟩ : ∃ V5b, V5b = w5.alloc (.cells #[.int .i64 m0, .int .i64 m1, .int .i64 m2, .int .i64 m3, .slice A5 nw k5, .slice P5 nm j5] 32) := ⟨_, rfl⟩
                have bm := blk_new hV
                have hb := below_new hV
                replace hmem := hmem.below hb
                replace hov := own_below hov hb
                replace hou := own_below hou hb
                replace hbt := hbt.trans (hb.mono hbt.size)
                clear hb
                have HSV5b : Hid (V5b.heap.size = w5.heap.size + 1) := by show V5b.heap.size = _; rw [hV, World.size_alloc]
                have HVV5b := Lib.hid hV.symm
                clear hV
                have HE := Lib.hid hrs
                clear hrs
                go_upto_if 71 with fail
                rw [HVV5b.out]
                clear HVV5b
                go_cut [6] (fun s6 wx => ∃ (As' : Option Addr) (ms' ks' : Nat) (msgs' : List (Mg × Value × Value)), s6 = .slice As' ms' ks' ∧ ms' = msgs'.length ∧ ms' ≤ k + 1 ∧ (∀ x ∈ msgs', Sent vs tt x.1) ∧ MonMem w.heap.size bC wx (.slice As' ms' ks') msgs' ⟨cno, lc⟩ (.slice Ac nc kc) ∧ Below w.heap.size w wx)
                case first =>
                  rcases HE.out with ⟨hE, hsent⟩ | hE
                  · subst hE
                    have HSN := Lib.hid hsent
                    clear hsent
                    have HROW : Hid (V5b.ownsRow w.heap.size 32 6 (.slice As ms ks) ms (msgs.flatMap gcell)) := by show World.ownsRow _ _ _ _ _ _ _; have := hmem.row; rwa [← HMS.out] at this
                    have hrow := HROW.out
                    have hnew : RdK 6 (V5b.alloc (.cells #[.int .i64 m0, .int .i64 m1, .int .i64 m2, .int .i64 m3, .slice A5 nw k5, .slice P5 nm j5] 32)) (V5b.heap.size + 1) (some ⟨V5b.heap.size, 0, none⟩) 1 1 [.int .i64 m0, .int .i64 m1, .int .i64 m2, .int .i64 m3, .slice A5 nw k5, .slice P5 nm j5] := RdK.new 6 V5b _ _ _ 1 rfl (by omega)
                    have hszm : w.heap.size ≤ V5b.heap.size := hbt.size
                    have cm0 := cell_of_row V5b w5.heap.size 0 _ _ _ bm
                    simp only [List.getElem?_toArray, List.getElem?_cons_zero, List.getElem?_cons_succ] at cm0
                    have cm1 := cell_of_row V5b w5.heap.size 1 _ _ _ bm
                    simp only [List.getElem?_toArray, List.getElem?_cons_zero, List.getElem?_cons_succ] at cm1
                    have cm2 := cell_of_row V5b w5.heap.size 2 _ _ _ bm
                    simp only [List.getElem?_toArray, List.getElem?_cons_zero, List.getElem?_cons_succ] at cm2
                    have cm3 := cell_of_row V5b w5.heap.size 3 _ _ _ bm
                    simp only [List.getElem?_toArray, List.getElem?_cons_zero, List.getElem?_cons_succ] at cm3
                    have cm4 := cell_of_row V5b w5.heap.size 4 _ _ _ bm
                    simp only [List.getElem?_toArray, List.getElem?_cons_zero, List.getElem?_cons_succ] at cm4
                    have cm5 := cell_of_row V5b w5.heap.size 5 _ _ _ bm
                    simp only [List.getElem?_toArray, List.getElem?_cons_zero, List.getElem?_cons_succ] at cm5
                    go_wp2_with (at_builtin; refine wpList_appK _ _ elG (hrow.alloc _) hnew (by simp [Value.oneCell']) (by omega) (by omega) (by simp; omega) rfl rfl rfl rfl ?_; intro v' w6 hown6 hg6 hat6; obtain ⟨A6, k6, rfl, _⟩ := own_rdK hown6)
                    replace hg6 := grownBy_of_alloc hg6
                    have hbt6 : Below w.heap.size w w6 := hbt.grown hg6 hbt.size (fun g hg => (HROW.out.lt g hg).1)
                    have hmem6 := hmem.app (x := (⟨m0, m1, m2, m3, lw, lm⟩, .slice A5 nw k5, .slice P5 nm j5)) hg6 (by rw [← HMS.out]; exact hown6) (by rw [← HNW.out]; exact hov) (by rw [← HNM.out]; exact hou) ⟨ok1, ok2, by rw [← HNW.out]; exact ok3⟩
                    go_meet
                    exact ⟨A6, ms + 1, k6, msgs ++ [((⟨m0, m1, m2, m3, lw, lm⟩ : Mg), Value.slice A5 nw k5, Value.slice P5 nm j5)], rfl, by rw [List.length_append, HMS.out]; rfl, by omega, fun x hx => by
                      rcases List.mem_append.1 hx with hx | hx
                      · exact HST2.out x hx
                      · rw [List.mem_singleton] at hx; subst hx; exact HSN.out, hmem6, hbt6⟩
                  · subst hE
                    go_wp2_with fail
                    go_meet
                    exact ⟨As, ms, ks, msgs, rfl, HMS.out, by omega, HST2.out, hmem, hbt⟩
                case rest =>
                  obtain ⟨As', ms', ks', msgs', rfl, hms', hmk', hst', hmem, hbt⟩ := hcut
                  have HMS' := Lib.hid hms'
                  have HST3 := Lib.hid hst'
                  clear hms' hst' HE HST2 hmk HMS HSV5b HNW HNM ok1 ok2 ok3
                  have HSH3 := HSH2
                  clear HSH2
                  obtain ⟨W6, rfl⟩ : ∃ W6 : World, W6 = wc := ⟨_, rfl⟩
                  have c3 := (hbt.cell (p := ⟨(ad.add (k * 5)).block, (ad.add (k * 5)).off + 3, none⟩) (by dsimp only; rw [add_block]; exact hab)).trans w3'
                  have c4 := (hbt.cell (p := ⟨(ad.add (k * 5)).block, (ad.add (k * 5)).off + 4, none⟩) (by dsimp only; rw [add_block]; exact hab)).trans w4
                  cases comes
                  · clear c3
                    go_wp2
                    go_roundw
                    case rel => exact ⟨k + 1, tt, msgs', _, _, by omega, by go_num, rfl, httn, by rw [← HMS'.out]; omega, HSH3.out, HST3.out, hmem, hbt⟩
                    case measure => simp [intOf]; omega
                  · by_cases hm0 : ms' = 0
                    · have d7 : ((ms' : Int) == 0) = true := by simp; omega
                      have HM0 := Lib.hid hm0
                      clear hm0 c3
                      go_wp2
                      go_roundw
                      case rel => exact ⟨k + 1, tt, msgs', _, _, by omega, by go_num, rfl, httn, by rw [← HMS'.out]; omega, HSH3.out, HST3.out, hmem, hbt⟩
                      case measure => simp [intOf]; omega
                    · have d7 : ((ms' : Int) == 0) = false := by simp; omega
                      go_wp2_with fail
                      clear c3 c4
                      obtain ⟨q, hq, hqm⟩ : ∃ q : Nat, (which : Int) % (ms' : Int) = (q : Int) ∧ q < ms' := by
                        have e1 := Int.emod_nonneg (which : Int) (show ((ms' : Int)) ≠ 0 by omega)
                        have e2 := Int.emod_lt_of_pos (which : Int) (show 0 < ((ms' : Int)) by omega)
                        exact ⟨((which : Int) % (ms' : Int)).toNat, by omega, by omega⟩
                      have hq2 : (which : Int).tmod (ms' : Int) = (q : Int) := by rw [Int.tmod_eq_emod_of_nonneg (by omega)]; exact hq
                      have hql : q < msgs'.length := by rw [← HMS'.out]; exact hqm
                      obtain ⟨ad6, hAs, e0, e1, e2, e3, e4, e5⟩ := hmem.at_ HMS'.out hqm hql
                      subst hAs
                      have hx := hmem.each _ (List.getElem_mem hql)
                      have hxo := hmem.okm _ (List.getElem_mem hql)
                      have HSQ := Lib.hid (HST3.out _ (List.getElem_mem hql))
                      generalize msgs'[q] = x at *
                      obtain ⟨⟨x0, x1, x2, x3, lw', lm'⟩, s1, s2⟩ := x
                      dsimp only at *
                      obtain ⟨hx1, hx2⟩ := hx
                      obtain ⟨hxo1, hxo2, hxo3⟩ := hxo
                      obtain ⟨Aw, kw, rfl, qw⟩ := own_rdP hx1 hxo1
                      obtain ⟨Am, km, rfl, qm⟩ := own_rdM hx2 hxo2
                      clear hx1 hx2
                      obtain ⟨nw', hnw'⟩ : ∃ z, z = lw'.length := ⟨_, rfl⟩
                      obtain ⟨nm', hnm'⟩ : ∃ z, z = lm'.length := ⟨_, rfl⟩
                      rw [← hnw'] at qw e4 hxo3
                      rw [← hnm'] at qm e5
                      clear hnw' hnm'
                      obtain ⟨A', c', hcc, qc⟩ := own_rdP hmem.week hmem.okc
                      injection hcc with hc1 hc2 hc3
                      subst hc1 hc3
                      dsimp only at qc
                      rw [← HNC.out] at qc
                      clear hc2
                      have hnc70 : nc ≤ 70 := by have := shows_len HSH3.out HV2.out; dsimp only at this; rw [← HNC.out] at this; exact this
                      have b0 := cell_of_row W6 bC 0 _ _ _ hmem.box
                      have b1 := cell_of_row W6 bC 1 _ _ _ hmem.box
                      simp only [List.getElem?_toArray, List.getElem?_cons_zero, List.getElem?_cons_succ] at b0 b1
                      have c3 := (hbt.cell (p := ⟨(ad.add (k * 5)).block, (ad.add (k * 5)).off + 3, none⟩) (by dsimp only; rw [add_block]; exact hab)).trans w3'
                      have HOKX := Lib.hid (takeC_ok (c := ⟨cno, lc⟩) (m := ⟨x0, x1, x2, x3, lw', lm'⟩) qc.2 qw.2 qm.2)
                      have HTK := Lib.hid (take_sent HSH3.out HSQ.out (by rw [hl.out]; exact httn) (by rw [hl.out]; omega))
                      have HT := Lib.hid (fun (W' : World) h1 h2 h3 => take_any x0 x1 x2 x3 cno Ac Aw Am nc kc nw' kw nm' km lc lw' lm' W' h1 h2 h3 (by omega) (by omega))
                      generalize takeC ⟨cno, lc⟩ ⟨x0, x1, x2, x3, lw', lm'⟩ = X at *
                      generalize takeE ⟨cno, lc⟩ ⟨x0, x1, x2, x3, lw', lm'⟩ = F at *
                      obtain ⟨xno, lx⟩ := X
                      dsimp only at HOKX HTK HT
                      clear HSQ hxo1 hxo2
                      have hkeep : Hid (∀ w' : World, Below W6.heap.size W6 w' → w'.cell? (ad6.add (q * 6)) = some (.int .i64 x0) ∧ w'.cell? ⟨(ad6.add (q * 6)).block, (ad6.add (q * 6)).off + 1, none⟩ = some (.int .i64 x1) ∧ w'.cell? ⟨(ad6.add (q * 6)).block, (ad6.add (q * 6)).off + 2, none⟩ = some (.int .i64 x2) ∧ w'.cell? ⟨(ad6.add (q * 6)).block, (ad6.add (q * 6)).off + 3, none⟩ = some (.int .i64 x3) ∧ w'.cell? ⟨(ad6.add (q * 6)).block, (ad6.add (q * 6)).off + 4, none⟩ = some (.slice Aw nw' kw) ∧ w'.cell? ⟨(ad6.add (q * 6)).block, (ad6.add (q * 6)).off + 5, none⟩ = some (.slice Am nm' km) ∧ w'.cell? ⟨bC, 0, none⟩ = some (.int .i64 cno) ∧ w'.cell? ⟨bC, 1, none⟩ = some (.slice Ac nc kc) ∧ w'.cell? ⟨(ad.add (k * 5)).block, (ad.add (k * 5)).off + 3, none⟩ = some (.int .u8 (which : Int))) := fun w' hW => ⟨cell_below e0 hW, cell_below e1 hW, cell_below e2 hW, cell_below e3 hW, cell_below e4 hW, cell_below e5 hW, cell_below b0 hW, cell_below b1 hW, cell_below c3 hW⟩
                      obtain ⟨nx, hnx⟩ : ∃ z, z = lx.length := ⟨_, rfl⟩
                      have HNX := Lib.hid hnx
                      clear hnx
                      have qcd : RdP W6.drew W6.drew.heap.size Ac nc kc lc := qc
                      have qwd : RdP W6.drew W6.drew.heap.size Aw nw' kw lw' := qw
                      have qmd : RdM W6.drew W6.drew.heap.size Am nm' km lm' := qm
                      have hBA : Below W6.heap.size W6 ((W6.alloc (.cells #[.int .i64 0, .slice none 0 0] 27)).drew) := ((Below.refl _ _).alloc (Nat.le_refl _) _).drew
                      have qcA := (qc.below hBA).more hBA.size
                      have qwA := (qw.below hBA).more hBA.size
                      have qmA := (qm.below hBA).more hBA.size
                      have K1 : Hid (∀ w7, Below W6.drew.heap.size W6.drew w7 → Below W6.heap.size W6 w7) := fun w7 hb => below_undrew hb
                      have K2 : Hid (∀ w7, Below (W6.alloc (.cells #[.int .i64 0, .slice none 0 0] 27)).drew.heap.size (W6.alloc (.cells #[.int .i64 0, .slice none 0 0] 27)).drew w7 → Below W6.heap.size W6 w7) := fun w7 hb => hBA.trans (hb.mono hBA.size)
                      have KB : Hid (∀ w7, Below (W6.alloc (.cells #[.int .i64 0, .slice none 0 0] 27)).drew.heap.size (W6.alloc (.cells #[.int .i64 0, .slice none 0 0] 27)).drew w7 → w7.heap[W6.heap.size]? = some (.cells #[.int .i64 0, .slice none 0 0] 27)) := fun w7 hb => blk_below (w := (W6.alloc (.cells #[.int .i64 0, .slice none 0 0] 27)).drew) (heap_alloc_new W6 _) hb
                      go_cut [12, 13] (fun s12 s13 wx => ∃ (g : Nat) (A7 : Option Addr) (k7 : Nat), s12 = .pointer (some ⟨g, 0, none⟩) ∧ s13 = .int .i64 F ∧ wx.heap[g]? = some (.cells #[.int .i64 xno, .slice A7 nx k7] 27) ∧ wx.ownsRow W6.heap.size 60 2 (.slice A7 nx k7) nx (pv lx) ∧ Below W6.heap.size W6 wx ∧ W6.heap.size ≤ g)
                      case first =>
                        have i0 : (0 : Int) ≤ (k : Int) := by omega
                        have i1 : (k : Int) < (m : Int) := by omega
                        have i2 : (0 : Int) ≤ (q : Int) := by omega
                        have i3 : (q : Int) < (ms' : Int) := by omega
                        have i4 : ¬ ((ms' : Int) = 0) := by omega
                        have i5 : IntKind.i64.wrap (q : Int) = (q : Int) := IntWalk.i64_in _ (by omega)
                        have i6 : IntKind.i64.wrap (which : Int) = (which : Int) := IntWalk.i64_in _ (by omega)
                        go_region_held3 (fun w' => w'.cell? (ad6.add (q * 6)) = some (.int .i64 x0) ∧ w'.cell? ⟨(ad6.add (q * 6)).block, (ad6.add (q * 6)).off + 1, none⟩ = some (.int .i64 x1) ∧ w'.cell? ⟨(ad6.add (q * 6)).block, (ad6.add (q * 6)).off + 2, none⟩ = some (.int .i64 x2) ∧ w'.cell? ⟨(ad6.add (q * 6)).block, (ad6.add (q * 6)).off + 3, none⟩ = some (.int .i64 x3) ∧ w'.cell? ⟨(ad6.add (q * 6)).block, (ad6.add (q * 6)).off + 4, none⟩ = some (.slice Aw nw' kw) ∧ w'.cell? ⟨(ad6.add (q * 6)).block, (ad6.add (q * 6)).off + 5, none⟩ = some (.slice Am nm' km) ∧ w'.cell? ⟨bC, 0, none⟩ = some (.int .i64 cno) ∧ w'.cell? ⟨bC, 1, none⟩ = some (.slice Ac nc kc) ∧ w'.cell? ⟨(ad.add (k * 5)).block, (ad.add (k * 5)).off + 3, none⟩ = some (.int .u8 (which : Int)))
                          (first
                            | go_keep
                            | exact hkeep.out _ (K1.out _ hb7)
                            | exact hkeep.out _ (K2.out _ hb7)
                            | exact hkeep.out _ ((K1.out _ hb7).alloc (K1.out _ hb7).size _)
                            | exact hkeep.out _ (((K2.out _ hb7).setCell (p := ⟨W6.heap.size, 0, none⟩) (Nat.le_refl _) _).setCell (p := ⟨W6.heap.size, 1, none⟩) (Nat.le_refl _) _))
                          (first
                            | (go_at_call 21; ((with_reducible refine (HT.out _ qcd qwd qmd).mono ?_); rintro e w7 ⟨v7, rfl, ho7, hb7⟩; obtain ⟨A7, k7, rfl, q7⟩ := own_rdP ho7 HOKX.out))
                            | (go_at_call 21; ((with_reducible refine (HT.out _ qcA qwA qmA).mono ?_); rintro e w7 ⟨v7, rfl, ho7, hb7⟩; obtain ⟨A7, k7, rfl, q7⟩ := own_rdP ho7 HOKX.out; have bk := KB.out _ hb7; have y0 := cell_of_row w7 W6.heap.size 0 _ _ _ bk; have y1 := cell_of_row w7 W6.heap.size 1 _ _ _ bk; have f0 := frozen_of_row w7 W6.heap.size 0 _ _ bk; have f1 := frozen_of_row w7 W6.heap.size 1 _ _ bk; simp only [List.getElem?_toArray, List.getElem?_cons_zero, List.getElem?_cons_succ] at y0 y1)))
                        all_goals (go_wp2_with fail)
                        all_goals go_meet
                        all_goals (rw [HNX.out])
                        all_goals first
                          | exact ⟨w7.heap.size, A7, k7, rfl, rfl, heap_alloc_new w7 _, ho7.alloc _, (K1.out _ hb7).alloc (K1.out _ hb7).size _, (K1.out _ hb7).size⟩
                          | exact ⟨W6.heap.size, A7, k7, rfl, rfl, heap_setCell_same _ _ 1 _ _ _ (heap_setCell_same w7 _ 0 _ _ _ (KB.out _ hb7)), own_set (own_set (own_mono ho7 hBA.size) (fun g hg => by have := (ho7.lt g hg).1; simp at this ⊢; omega)) (fun g hg => by have := (ho7.lt g hg).1; simp at this ⊢; omega), ((K2.out _ hb7).setCell (p := ⟨W6.heap.size, 0, none⟩) (Nat.le_refl _) _).setCell (p := ⟨W6.heap.size, 1, none⟩) (Nat.le_refl _) _, Nat.le_refl _⟩
                      case rest =>
                        obtain ⟨g, A7, k7, rfl, rfl, bx, ho7, hb7, hg7⟩ := hcut
                        clear hkeep K1 K2 KB hBA qcd qwd qmd qcA qwA qmA qc qw qm e0 e1 e2 e3 e4 e5 b0 b1 c3 HT hq hq2
                        replace ho7 := own_mono ho7 hbt.size
                        replace hmem := hmem.below hb7
                        replace hbt := hbt.trans (hb7.mono hbt.size)
                        clear hb7
                        rcases HTK.out with ⟨rfl, hlt, hshx⟩ | rfl | rfl
                        · have dx : decide (xno ≤ cno) = false := decide_eq_false (by omega)
                          have HSHX := Lib.hid hshx
                          clear hshx HTK
                          have x0' := cell_of_row wc g 0 _ _ _ bx
                          have x1' := cell_of_row wc g 1 _ _ _ bx
                          have b0 := cell_of_row wc bC 0 _ _ _ hmem.box
                          have b1 := cell_of_row wc bC 1 _ _ _ hmem.box
                          simp only [List.getElem?_toArray, List.getElem?_cons_zero, List.getElem?_cons_succ] at x0' x1' b0 b1
                          have f0 := frozen_of_row wc bC 0 _ _ hmem.box
                          have f1 := frozen_of_row wc bC 1 _ _ hmem.box
                          go_wp2_with fail
                          clear x0' x1' b0 b1 f0 f1
                          have hmem8 := hmem.put (cl' := ⟨xno, lx⟩) (cs' := .slice A7 nx k7) (by dsimp only; rw [← HNX.out]; exact ho7) HOKX.out
                          have hbt8 := (hbt.setCell (p := ⟨bC, 0, none⟩) hs3 (.int .i64 xno)).setCell (p := ⟨bC, 1, none⟩) hs3 (.slice A7 nx k7)
                          obtain ⟨V8, hV8⟩ : ∃ V8, V8 = (wc.setCell ⟨bC, 0, none⟩ (.int .i64 xno)).setCell ⟨bC, 1, none⟩ (.slice A7 nx k7) := ⟨_, rfl⟩
                          dsimp only at hmem8
                          rw [← hV8] at hmem8 hbt8 ⊢
                          clear hV8 hmem hbt bx ho7
                          have hmem := hmem8
                          have hbt := hbt8
                          clear hmem8 hbt8 HSH3
                          have HSH3 := HSHX
                          clear HSHX
                          obtain ⟨A', c', hcc, qc⟩ := own_rdP hmem.week hmem.okc
                          injection hcc with hc1 hc2 hc3
                          subst hc1 hc3
                          dsimp only at qc
                          rw [← HNX.out] at qc
                          clear hc2
                          have h := (h0.below hbt).more hbt.size
                          have hup := h.upto httn
                          have b0 := cell_of_row V8 bC 0 _ _ _ hmem.box
                          have b1 := cell_of_row V8 bC 1 _ _ _ hmem.box
                          simp only [List.getElem?_toArray, List.getElem?_cons_zero, List.getElem?_cons_succ] at b0 b1
                          have y0' := fun x : Ext V8.heap.size V8 => cell_below b0 x.ok
                          have y1' := fun x : Ext V8.heap.size V8 => cell_below b1 x.ok
                          clear b0 b1
                          have i0 : (0 : Int) ≤ (tt : Int) := by omega
                          have i1 : (tt : Int) ≤ (c : Int) := by omega
                          have i2 : tt ≤ c := by omega
                          refine wp_region_ext V8.heap.size (by kernel_rfl) (by kernel_rfl) ?_
                          repeat (go_big_quiet_step (first | (go_at_call 24; (with_reducible refine ext_call (Nat.le_refl _) (shows_any A tt c (vs.take tt) xno A7 nx k7 lx _ (hup.ext _) (qc.ext _) (by omega) (shows_take HSH3.out))))))
                          refine wpQuiet_nil ?_
                          rintro _ ⟨⟨W9, hW9⟩, rfl⟩
                          clear y0' y1' h hup qc
                          replace hmem := hmem.below hW9
                          replace hbt := hbt.trans (hW9.mono hbt.size)
                          go_wp2
                          go_roundw
                          case rel => exact ⟨k + 1, tt, msgs', ⟨xno, lx⟩, _, by omega, by go_num, rfl, httn, by rw [← HMS'.out]; omega, HSH3.out, HST3.out, hmem, hbt⟩
                          case measure => simp [intOf]; omega
                        · clear HTK
                          go_wp2_with fail
                          obtain ⟨A', c', hcc, qc⟩ := own_rdP hmem.week hmem.okc
                          injection hcc with hc1 hc2 hc3
                          subst hc1 hc3
                          dsimp only at qc
                          rw [← HNC.out] at qc
                          clear hc2
                          have h := (h0.below hbt).more hbt.size
                          have hup := h.upto httn
                          have b0 := cell_of_row wc bC 0 _ _ _ hmem.box
                          have b1 := cell_of_row wc bC 1 _ _ _ hmem.box
                          simp only [List.getElem?_toArray, List.getElem?_cons_zero, List.getElem?_cons_succ] at b0 b1
                          have y0' := fun x : Ext wc.heap.size wc => cell_below b0 x.ok
                          have y1' := fun x : Ext wc.heap.size wc => cell_below b1 x.ok
                          clear b0 b1
                          have i0 : (0 : Int) ≤ (tt : Int) := by omega
                          have i1 : (tt : Int) ≤ (c : Int) := by omega
                          have i2 : tt ≤ c := by omega
                          refine wp_region_ext wc.heap.size (by kernel_rfl) (by kernel_rfl) ?_
                          repeat (go_big_quiet_step (first | (go_at_call 24; (with_reducible refine ext_call (Nat.le_refl _) (shows_any A tt c (vs.take tt) cno Ac nc kc lc _ (hup.ext _) (qc.ext _) (by omega) (shows_take HSH3.out))))))
                          refine wpQuiet_nil ?_
                          rintro _ ⟨⟨W9, hW9⟩, rfl⟩
                          clear y0' y1' h hup qc
                          replace hmem := hmem.below hW9
                          replace hbt := hbt.trans (hW9.mono hbt.size)
                          go_wp2
                          go_roundw
                          case rel => exact ⟨k + 1, tt, msgs', ⟨cno, lc⟩, _, by omega, by go_num, rfl, httn, by rw [← HMS'.out]; omega, HSH3.out, HST3.out, hmem, hbt⟩
                          case measure => simp [intOf]; omega
                        · clear HTK
                          go_wp2_with fail
                          obtain ⟨A', c', hcc, qc⟩ := own_rdP hmem.week hmem.okc
                          injection hcc with hc1 hc2 hc3
                          subst hc1 hc3
                          dsimp only at qc
                          rw [← HNC.out] at qc
                          clear hc2
                          have h := (h0.below hbt).more hbt.size
                          have hup := h.upto httn
                          have b0 := cell_of_row wc bC 0 _ _ _ hmem.box
                          have b1 := cell_of_row wc bC 1 _ _ _ hmem.box
                          simp only [List.getElem?_toArray, List.getElem?_cons_zero, List.getElem?_cons_succ] at b0 b1
                          have y0' := fun x : Ext wc.heap.size wc => cell_below b0 x.ok
                          have y1' := fun x : Ext wc.heap.size wc => cell_below b1 x.ok
                          clear b0 b1
                          have i0 : (0 : Int) ≤ (tt : Int) := by omega
                          have i1 : (tt : Int) ≤ (c : Int) := by omega
                          have i2 : tt ≤ c := by omega
                          refine wp_region_ext wc.heap.size (by kernel_rfl) (by kernel_rfl) ?_
                          repeat (go_big_quiet_step (first | (go_at_call 24; (with_reducible refine ext_call (Nat.le_refl _) (shows_any A tt c (vs.take tt) cno Ac nc kc lc _ (hup.ext _) (qc.ext _) (by omega) (shows_take HSH3.out))))))
                          refine wpQuiet_nil ?_
                          rintro _ ⟨⟨W9, hW9⟩, rfl⟩
                          clear y0' y1' h hup qc
                          replace hmem := hmem.below hW9
                          replace hbt := hbt.trans (hW9.mono hbt.size)
                          go_wp2
                          go_roundw
                          case rel => exact ⟨k + 1, tt, msgs', ⟨cno, lc⟩, _, by omega, by go_num, rfl, httn, by rw [← HMS'.out]; omega, HSH3.out, HST3.out, hmem, hbt⟩
                          case measure => simp [intOf]; omega
          · obtain rfl : k = m := by omega
            have d5 : decide ((k : Int) < (k : Int)) = false := by simp
            go_wp2_with fail
            go_ret
            exact ⟨rfl, hbt⟩
      · rw [show errB (checkB vs) = 1 by rw [Bool.not_eq_true] at hck; rw [hck]; rfl]
        go_wp2_with fail
        go_ret
        exact ⟨rfl, hbt⟩
    · have d1 : decide ((30 : Int) < (m : Int)) = true := by simp; omega
      go_wp2_with fail
      go_ret
      exact ⟨rfl, hbt⟩
end Go.Proofs.Ytmighpfjjaaknaa
