/-
  The walk of the reference's All.
-/
import Derived.Test.YtojbjaklngdlcaaGreatDoorRCk
import Derived.Test.YtojbjaklngdlcaaGreatDoorRAlP
namespace Go.Proofs.YtojbjaklngdlcaaGreatDoor
open Go.RowKit Go.Shelf
set_option linter.unusedVariables false
set_option linter.unusedSimpArgs false

set_option maxRecDepth 100000 in
set_option maxHeartbeats 8000000 in
theorem rAll4_any (f : Sc.Five) (s : Sc.Sch) (most : Int) (w : World) (h : Sc.RdSch w w.heap.size f s) (hz : f.nS ≤ 80 ∧ f.nR ≤ 80 ∧ f.nP ≤ 80 ∧ f.nG ≤ 80 ∧ f.nL ≤ 80) (hmost : most ≤ 300) (hpos : Sc.chk s = 0 → 0 < f.nS ∧ 0 < f.nR) :
    Calls Tryz.prog 23 #[.agg f.vals, .int .i64 most] w (AllPost (Wk.allR s most) w) := by
  have HLN := Lib.hid h.lens
  have hs : f.nS ≤ 1000 ∧ f.nR ≤ 1000 ∧ f.nL ≤ 1000 := ⟨by omega, by omega, by omega⟩
  have HSS := Lib.hid hs
  have mS : f.nS ≤ f.cS ∧ f.cS ≤ 9223372036854775807 := ⟨h.slots.le, h.slots.max⟩
  have mR : f.nR ≤ f.cR ∧ f.cR ≤ 9223372036854775807 := ⟨h.rooms.le, h.rooms.max⟩
  have mL : f.nL ≤ f.cL ∧ f.cL ≤ 9223372036854775807 := ⟨h.lessons.le, h.lessons.max⟩
  obtain ⟨D, hD⟩ : ∃ D, D = f.nS * f.nR := ⟨_, rfl⟩
  obtain ⟨R, hR⟩ : ∃ R, R = Wk.allR s most := ⟨_, rfl⟩
  rw [← hR]
  have HR : Hid (R = if Sc.chk s ≠ 0 then ([], Sc.chk s) else if most < 0 then ([], 1) else if most < ((D ^ f.nL : Nat) : Int) then ([], 2) else ((List.range (D ^ f.nL)).map (Wk.dec f.nS f.nR f.nL), 0)) := by
    show _ = _
    rw [hR]; unfold Wk.allR
    rw [HLN.out.1, HLN.out.2.1, HLN.out.2.2.2.2, hD]
  clear hR
  have HD := Lib.hid hD
  have HP := Lib.hid hpos
  clear hD hpos
  have hbt := Below.refl w.heap.size w
  unfold Sc.Five.vals
  obtain ⟨V1, hV⟩ : ∃ V1, V1 = w.alloc (.cells #[.slice f.aS f.nS f.cS, .slice f.aR f.nR f.cR, .slice f.aP f.nP f.cP, .slice f.aG f.nG f.cG, .slice f.aL f.nL f.cL] 28) := ⟨_, rfl⟩
  have b0 := blk_new hV
  have hb := below_new hV
  replace h := (h.below hb).more hb.size
  replace hbt := hbt.trans (hb.mono hbt.size)
  clear hb
  have HSV1 : Hid (V1.heap.size = w.heap.size + 1) := by show V1.heap.size = _; rw [hV, World.size_alloc]
  have HVV1 := Lib.hid hV.symm
  clear hV
  clear HSV1
  have c0 := blk_cell (j := 0) b0
  simp only [List.getElem?_toArray, List.getElem?_cons_zero, List.getElem?_cons_succ] at c0
  have c1 := blk_cell (j := 1) b0
  simp only [List.getElem?_toArray, List.getElem?_cons_zero, List.getElem?_cons_succ] at c1
  have c2 := blk_cell (j := 2) b0
  simp only [List.getElem?_toArray, List.getElem?_cons_zero, List.getElem?_cons_succ] at c2
  have c3 := blk_cell (j := 3) b0
  simp only [List.getElem?_toArray, List.getElem?_cons_zero, List.getElem?_cons_succ] at c3
  have c4 := blk_cell (j := 4) b0
  simp only [List.getElem?_toArray, List.getElem?_cons_zero, List.getElem?_cons_succ] at c4
  rw [← HVV1.out] at c0 c1 c2 c3 c4
  go_enter Tryz.func23, Tryz.ntmps23
  go_wp2_with fail
  rw [HVV1.out]
  clear HVV1 c0 c1 c2 c3 c4
  refine (rCheck3_any f s V1 h hz).mono ?_
  rintro e w3 ⟨rfl, hb⟩
  replace h := (h.below hb).more hb.size
  replace b0 := blk_below b0 hb
  replace hbt := hbt.trans (hb.mono hbt.size)
  clear hb
  clear h hz
  by_cases hE : Sc.chk s ≠ 0
  · have HC : Hid (R = ([], Sc.chk s)) := by show _ = _; rw [HR.out, if_pos hE]
    generalize Sc.chk s = er at *
    have dE : (er != 0) = true := by simp; omega
    go_wp2_with fail
    go_ret2
    exact allpost_err HC.out hbt
  · have hE : Sc.chk s = 0 := Classical.not_not.1 hE
    have hp := HP.out hE
    rw [hE] at HR ⊢
    clear hE HP
    by_cases hneg : most < 0
    · have HC : Hid (R = ([], 1)) := by show _ = _; rw [HR.out, if_neg (by simp), if_pos hneg]
      have d1 : decide (most < 0) = true := by simp; omega
      go_wp2_with fail
      go_ret2
      exact allpost_err HC.out hbt
    · have d1 : decide (most < 0) = false := by simp; omega
      obtain ⟨m, rfl⟩ : ∃ m : Nat, most = (m : Int) := ⟨most.toNat, by omega⟩
      have HR2 : Hid (R = if m < D ^ f.nL then ([], 2) else ((List.range (D ^ f.nL)).map (Wk.dec f.nS f.nR f.nL), 0)) := by
        show _ = _
        rw [HR.out, if_neg (by simp), if_neg hneg]
        congr 1
        exact propext Int.ofNat_lt
      have HD0 : Hid (0 < D) := by show 0 < D; rw [HD.out]; exact Nat.mul_pos hp.1 hp.2
      clear hneg HR
      have hDle : D ≤ 1000000 := by rw [HD.out]; exact Nat.mul_le_mul hs.1 hs.2.1
      obtain ⟨V4, hV⟩ : ∃ V4, V4 = w3.alloc (.cells #[.slice none 0 0] 31) := ⟨_, rfl⟩
      have b4 := blk_new hV
      have hb := below_new hV
      have HV4 := Lib.hid hV.symm
      clear hV
      replace b0 := blk_below b0 hb
      replace hbt := hbt.trans (hb.mono hbt.size)
      clear hb
      have c0 := blk_cell (j := 0) b0
      simp only [List.getElem?_toArray, List.getElem?_cons_zero, List.getElem?_cons_succ] at c0
      have c1 := blk_cell (j := 1) b0
      simp only [List.getElem?_toArray, List.getElem?_cons_zero, List.getElem?_cons_succ] at c1
      have c2 := blk_cell (j := 2) b0
      simp only [List.getElem?_toArray, List.getElem?_cons_zero, List.getElem?_cons_succ] at c2
      have c3 := blk_cell (j := 3) b0
      simp only [List.getElem?_toArray, List.getElem?_cons_zero, List.getElem?_cons_succ] at c3
      have c4 := blk_cell (j := 4) b0
      simp only [List.getElem?_toArray, List.getElem?_cons_zero, List.getElem?_cons_succ] at c4
      have hO : RdWs V4 V4.heap.size (some ⟨w3.heap.size, 0, none⟩) (D ^ 0) 1 ((List.range (D ^ 0)).map (Wk.dec f.nS f.nR 0)) := RdWs.one b4 _ _
      rw [← HV4.out] at c0 c1 c2 c3 c4
      go_wp2_with fail
      rw [HV4.out]
      clear c0 c1 c2 c3 c4 HV4 b4
      generalize w3.heap.size = bO at *
      go_loopw [7, 8] (fun ov iv wr => ∃ (k : Nat) (A : Option Addr) (c : Nat), k ≤ f.nL ∧ iv = .int .i64 k ∧ ov = .slice A ((D ^ k : Nat)) c ∧ D ^ k ≤ 300 ∧ RdWs wr wr.heap.size A (D ^ k) c ((List.range (D ^ k)).map (Wk.dec f.nS f.nR k)) ∧ wr.heap[w.heap.size]? = some (.cells #[.slice f.aS f.nS f.cS, .slice f.aR f.nR f.cR, .slice f.aP f.nP f.cP, .slice f.aG f.nG f.cG, .slice f.aL f.nL f.cL] 28) ∧ Below w.heap.size w wr) (fun _ iv _ => f.nL - (intOf iv).toNat)
      case atStart => exact ⟨0, _, _, by omega, rfl, rfl, by simp, hO, b0, hbt⟩
      case round =>
        clear hO b0 hbt
        obtain ⟨k, A, c, hk, rfl, rfl, h300, hO, b0, hbt⟩ := hrel
        have o1 := hO.max
        have o2 := hO.le
        generalize wr = wo at *
        obtain ⟨N, hN⟩ : ∃ N, N = D ^ k := ⟨_, rfl⟩
        rw [← hN] at h300 hO o2 ⊢
        have HN := Lib.hid hN
        clear hN
        have c0 := blk_cell (j := 0) b0
        simp only [List.getElem?_toArray, List.getElem?_cons_zero, List.getElem?_cons_succ] at c0
        have c1 := blk_cell (j := 1) b0
        simp only [List.getElem?_toArray, List.getElem?_cons_zero, List.getElem?_cons_succ] at c1
        have c2 := blk_cell (j := 2) b0
        simp only [List.getElem?_toArray, List.getElem?_cons_zero, List.getElem?_cons_succ] at c2
        have c3 := blk_cell (j := 3) b0
        simp only [List.getElem?_toArray, List.getElem?_cons_zero, List.getElem?_cons_succ] at c3
        have c4 := blk_cell (j := 4) b0
        simp only [List.getElem?_toArray, List.getElem?_cons_zero, List.getElem?_cons_succ] at c4
        have hb0 := b0
        have hO1 := hO
        have hbt0 := hbt
        by_cases hkn : k < f.nL
        · have d2 : decide ((k : Int) < (f.nL : Int)) = true := by simp; omega
          have hprod : (f.nS : Int) * (f.nR : Int) ≤ 1000000 := by have := Nat.mul_le_mul hs.1 hs.2.1; have := Int.ofNat_le.2 this; simpa using this
          have hprod0 : 0 < (f.nS : Int) * (f.nR : Int) := Int.mul_pos (by omega) (by omega)
          have hprodD : (f.nS : Int) * (f.nR : Int) = (D : Int) := by rw [HD.out]; simp
          have hD0 := HD0.out
          have hwd : wrap64 ((m : Int) / (D : Int)) = ((m / D : Nat) : Int) := wrap_div (by omega)
          obtain ⟨q, hq⟩ : ∃ q, q = m / D := ⟨_, rfl⟩
          rw [← hq] at hwd
          have HQ := Lib.hid hq
          have hqm : q ≤ 300 := by rw [hq]; exact Nat.le_trans (Nat.div_le_self _ _) (by omega)
          clear hq
          by_cases hgt : q < N
          · have d3 : decide ((q : Int) < (N : Int)) = true := by simp; omega
            have d3' : decide (q < N) = true := by simp; omega
            have hlt : m < D ^ f.nL := by
              have h1 : m < N * D := (Nat.div_lt_iff_lt_mul HD0.out).1 (by rw [← HQ.out]; exact hgt)
              rw [HN.out, ← Nat.pow_succ] at h1
              exact Nat.lt_of_lt_of_le h1 (Nat.pow_le_pow_right HD0.out (by omega))
            have HC : Hid (R = ([], 2)) := by show _ = _; rw [HR2.out, if_pos hlt]
            clear hlt
            go_wp2_with fail
            go_ret2
            exact allpost_err HC.out hbt
          · have d3 : decide ((q : Int) < (N : Int)) = false := by simp; omega
            have d3' : decide (q < N) = false := by simp; omega
            have hND : N * D ≤ 300 := by
              have h1 : N * D ≤ m := (Nat.le_div_iff_mul_le HD0.out).1 (by rw [← HQ.out]; omega)
              omega
            have HND : Hid (D ^ (k + 1) = N * D) := by show _ = _; rw [Nat.pow_succ, HN.out]
            obtain ⟨V7, hV⟩ : ∃ V7, V7 = wo.alloc (.cells #[] 31) := ⟨_, rfl⟩
            have b7 := blk_new hV
            have hb := below_new hV
            replace b0 := blk_below b0 hb
            replace hO := (hO.below hb).more hb.size
            replace hbt := hbt.trans (hb.mono hbt.size)
            clear hb
            have HSV7 : Hid (V7.heap.size = wo.heap.size + 1) := by show V7.heap.size = _; rw [hV, World.size_alloc]
            have HVV7 := Lib.hid hV.symm
            clear hV
            clear HSV7
            have hM : MoreAt wo (k + 1) f.nS f.nR (0 * D) (.slice (some ⟨wo.heap.size, 0, none⟩) 0 0) V7 := by
              rw [Nat.zero_mul]
              refine ⟨[], ?_, by simp, ?_⟩
              · rw [← HVV7.out]; exact World.ownsRow_lit wo #[] 0 (Nat.le_refl _) (by unfold maxLen; omega) rfl
              · rw [← HVV7.out]; exact below_new rfl
            go_wp2_with fail
            rw [HVV7.out]
            clear c0 c1 c2 c3 c4 HVV7 hprodD hprod hprod0 hwd hqm d3 d3'
            clear hO b0 b7
            go_loopw [10, 11] (fun mv jv W => ∃ (j : Nat), j ≤ N ∧ jv = .int .i64 j ∧ MoreAt wo (k + 1) f.nS f.nR (j * D) mv W) (fun _ jv _ => N - (intOf jv).toNat)
            case atStart => exact ⟨0, by omega, rfl, hM⟩
            case round =>
              clear hM
              obtain ⟨j, hj, rfl, hM⟩ := hrel
              by_cases hjN : j < N
              · have d4 : decide ((j : Int) < (N : Int)) = true := by simp; omega
                have d4' : decide (j < N) = true := by simp; omega
                have hM0 : MoreAt wo (k + 1) f.nS f.nR (j * D + 0) _ _ := hM
                clear hM
                go_wp2_with fail
                go_loopw [10, 12] (fun mv nv W => ∃ (n : Nat), n ≤ D ∧ nv = .int .i64 n ∧ MoreAt wo (k + 1) f.nS f.nR (j * D + n) mv W) (fun _ nv _ => D - (intOf nv).toNat)
                case atStart => exact ⟨0, by omega, rfl, hM0⟩
                case round =>
                  clear hM0
                  obtain ⟨n, hn, rfl, hM⟩ := hrel
                  by_cases hnD : n < D
                  · have d5 : decide ((n : Int) < (D : Int)) = true := by simp; omega
                    have d5' : decide (n < D) = true := by simp; omega
                    have hB0 : Below wo.heap.size wo _ := hM.choose_spec.2.2
                    have hD300 : D ≤ 300 := Nat.le_trans (Nat.le_mul_of_pos_left D (show 0 < N by omega)) hND
                    have hRp := hp.2
                    go_wp2_with fail
                    refine wp_region_fixR none [0, 1, 2, 3, 4, 5, 6, 7, 8, 9, 10] (.one [] 11 (.one [] 12 (.fin []))) (by kernel_rfl) (by kernel_rfl) ?_
                    intro wd hsz hb
                    clear hsz
                    replace hM := hM.below hb
                    replace hB0 := hB0.trans (hb.mono hB0.size)
                    have b0 := blk_below hb0 hB0
                    clear hb
                    have c1 : ∀ x : ExtR none wd, x.val.cell? ⟨w.heap.size, 1, none⟩ = some (.slice f.aR f.nR f.cR) := fun x => (blk_cell (x.blk b0 (by simp))).trans rfl
                    have hq1 : wrap64 ((n : Int) / (f.nR : Int)) = ((n / f.nR : Nat) : Int) := wrap_div (by omega)
                    simp only [pick, List.map_cons, List.map_nil, List.getD_cons_zero, List.getD_cons_succ]
                    (repeat (go_big_quiet_step (fail)))
                    refine quiet_end ?_
                    clear c1
                    have hD := KeepR.refl none wd
                    refine movR_call (by kernel_rfl) (fun K hK => ?_)
                    go_simp
                    refine hK.out _ _ (hD.below (below_new rfl)) ?_
                    clear hK K
                    (try simp only [Act.put, List.setIfInBounds_toArray, List.set_cons_zero, List.set_cons_succ])
                    refine movR_call (by kernel_rfl) (fun K hK => ?_)
                    go_simp
                    obtain ⟨V9, hV⟩ : ∃ V9, V9 = wd.alloc (.cells #[.int .i64 ((n : Int) / (f.nR : Int)), .int .i64 ((n : Int) % (f.nR : Int))] 62) := ⟨_, rfl⟩
                    have b9 := blk_new hV
                    have hb := below_new hV
                    rw [← hV]
                    clear hV
                    replace hM := hM.below hb
                    replace hB0 := hB0.trans (hb.mono hB0.size)
                    replace hD := hD.below hb
                    refine hK.out _ _ hD ?_
                    clear hK K b0 hb hD
                    (try simp only [Act.put, List.setIfInBounds_toArray, List.set_cons_zero, List.set_cons_succ])
                    refine fixR_fin ?_
                    generalize wd.heap.size = bP at *
                    go_wp2_with fail
                    clear hq1
                    obtain ⟨xs, hown, hel, _⟩ := hM
                    obtain ⟨Av, cv, rfl, _⟩ := own_rd hown
                    have hNk : N = (f.nS * f.nR) ^ k := by rw [HN.out, HD.out]
                    have hgj : ((List.range N).map (Wk.dec f.nS f.nR k))[j]? = some (Wk.dec f.nS f.nR k j) := by rw [List.getElem?_map, List.getElem?_range hjN]; rfl
                    obtain ⟨ad, A1, c1, rfl, hab, x0, hI0⟩ := hO1.at_ hjN hgj
                    rw [Wk.dec_length] at x0 hI0
                    clear hgj
                    have HPV : Hid (pv (Wk.dec f.nS f.nR k j) ++ [.int .i64 ((n : Int) / (f.nR : Int)), .int .i64 ((n : Int) % (f.nR : Int))] = pv (Wk.dec f.nS f.nR (k + 1) (j * D + n))) := by
                      show _ = _
                      have h1 := Wk.dec_snoc (S := f.nS) (R := f.nR) (n := k) (k := j) (d := n) (by rw [← hNk]; exact hjN) (by rw [← HD.out]; exact hnD)
                      rw [← HD.out] at h1
                      rw [h1, pv_append]
                      congr 1
                      (try simp [pv, pcell, Wk.pla])
                    clear hNk
                    generalize Wk.dec f.nS f.nR k j = dk at *
                    obtain ⟨M, hMM⟩ : ∃ M, M = j * D + n := ⟨_, rfl⟩
                    rw [← hMM] at hown HPV ⊢
                    have hM300 : M ≤ 300 := by
                      have h1 : (j + 1) * D ≤ N * D := Nat.mul_le_mul_right D hjN
                      rw [Nat.succ_mul] at h1
                      omega
                    have HMM := Lib.hid hMM
                    clear hMM
                    refine wp_region_fixR (Value.slice Av M cv).ownBlock [0, 2, 3, 4, 5, 6, 8] (.two [] 1 (.two [] 7 (.one [] 9 (.one [] 10 (.one [] 11 (.one [] 12 (.one [] 13 (.one [] 14 (.fin []))))))) 9 (.one [] 7 (.one [] 10 (.one [] 11 (.one [] 12 (.one [] 13 (.one [] 14 (.fin [])))))))) 9 (.one [] 1 (.one [] 7 (.one [] 10 (.one [] 11 (.one [] 12 (.one [] 13 (.one [] 14 (.fin []))))))))) (by kernel_rfl) (by kernel_rfl) ?_
                    intro wd hsz hb
                    clear hsz
                    replace hown := own_below hown hb
                    replace hel : ∀ (j : Nat) (u : Value), xs[j]? = some u → ∃ A c, u = .slice A (k + 1) c ∧ wd.ownsRow wo.heap.size 62 2 u (k + 1) (pv (Wk.dec f.nS f.nR (k + 1) j)) := fun j u hu => by
                      obtain ⟨A, c, e1, e2⟩ := hel j u hu
                      exact ⟨A, c, e1, own_below e2 hb⟩
                    replace b9 := blk_below b9 hb
                    have hbw := hB0.trans (hb.mono hB0.size)
                    clear hb hB0
                    have hwo := hbw.size
                    have hadb : (ad.add j).block = ad.block := by unfold Addr.add; split <;> rfl
                    have x1 := (hbw.cell (p := ad.add j) (by rw [hadb]; exact hab)).trans x0
                    have hr1 : some (ad.add j).block ≠ (Value.slice Av M cv).ownBlock := fun e => by
                      have := own_lt hown _ e.symm
                      rw [hadb] at this
                      omega
                    have hr2 : some bP ≠ (Value.slice Av M cv).ownBlock := fun e => own_blk_ne hown b9 (by decide) _ e.symm rfl
                    have e0 : ∀ x : ExtR (Value.slice Av M cv).ownBlock wd, x.val.cell? (ad.add j) = some (.slice A1 k c1) := fun x => cell_keep x1 (x.ok.2 _ (World.block_lt_of_cell? _ _ x1) hr1)
                    have e1 : ∀ x : ExtR (Value.slice Av M cv).ownBlock wd, x.val.cell? ⟨bP, 0, none⟩ = some (.int .i64 ((n : Int) / (f.nR : Int))) := fun x => (blk_cell (x.blk b9 hr2)).trans rfl
                    have e2 : ∀ x : ExtR (Value.slice Av M cv).ownBlock wd, x.val.cell? ⟨bP, 1, none⟩ = some (.int .i64 ((n : Int) % (f.nR : Int))) := fun x => (blk_cell (x.blk b9 hr2)).trans rfl
                    simp only [pick, List.map_cons, List.map_nil, List.getD_cons_zero, List.getD_cons_succ]
                    (repeat (go_big_quiet_step (fail)))
                    refine quiet_end ?_
                    clear e0 e1 e2 x1 x0 hr1 hr2 hadb
                    have hD := KeepR.refl none wd
                    have sw := hD.1
                    refine ⟨?_, ?_⟩
                    · refine movR_call (by kernel_rfl) (fun K hK => ?_)
                      go_simp
                      obtain ⟨V1, hV⟩ : ∃ V1, V1 = wd.alloc (.cells #[] 62) := ⟨_, rfl⟩
                      have bz := blk_new hV
                      have hb := below_new hV
                      have sV1 : wd.heap.size ≤ wd.heap.size := hD.1
                      have kV1 : wd.heap.size < V1.heap.size := blk_lt bz
                      have o7 : V1.ownsRow wd.heap.size 62 2 (.slice (some ⟨wd.heap.size, 0, none⟩) 0 0) 0 [] := by rw [hV]; exact World.ownsRow_lit wd #[] 0 sV1 (by unfold maxLen; omega) rfl
                      rw [← hV]
                      clear hV bz
                      replace hD := hD.below hb
                      replace hbw := hbw.trans (hb.mono hbw.size)
                      clear hb
                      refine hK.out _ _ (hD.weaken _) ?_
                      clear hK K
                      (try simp only [Act.put, List.setIfInBounds_toArray, List.set_cons_zero, List.set_cons_succ])
                      refine ⟨?_, ?_⟩
                      · refine movR_call (by kernel_rfl) (fun K hK => ?_)
                        refine oper_appK (.tmp 67) (.tmp 72) elP o7 (hI0.below hbw).1 (pv_one _) (by omega) (by omega) hD.1 rfl rfl rfl ?_
                        intro v7 V7 o7' hg7 _
                        simp only [Nat.zero_add, List.nil_append] at o7'
                        obtain ⟨A7, c7, rfl, _⟩ := own_rdK o7'
                        have hlo := own_lt o7
                        replace hD := hD.grown hg7 (fun g hg => .inl (hlo g hg))
                        replace hbw := hbw.grown hg7 hbw.size (fun g hg => Nat.le_trans hwo (hlo g hg))
                        clear o7 hg7 hlo
                        have o7 := o7'
                        clear o7'
                        refine hK.out _ _ (hD.weaken _) ?_
                        clear hK K
                        (try simp only [Act.put, List.setIfInBounds_toArray, List.set_cons_zero, List.set_cons_succ])
                        refine movR_call (by kernel_rfl) (fun K hK => ?_)
                        go_simp
                        obtain ⟨V9, hV⟩ : ∃ V9, V9 = V7.alloc (.cells #[.int .i64 ((n : Int) / (f.nR : Int)), .int .i64 ((n : Int) % (f.nR : Int))] 62) := ⟨_, rfl⟩
                        have b12 := blk_new hV
                        have hb := below_new hV
                        have sV9 : wd.heap.size ≤ V7.heap.size := hD.1
                        have kV9 : V7.heap.size < V9.heap.size := blk_lt b12
                        rw [← hV]
                        clear hV
                        replace o7 := own_below o7 hb
                        replace hD := hD.below hb
                        replace hbw := hbw.trans (hb.mono hbw.size)
                        clear hb
                        refine hK.out _ _ (hD.weaken _) ?_
                        clear hK K
                        (try simp only [Act.put, List.setIfInBounds_toArray, List.set_cons_zero, List.set_cons_succ])
                        refine movR_call (by kernel_rfl) (fun K hK => ?_)
                        refine oper_appK (.tmp 73) (.tmp 75) elP o7 (RdK.blk 2 b12 rfl (by omega)) (by simp [Value.oneCell']) (by omega) (by omega) hD.1 rfl rfl rfl ?_
                        intro v10 X10 o10 hg10 _
                        obtain ⟨A10, c10, rfl, _⟩ := own_rdK o10
                        have hlo := own_lt o7
                        replace hD := hD.grown hg10 (fun g hg => .inl (hlo g hg))
                        replace hbw := hbw.grown hg10 hbw.size (fun g hg => Nat.le_trans hwo (hlo g hg))
                        rw [HPV.out] at o10
                        clear o7 hg10 hlo b12
                        refine hK.out _ _ (hD.weaken _) ?_
                        clear hK K
                        (try simp only [Act.put, List.setIfInBounds_toArray, List.set_cons_zero, List.set_cons_succ])
                        refine movR_call (by kernel_rfl) (fun K hK => ?_)
                        go_simp
                        refine hK.out _ _ (hD.weaken _) ?_
                        clear hK K
                        (try simp only [Act.put, List.setIfInBounds_toArray, List.set_cons_zero, List.set_cons_succ])
                        refine movR_call (by kernel_rfl) (fun K hK => ?_)
                        go_simp
                        obtain ⟨X12, hV⟩ : ∃ X12, X12 = X10.alloc (.cells #[.slice A10 (k + 1) c10] 31) := ⟨_, rfl⟩
                        have b13 := blk_new hV
                        have hb := below_new hV
                        have sX12 : wd.heap.size ≤ X10.heap.size := hD.1
                        have kX12 : X10.heap.size < X12.heap.size := blk_lt b13
                        rw [← hV]
                        clear hV
                        replace o10 := own_below o10 hb
                        replace hD := hD.below hb
                        replace hbw := hbw.trans (hb.mono hbw.size)
                        clear hb
                        refine hK.out _ _ (hD.weaken _) ?_
                        clear hK K
                        (try simp only [Act.put, List.setIfInBounds_toArray, List.set_cons_zero, List.set_cons_succ])
                        refine movR_call (by kernel_rfl) (fun K hK => ?_)
                        have hX := own_keep hown hD (by simp)
                        refine oper_app (.tmp 66) (.tmp 78) elW hX (Rd.blk (n := 1) b13 rfl (by omega)) (by intro u hu; simp at hu; subst hu; rfl) (by omega) (by omega) hbw.size rfl rfl rfl ?_
                        intro v13 X13 o13 hg13 _
                        have hst := more_step hown hel hD hbw hwo o10 o13 hg13
                        obtain ⟨A13, c13, rfl, _⟩ := own_rd o13
                        clear hX o13 hg13 o10 b13
                        refine hK.out _ _ (hst.2) ?_
                        clear hK K
                        (try simp only [Act.put, List.setIfInBounds_toArray, List.set_cons_zero, List.set_cons_succ])
                        refine movR_call (by kernel_rfl) (fun K hK => ?_)
                        go_simp
                        refine hK.out _ _ (hst.2) ?_
                        clear hK K
                        (try simp only [Act.put, List.setIfInBounds_toArray, List.set_cons_zero, List.set_cons_succ])
                        refine fixR_fin ?_
                        go_wp2_with fail
                        go_roundw
                        case rel => exact ⟨n + 1, by omega, by go_num, by rw [show j * D + (n + 1) = M + 1 by rw [HMM.out]; omega]; exact hst.1⟩
                        case measure => simp [intOf]; omega
                      · refine movR_call (by kernel_rfl) (fun K hK => ?_)
                        go_simp
                        obtain ⟨V9, hV⟩ : ∃ V9, V9 = V1.alloc (.cells #[.int .i64 ((n : Int) / (f.nR : Int)), .int .i64 ((n : Int) % (f.nR : Int))] 62) := ⟨_, rfl⟩
                        have b12 := blk_new hV
                        have hb := below_new hV
                        have sV9 : wd.heap.size ≤ V1.heap.size := hD.1
                        have kV9 : V1.heap.size < V9.heap.size := blk_lt b12
                        rw [← hV]
                        clear hV
                        replace o7 := own_below o7 hb
                        replace hD := hD.below hb
                        replace hbw := hbw.trans (hb.mono hbw.size)
                        clear hb
                        refine hK.out _ _ (hD.weaken _) ?_
                        clear hK K
                        (try simp only [Act.put, List.setIfInBounds_toArray, List.set_cons_zero, List.set_cons_succ])
                        refine movR_call (by kernel_rfl) (fun K hK => ?_)
                        refine oper_appK (.tmp 67) (.tmp 72) elP o7 (hI0.below hbw).1 (pv_one _) (by omega) (by omega) hD.1 rfl rfl rfl ?_
                        intro v7 V7 o7' hg7 _
                        simp only [Nat.zero_add, List.nil_append] at o7'
                        obtain ⟨A7, c7, rfl, _⟩ := own_rdK o7'
                        replace b12 := blk_grown b12 hg7 (fun e => by have e : V1.heap.size = wd.heap.size := Option.some.inj e; omega)
                        have hlo := own_lt o7
                        replace hD := hD.grown hg7 (fun g hg => .inl (hlo g hg))
                        replace hbw := hbw.grown hg7 hbw.size (fun g hg => Nat.le_trans hwo (hlo g hg))
                        clear o7 hg7 hlo
                        have o7 := o7'
                        clear o7'
                        refine hK.out _ _ (hD.weaken _) ?_
                        clear hK K
                        (try simp only [Act.put, List.setIfInBounds_toArray, List.set_cons_zero, List.set_cons_succ])
                        refine movR_call (by kernel_rfl) (fun K hK => ?_)
                        refine oper_appK (.tmp 73) (.tmp 75) elP o7 (RdK.blk 2 b12 rfl (by omega)) (by simp [Value.oneCell']) (by omega) (by omega) hD.1 rfl rfl rfl ?_
                        intro v10 X10 o10 hg10 _
                        obtain ⟨A10, c10, rfl, _⟩ := own_rdK o10
                        have hlo := own_lt o7
                        replace hD := hD.grown hg10 (fun g hg => .inl (hlo g hg))
                        replace hbw := hbw.grown hg10 hbw.size (fun g hg => Nat.le_trans hwo (hlo g hg))
                        rw [HPV.out] at o10
                        clear o7 hg10 hlo b12
                        refine hK.out _ _ (hD.weaken _) ?_
                        clear hK K
                        (try simp only [Act.put, List.setIfInBounds_toArray, List.set_cons_zero, List.set_cons_succ])
                        refine movR_call (by kernel_rfl) (fun K hK => ?_)
                        go_simp
                        refine hK.out _ _ (hD.weaken _) ?_
                        clear hK K
                        (try simp only [Act.put, List.setIfInBounds_toArray, List.set_cons_zero, List.set_cons_succ])
                        refine movR_call (by kernel_rfl) (fun K hK => ?_)
                        go_simp
                        obtain ⟨X12, hV⟩ : ∃ X12, X12 = X10.alloc (.cells #[.slice A10 (k + 1) c10] 31) := ⟨_, rfl⟩
                        have b13 := blk_new hV
                        have hb := below_new hV
                        have sX12 : wd.heap.size ≤ X10.heap.size := hD.1
                        have kX12 : X10.heap.size < X12.heap.size := blk_lt b13
                        rw [← hV]
                        clear hV
                        replace o10 := own_below o10 hb
                        replace hD := hD.below hb
                        replace hbw := hbw.trans (hb.mono hbw.size)
                        clear hb
                        refine hK.out _ _ (hD.weaken _) ?_
                        clear hK K
                        (try simp only [Act.put, List.setIfInBounds_toArray, List.set_cons_zero, List.set_cons_succ])
                        refine movR_call (by kernel_rfl) (fun K hK => ?_)
                        have hX := own_keep hown hD (by simp)
                        refine oper_app (.tmp 66) (.tmp 78) elW hX (Rd.blk (n := 1) b13 rfl (by omega)) (by intro u hu; simp at hu; subst hu; rfl) (by omega) (by omega) hbw.size rfl rfl rfl ?_
                        intro v13 X13 o13 hg13 _
                        have hst := more_step hown hel hD hbw hwo o10 o13 hg13
                        obtain ⟨A13, c13, rfl, _⟩ := own_rd o13
                        clear hX o13 hg13 o10 b13
                        refine hK.out _ _ (hst.2) ?_
                        clear hK K
                        (try simp only [Act.put, List.setIfInBounds_toArray, List.set_cons_zero, List.set_cons_succ])
                        refine movR_call (by kernel_rfl) (fun K hK => ?_)
                        go_simp
                        refine hK.out _ _ (hst.2) ?_
                        clear hK K
                        (try simp only [Act.put, List.setIfInBounds_toArray, List.set_cons_zero, List.set_cons_succ])
                        refine fixR_fin ?_
                        go_wp2_with fail
                        go_roundw
                        case rel => exact ⟨n + 1, by omega, by go_num, by rw [show j * D + (n + 1) = M + 1 by rw [HMM.out]; omega]; exact hst.1⟩
                        case measure => simp [intOf]; omega
                    · refine movR_call (by kernel_rfl) (fun K hK => ?_)
                      go_simp
                      obtain ⟨V9, hV⟩ : ∃ V9, V9 = wd.alloc (.cells #[.int .i64 ((n : Int) / (f.nR : Int)), .int .i64 ((n : Int) % (f.nR : Int))] 62) := ⟨_, rfl⟩
                      have b12 := blk_new hV
                      have hb := below_new hV
                      have sV9 : wd.heap.size ≤ wd.heap.size := hD.1
                      have kV9 : wd.heap.size < V9.heap.size := blk_lt b12
                      rw [← hV]
                      clear hV
                      replace hD := hD.below hb
                      replace hbw := hbw.trans (hb.mono hbw.size)
                      clear hb
                      refine hK.out _ _ (hD.weaken _) ?_
                      clear hK K
                      (try simp only [Act.put, List.setIfInBounds_toArray, List.set_cons_zero, List.set_cons_succ])
                      refine movR_call (by kernel_rfl) (fun K hK => ?_)
                      go_simp
                      obtain ⟨V1, hV⟩ : ∃ V1, V1 = V9.alloc (.cells #[] 62) := ⟨_, rfl⟩
                      have bz := blk_new hV
                      have hb := below_new hV
                      have sV1 : wd.heap.size ≤ V9.heap.size := hD.1
                      have kV1 : V9.heap.size < V1.heap.size := blk_lt bz
                      have o7 : V1.ownsRow wd.heap.size 62 2 (.slice (some ⟨V9.heap.size, 0, none⟩) 0 0) 0 [] := by rw [hV]; exact World.ownsRow_lit V9 #[] 0 sV1 (by unfold maxLen; omega) rfl
                      rw [← hV]
                      clear hV bz
                      replace b12 := blk_below b12 hb
                      replace hD := hD.below hb
                      replace hbw := hbw.trans (hb.mono hbw.size)
                      clear hb
                      refine hK.out _ _ (hD.weaken _) ?_
                      clear hK K
                      (try simp only [Act.put, List.setIfInBounds_toArray, List.set_cons_zero, List.set_cons_succ])
                      refine movR_call (by kernel_rfl) (fun K hK => ?_)
                      refine oper_appK (.tmp 67) (.tmp 72) elP o7 (hI0.below hbw).1 (pv_one _) (by omega) (by omega) hD.1 rfl rfl rfl ?_
                      intro v7 V7 o7' hg7 _
                      simp only [Nat.zero_add, List.nil_append] at o7'
                      obtain ⟨A7, c7, rfl, _⟩ := own_rdK o7'
                      replace b12 := blk_grown b12 hg7 (fun e => by have e : wd.heap.size = V9.heap.size := Option.some.inj e; omega)
                      have hlo := own_lt o7
                      replace hD := hD.grown hg7 (fun g hg => .inl (hlo g hg))
                      replace hbw := hbw.grown hg7 hbw.size (fun g hg => Nat.le_trans hwo (hlo g hg))
                      clear o7 hg7 hlo
                      have o7 := o7'
                      clear o7'
                      refine hK.out _ _ (hD.weaken _) ?_
                      clear hK K
                      (try simp only [Act.put, List.setIfInBounds_toArray, List.set_cons_zero, List.set_cons_succ])
                      refine movR_call (by kernel_rfl) (fun K hK => ?_)
                      refine oper_appK (.tmp 73) (.tmp 75) elP o7 (RdK.blk 2 b12 rfl (by omega)) (by simp [Value.oneCell']) (by omega) (by omega) hD.1 rfl rfl rfl ?_
                      intro v10 X10 o10 hg10 _
                      obtain ⟨A10, c10, rfl, _⟩ := own_rdK o10
                      have hlo := own_lt o7
                      replace hD := hD.grown hg10 (fun g hg => .inl (hlo g hg))
                      replace hbw := hbw.grown hg10 hbw.size (fun g hg => Nat.le_trans hwo (hlo g hg))
                      rw [HPV.out] at o10
                      clear o7 hg10 hlo b12
                      refine hK.out _ _ (hD.weaken _) ?_
                      clear hK K
                      (try simp only [Act.put, List.setIfInBounds_toArray, List.set_cons_zero, List.set_cons_succ])
                      refine movR_call (by kernel_rfl) (fun K hK => ?_)
                      go_simp
                      refine hK.out _ _ (hD.weaken _) ?_
                      clear hK K
                      (try simp only [Act.put, List.setIfInBounds_toArray, List.set_cons_zero, List.set_cons_succ])
                      refine movR_call (by kernel_rfl) (fun K hK => ?_)
                      go_simp
                      obtain ⟨X12, hV⟩ : ∃ X12, X12 = X10.alloc (.cells #[.slice A10 (k + 1) c10] 31) := ⟨_, rfl⟩
                      have b13 := blk_new hV
                      have hb := below_new hV
                      have sX12 : wd.heap.size ≤ X10.heap.size := hD.1
                      have kX12 : X10.heap.size < X12.heap.size := blk_lt b13
                      rw [← hV]
                      clear hV
                      replace o10 := own_below o10 hb
                      replace hD := hD.below hb
                      replace hbw := hbw.trans (hb.mono hbw.size)
                      clear hb
                      refine hK.out _ _ (hD.weaken _) ?_
                      clear hK K
                      (try simp only [Act.put, List.setIfInBounds_toArray, List.set_cons_zero, List.set_cons_succ])
                      refine movR_call (by kernel_rfl) (fun K hK => ?_)
                      have hX := own_keep hown hD (by simp)
                      refine oper_app (.tmp 66) (.tmp 78) elW hX (Rd.blk (n := 1) b13 rfl (by omega)) (by intro u hu; simp at hu; subst hu; rfl) (by omega) (by omega) hbw.size rfl rfl rfl ?_
                      intro v13 X13 o13 hg13 _
                      have hst := more_step hown hel hD hbw hwo o10 o13 hg13
                      obtain ⟨A13, c13, rfl, _⟩ := own_rd o13
                      clear hX o13 hg13 o10 b13
                      refine hK.out _ _ (hst.2) ?_
                      clear hK K
                      (try simp only [Act.put, List.setIfInBounds_toArray, List.set_cons_zero, List.set_cons_succ])
                      refine movR_call (by kernel_rfl) (fun K hK => ?_)
                      go_simp
                      refine hK.out _ _ (hst.2) ?_
                      clear hK K
                      (try simp only [Act.put, List.setIfInBounds_toArray, List.set_cons_zero, List.set_cons_succ])
                      refine fixR_fin ?_
                      go_wp2_with fail
                      go_roundw
                      case rel => exact ⟨n + 1, by omega, by go_num, by rw [show j * D + (n + 1) = M + 1 by rw [HMM.out]; omega]; exact hst.1⟩
                      case measure => simp [intOf]; omega
                  · obtain rfl : n = D := by omega
                    have d5 : decide ((n : Int) < (n : Int)) = false := by simp
                    rw [← Nat.succ_mul] at hM
                    go_wp2_with fail
                    go_roundw
                    case rel => exact ⟨j + 1, by omega, by go_num, hM⟩
                    case measure => simp [intOf]; omega
              · obtain rfl : j = N := by omega
                have d4 : decide ((j : Int) < (j : Int)) = false := by simp
                rw [← HND.out] at hM hND
                obtain ⟨A9, c9, rfl, hO9⟩ := hM.rd ⟨HSS.out.1, HSS.out.2.1, by omega⟩ (by rw [HD.out])
                have hb9 : Below wo.heap.size wo _ := hM.choose_spec.2.2
                have b9 := blk_below hb0 hb9
                have hbt9 := hbt0.trans (hb9.mono hbt0.size)
                go_wp2_with fail
                go_roundw
                case rel => exact ⟨k + 1, _, _, by omega, by go_num, rfl, hND, hO9, b9, hbt9⟩
                case measure => simp [intOf]; omega
        · obtain rfl : k = f.nL := by omega
          have d2 : decide ((f.nL : Int) < (f.nL : Int)) = false := by simp
          by_cases hgt : m < N
          · have d3 : decide ((m : Int) < (N : Int)) = true := by simp; omega
            have d3' : decide (m < N) = true := by simp; omega
            have HC : Hid (R = ([], 2)) := by show _ = _; rw [HR2.out, ← HN.out, if_pos hgt]
            go_wp2_with fail
            go_ret2
            exact allpost_err HC.out hbt
          · have d3 : decide ((m : Int) < (N : Int)) = false := by simp; omega
            have d3' : decide (m < N) = false := by simp; omega
            have HC : Hid (R = ((List.range N).map (Wk.dec f.nS f.nR f.nL), 0)) := by show _ = _; rw [HR2.out, ← HN.out, if_neg hgt]
            go_wp2_with fail
            go_ret2
            rw [HC.out]
            exact ⟨A, N, c, rfl, hO, hbt⟩

end Go.Proofs.YtojbjaklngdlcaaGreatDoor
