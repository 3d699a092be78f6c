/-
  FeedNoAlias, walked.
-/
import Derived.Test.YtmighpfjjaaknaaAliasInv
import Derived.Test.YtmighpfjjaaknaaShowsW
import Derived.Test.YtmighpfjjaaknaaFeedReplies
import Derived.RegionTactic
namespace Go.Proofs.Ytmighpfjjaaknaa
open Go.RowKit
set_option linter.unusedVariables false
set_option linter.unusedSimpArgs false

set_option maxRecDepth 20000 in
set_option maxHeartbeats 4000000 in
theorem feedNoAlias_any (A : Option Addr) (n c : Nat) (vs : List Ver) (no cno : Int) (A1 : Option Addr) (n1' c1 : Nat) (l : List Pl) (w : World) (h : RdV w w.heap.size A n c vs) (hc : RdP w w.heap.size A1 n1' c1 l) (hno : okI no) :
    Calls Try.prog 10 #[.slice A n c, .int .i64 no, .agg #[.int .i64 cno, .slice A1 n1' c1]] w fun e w' => e = .returned (.bool true) ∧ Below w.heap.size w w' := by
  have n1 := h.max
  have n2 := h.le
  have hl := Lib.hid h.len
  have y1 := hc.max
  have y2 := hc.le
  have h0 := h
  have hc0 := hc
  have hlc := Lib.hid hc.len
  obtain ⟨V1, hV⟩ : ∃ V1, V1 = w.alloc (.cells #[.int .i64 cno, .slice A1 n1' c1] 27) := ⟨_, rfl⟩
  have bc := blk_new hV
  have hb := below_new hV
  have hbt := hb
  clear hb
  have HSV1 : Hid (V1.heap.size = w.heap.size + 1) := by show V1.heap.size = _; rw [hV, World.size_alloc]
  have HVV1 := Lib.hid hV.symm
  clear hV
  replace h := (h.below hbt).more hbt.size
  replace hc := (hc.below hbt).more hbt.size
  go_enter Try.func10, Try.ntmps10
  go_wp2_with fail
  rw [HVV1.out]
  clear HVV1
  refine (live_any V1).mono ?_
  rintro e w1 ⟨rfl, hb⟩
  replace h := (h.below hb).more hb.size
  replace hc := (hc.below hb).more hb.size
  replace bc := blk_below bc hb
  replace hbt := hbt.trans (hb.mono hbt.size)
  clear hb
  go_wp2_with fail
  refine (few_any A n c vs w1 h).mono ?_
  rintro e w2 ⟨r, rfl, hfew, rfl⟩
  cases r
  · clear hfew
    go_wp2_with fail
    go_ret
    exact ⟨rfl, hbt⟩
  · obtain ⟨hv1, hv2⟩ := hfew rfl
    rw [hl.out] at hv1
    have HV2 := Lib.hid hv2
    have HOK := Lib.hid h.okWeeks
    have HM := fun (no to_ : Int) => @replyM_ok vs no to_ h.okWeeks hv2
    replace HM := Lib.hid HM
    clear hv2 hfew
    by_cases h70 : n1' ≤ 70
    · have d1 : decide ((70 : Int) < (n1' : Int)) = false := by simp; omega
      have cbc0 := cell_of_row w1 w.heap.size 0 _ _ _ bc
      simp only [List.getElem?_toArray, List.getElem?_cons_zero, List.getElem?_cons_succ] at cbc0
      have cbc1 := cell_of_row w1 w.heap.size 1 _ _ _ bc
      simp only [List.getElem?_toArray, List.getElem?_cons_zero, List.getElem?_cons_succ] at cbc1
      go_wp2_with fail
      clear cbc0 cbc1
      refine (check_any A n c vs w1 h).mono ?_
      rintro e w3 ⟨rfl, hb⟩
      replace h := (h.below hb).more hb.size
      replace hc := (hc.below hb).more hb.size
      replace bc := blk_below bc hb
      replace hbt := hbt.trans (hb.mono hbt.size)
      clear hb
      by_cases hck : checkB vs = true
      · rw [show errB (checkB vs) = 0 by rw [hck]; rfl]
        have HC := Lib.hid hck
        clear hck
        have hs3 : w.heap.size ≤ w3.heap.size := hbt.size
        obtain ⟨V4, hV⟩ : ∃ V4, V4 = w3.alloc (.cells #[] 25) := ⟨_, rfl⟩
        have bs := blk_new hV
        have hb := below_new hV
        replace h := (h.below hb).more hb.size
        replace hc := (hc.below hb).more hb.size
        replace bc := blk_below bc hb
        replace hbt := hbt.trans (hb.mono hbt.size)
        clear hb
        have HSV4 : Hid (V4.heap.size = w3.heap.size + 1) := by show V4.heap.size = _; rw [hV, World.size_alloc]
        have HVV4 := Lib.hid hV.symm
        clear hV
        have hwas : WasMem w.heap.size V4 (.slice (some ⟨w3.heap.size, 0, none⟩) 0 0) [] := ⟨⟨rfl, .inr ⟨_, 0, #[], rfl, hs3, bs, Nat.le_refl _, by unfold maxLen; omega, rfl, rfl⟩⟩, by simp⟩
        clear bs
        go_wp2_with fail
        rw [HVV4.out]
        clear HVV4
        go_loopw [7, 8] (fun sv i wr => ∃ (k : Nat) (ws : List (List Pl × Value)), k ≤ n ∧ i = .int .i64 k ∧ ws.map (·.1) = (vs.take k).map Ver.week ∧ WasMem w.heap.size wr sv ws ∧ wr.heap[w.heap.size]? = some (.cells #[.int .i64 cno, .slice A1 n1' c1] 27) ∧ Below w.heap.size w wr) (fun _ i _ => n - (intOf i).toNat)
        case atStart => exact ⟨0, [], by omega, rfl, by simp, hwas, bc, hbt⟩
        case round =>
          obtain ⟨k, ws, hk, rfl, hmap, hwas1, bc1, hbr⟩ := hrel
          clear hwas h hc bc hbt
          have hwas := hwas1
          have bc := bc1
          have hbt := hbr
          clear hwas1 bc1 hbr
          have HMAP := Lib.hid hmap
          clear hmap
          have hwl : ws.length = k := by have := congrArg List.length HMAP.out; rw [List.length_map, List.length_map, List.length_take, hl.out] at this; omega
          have HWL := Lib.hid hwl
          clear hwl
          obtain ⟨As, ks, hsv, _⟩ := own_rdK hwas.row
          subst hsv
          rw [HWL.out] at hwas ⊢
          by_cases hkn : k < n
          · have d5 : decide ((k : Int) < (n : Int)) = true := by simp; omega
            have hkl : k < vs.length := by rw [hl.out]; exact hkn
            obtain ⟨ad, A', c', rfl, hab, w0, w1', w2', w3', hp, _, _⟩ := h0.at_ hkn hkl
            have HT : Hid ((vs.take (k + 1)).map Ver.week = (vs.take k).map Ver.week ++ [vs[k].week]) := by show List.map _ _ = _; rw [List.take_succ_eq_append_getElem hkl, List.map_append]; rfl
            have hlk := HV2.out _ (List.getElem_mem hkl)
            generalize vs[k] = vk at *
            obtain ⟨vno, lk, vc, vb⟩ := vk
            dsimp only at *
            have hok := hp.2
            have hlen := Lib.hid hp.len
            have c1' := (hbt.cell (p := ⟨(ad.add (k * 4)).block, (ad.add (k * 4)).off + 1, none⟩) (by dsimp only; rw [add_block]; exact hab)).trans w1'
            clear w0 w1' w2' w3'
            have hpr := (hp.below hbt).more hbt.size
            obtain ⟨nk, hnk⟩ : ∃ z, z = lk.length := ⟨_, rfl⟩
            rw [← hnk] at hpr c1' hlk
            have HNK := Lib.hid hnk
            clear hnk hp hlen
            have q1 := hpr.le
            have q2 := hpr.max
            have hbA := (Below.refl wr.heap.size wr).alloc (Nat.le_refl _) (.cells #[] 60)
            have c1'' := (World.cell?_alloc_lt wr (.cells #[] 60) ⟨(ad.add (k * 4)).block, (ad.add (k * 4)).off + 1, none⟩ (by dsimp only; rw [add_block]; have := hbt.size; omega)).trans c1'
            clear c1'
            have ho : (wr.alloc (.cells #[] 60)).ownsRow wr.heap.size 60 2 (.slice (some ⟨wr.heap.size, 0, none⟩) 0 0) 0 [] := World.ownsRow_lit wr #[] 0 (Nat.le_refl _) (by unfold maxLen; omega) rfl
            have hbs := hbt.size
            go_wp2_with (first
              | (at_builtin; refine wpList_appK (.tmp 44) (.tmp 50) elP ho (hpr.1.below hbA) (pv_one lk) (by omega) (by omega) (by simp) rfl rfl rfl rfl ?_; intro v5 w5 hown5 hg5 hat5; simp only [Nat.zero_add, List.nil_append] at hown5; obtain ⟨A5, k5, rfl, _⟩ := own_rdK hown5; have hb5 : Below wr.heap.size wr w5 := below_of_alloc_grown hg5 (fun g hg => by cases hg; exact Nat.le_refl _); have hwas5 := hwas.below hb5; have hs5 := hb5.size)
              | (at_builtin; refine wpList_appK (.tmp 43) (.tmp 53) elW (hwas5.row.alloc _) (RdK.new 1 w5 _ _ _ 1 rfl (by omega)) (by simp [Value.oneCell']) ?_ ?_ ?_ rfl rfl rfl rfl ?_; (rw [HWL.out]; omega); (rw [HWL.out]; omega); (simp; omega); intro v6 w6 hown6 hg6 hat6; obtain ⟨A6, k6, rfl, _⟩ := own_rdK hown6))
            replace hg6 := grownBy_of_alloc hg6
            have hbt5 := hbt.trans (hb5.mono hbs)
            have hbt6 := hbt5.grown hg6 hbt5.size (fun g hg => (hwas5.row.lt g hg).1)
            have bc5 := blk_below bc hb5
            have bc6 := (hg6.block _ (Array.getElem?_eq_some_iff.1 bc5).1 (fun e => own_blk_ne hwas5.row bc5 (by decide) _ e.symm rfl)).trans bc5
            have hwas6 := hwas5.app (x := (lk, .slice A5 nk k5)) hg6 hown6 (by rw [← HNK.out]; exact own_mono hown5 hbs) hok
            go_roundw
            case rel =>
              refine ⟨k + 1, ws ++ [(lk, .slice A5 nk k5)], by omega, by go_num, ?_, hwas6, bc6, hbt6⟩
              rw [HT.out, List.map_append, HMAP.out]
              rfl
            case measure => simp [intOf]; omega
          · obtain rfl : k = n := by omega
            have d5 : decide ((k : Int) < (k : Int)) = false := by simp
            obtain ⟨P1, rfl⟩ : ∃ P1 : World, P1 = wr := ⟨_, rfl⟩
            rw [List.take_of_length_le (by rw [hl.out]; omega)] at HMAP
            have h := (h0.below hbt).more hbt.size
            have hc := (hc0.below hbt).more hbt.size
            have hB1 := Below.refl P1.heap.size P1
            go_wp2_with fail
            have hwasP := hwas
            have hbtP := hbt
            obtain ⟨ok1, ok2, ok3⟩ := HM.out no 0
            clear HM
            have HR := Lib.hid (fun (W : World) (h : RdV W W.heap.size A k c vs) => reply_any A k c vs no 0 W h (by omega) (fun v hv => Nat.le_trans (HV2.out v hv) (by omega)))
            generalize replyM vs no 0 = M at *
            generalize replyE vs no 0 = E at *
            obtain ⟨m0, m1, m2, m3, lw, lm⟩ := M
            dsimp only at ok1 ok2 ok3
            refine (HR.out P1 h).mono ?_
            rintro e w5 ⟨v, u, rfl, ho, hp, hb⟩
            dsimp only at ho hp ⊢
            obtain ⟨A5, k5, rfl, q5⟩ := own_rdP ho ok1
            obtain ⟨P5, j5, rfl, r5⟩ := own_rdM hp ok2
            clear hp
            replace hwas := hwas.below hb
            replace bc := blk_below bc hb
            replace h := (h.below hb).more hb.size
            replace hc := (hc.below hb).more hb.size
            replace hB1 := hB1.trans (hb.mono hB1.size)
            replace hbt := hbt.trans (hb.mono hbt.size)
            clear hb
            obtain ⟨nw, hnw⟩ : ∃ z, z = lw.length := ⟨_, rfl⟩
            obtain ⟨nm, hnm⟩ : ∃ z, z = lm.length := ⟨_, rfl⟩
            rw [← hnw] at q5 ho ok3 ⊢
            rw [← hnm] at r5 ⊢
            have HNW := Lib.hid hnw
            clear hnw hnm
            have z1 := q5.le
            have z2 := q5.max
            have z3 := r5.le
            have z4 := r5.max
            obtain ⟨P0, hV⟩ : ∃ P0, P0 = w5.alloc (.cells #[.int .i64 m0, .int .i64 m1, .int .i64 m2, .int .i64 m3, .slice A5 nw k5, .slice P5 nm j5] 32) := ⟨_, rfl⟩
            have bm := blk_new hV
            have hb := below_new hV
            replace hwas := hwas.below hb
            replace bc := blk_below bc hb
            replace h := (h.below hb).more hb.size
            replace hc := (hc.below hb).more hb.size
            replace hB1 := hB1.trans (hb.mono hB1.size)
            replace q5 := (q5.below hb).more hb.size
            replace r5 := (r5.below hb).more hb.size
            replace ho := own_below ho hb
            replace hbt := hbt.trans (hb.mono hbt.size)
            clear hb
            have HSP0 : Hid (P0.heap.size = w5.heap.size + 1) := by show P0.heap.size = _; rw [hV, World.size_alloc]
            have HVP0 := Lib.hid hV.symm
            clear hV
            by_cases hE : E = 0
            · subst hE
              have hB0 := Below.refl P0.heap.size P0
              have cbc0 := cell_of_row P0 w.heap.size 0 _ _ _ bc
              simp only [List.getElem?_toArray, List.getElem?_cons_zero, List.getElem?_cons_succ] at cbc0
              have cbc1 := cell_of_row P0 w.heap.size 1 _ _ _ bc
              simp only [List.getElem?_toArray, List.getElem?_cons_zero, List.getElem?_cons_succ] at cbc1
              have cbm0 := cell_of_row P0 w5.heap.size 0 _ _ _ bm
              simp only [List.getElem?_toArray, List.getElem?_cons_zero, List.getElem?_cons_succ] at cbm0
              have cbm1 := cell_of_row P0 w5.heap.size 1 _ _ _ bm
              simp only [List.getElem?_toArray, List.getElem?_cons_zero, List.getElem?_cons_succ] at cbm1
              have cbm2 := cell_of_row P0 w5.heap.size 2 _ _ _ bm
              simp only [List.getElem?_toArray, List.getElem?_cons_zero, List.getElem?_cons_succ] at cbm2
              have cbm3 := cell_of_row P0 w5.heap.size 3 _ _ _ bm
              simp only [List.getElem?_toArray, List.getElem?_cons_zero, List.getElem?_cons_succ] at cbm3
              have cbm4 := cell_of_row P0 w5.heap.size 4 _ _ _ bm
              simp only [List.getElem?_toArray, List.getElem?_cons_zero, List.getElem?_cons_succ] at cbm4
              have cbm5 := cell_of_row P0 w5.heap.size 5 _ _ _ bm
              simp only [List.getElem?_toArray, List.getElem?_cons_zero, List.getElem?_cons_succ] at cbm5
              rw [← HVP0.out] at cbc0 cbc1 cbm0 cbm1 cbm2 cbm3 cbm4 cbm5
              go_wp2_with fail
              rw [HVP0.out]
              clear HVP0
              clear cbc0 cbc1 cbm0 cbm1 cbm2 cbm3 cbm4 cbm5
              have hok := takeC_ok (c := ⟨cno, l⟩) (m := ⟨m0, m1, m2, m3, lw, lm⟩) hc.2 ok1 ok2
              have HTK := Lib.hid (take_any m0 m1 m2 m3 cno A1 A5 P5 n1' c1 nw k5 nm j5 l lw lm P0 hc q5 r5 (by omega) (by omega))
              generalize takeC ⟨cno, l⟩ ⟨m0, m1, m2, m3, lw, lm⟩ = X at *
              generalize takeE ⟨cno, l⟩ ⟨m0, m1, m2, m3, lw, lm⟩ = F at *
              obtain ⟨xno, lx⟩ := X
              dsimp only at hok
              refine HTK.out.mono ?_
              rintro e w6 ⟨v, rfl, hox, hb⟩
              dsimp only at hox ⊢
              clear HTK
              obtain ⟨A6, k6, rfl, q6⟩ := own_rdP hox hok
              clear hok
              obtain ⟨nx, hnx⟩ : ∃ z, z = lx.length := ⟨_, rfl⟩
              rw [← hnx] at q6 hox ⊢
              have HNX := Lib.hid hnx
              clear hnx
              have z5 := q6.le
              have z6 := q6.max
              clear q6
              have hwasp := hwas
              have hp := h
              have q5p := q5
              have r5p := r5
              have bmp := bm
              have hop := ho
              have hB1p := hB1
              have hbtp := hbt
              clear hc bc
              replace hwas := hwas.below hb
              replace h := (h.below hb).more hb.size
              replace hB1 := hB1.trans (hb.mono hB1.size)
              replace q5 := (q5.below hb).more hb.size
              replace r5 := (r5.below hb).more hb.size
              replace ho := own_below ho hb
              replace bm := blk_below bm hb
              replace hB0 := hB0.trans (hb.mono hB0.size)
              replace hbt := hbt.trans (hb.mono hbt.size)
              clear hb
              have hbxs : P0.heap.size ≤ w6.heap.size := hB0.size
              obtain ⟨V6, hV⟩ : ∃ V6, V6 = w6.alloc (.cells #[.int .i64 xno, .slice A6 nx k6] 27) := ⟨_, rfl⟩
              have bx := blk_new hV
              have hb := below_new hV
              replace hwas := hwas.below hb
              replace h := (h.below hb).more hb.size
              replace hB1 := hB1.trans (hb.mono hB1.size)
              replace q5 := (q5.below hb).more hb.size
              replace r5 := (r5.below hb).more hb.size
              replace ho := own_below ho hb
              replace bm := blk_below bm hb
              replace hB0 := hB0.trans (hb.mono hB0.size)
              replace hox := own_below hox hb
              replace hbt := hbt.trans (hb.mono hbt.size)
              clear hb
              have HSV6 : Hid (V6.heap.size = w6.heap.size + 1) := by show V6.heap.size = _; rw [hV, World.size_alloc]
              have HVV6 := Lib.hid hV.symm
              clear hV
              have cbm0 := cell_of_row V6 w5.heap.size 0 _ _ _ bm
              simp only [List.getElem?_toArray, List.getElem?_cons_zero, List.getElem?_cons_succ] at cbm0
              have cbm1 := cell_of_row V6 w5.heap.size 1 _ _ _ bm
              simp only [List.getElem?_toArray, List.getElem?_cons_zero, List.getElem?_cons_succ] at cbm1
              have cbm2 := cell_of_row V6 w5.heap.size 2 _ _ _ bm
              simp only [List.getElem?_toArray, List.getElem?_cons_zero, List.getElem?_cons_succ] at cbm2
              have cbm3 := cell_of_row V6 w5.heap.size 3 _ _ _ bm
              simp only [List.getElem?_toArray, List.getElem?_cons_zero, List.getElem?_cons_succ] at cbm3
              have cbm4 := cell_of_row V6 w5.heap.size 4 _ _ _ bm
              simp only [List.getElem?_toArray, List.getElem?_cons_zero, List.getElem?_cons_succ] at cbm4
              have cbm5 := cell_of_row V6 w5.heap.size 5 _ _ _ bm
              simp only [List.getElem?_toArray, List.getElem?_cons_zero, List.getElem?_cons_succ] at cbm5
              rw [← HVV6.out] at cbm0 cbm1 cbm2 cbm3 cbm4 cbm5
              go_wp2_with fail
              rw [HVV6.out]
              clear HVV6
              clear cbm0 cbm1 cbm2 cbm3 cbm4 cbm5
              refine (msgs_same m0 m1 m2 m3 _ _ _ _ _ _ _ _ _ _ _ _ lw lm V6 q5 q5 r5 r5).mono ?_
              rintro e w7 ⟨rfl, hb⟩
              replace hwas := hwas.below hb
              replace h := (h.below hb).more hb.size
              replace hB1 := hB1.trans (hb.mono hB1.size)
              replace q5 := (q5.below hb).more hb.size
              replace r5 := (r5.below hb).more hb.size
              replace ho := own_below ho hb
              replace bm := blk_below bm hb
              replace hB0 := hB0.trans (hb.mono hB0.size)
              replace hox := own_below hox hb
              replace bx := blk_below bx hb
              replace hbt := hbt.trans (hb.mono hbt.size)
              clear hb
              go_wp2_with fail
              clear hwas h q5 r5 bm ho hB1 hbt
              go_loopw [14] (fun i wr => ∃ (k' : Nat) (l' : List Pl), k' ≤ nx ∧ i = .int .i64 k' ∧ l'.length = nx ∧ wr.ownsRow P0.heap.size 60 2 (.slice A6 nx k6) nx (pv l') ∧ wr.heap[w6.heap.size]? = some (.cells #[.int .i64 xno, .slice A6 nx k6] 27) ∧ Below P0.heap.size P0 wr) (fun i _ => nx - (intOf i).toNat)
              case atStart => exact ⟨0, lx, by omega, rfl, HNX.out.symm, hox, bx, hB0⟩
              case round =>
                obtain ⟨k', l', hk', rfl, hl', ho', bx', hB'⟩ := hrel
                clear hox bx hB0
                have HL' := Lib.hid hl'
                clear hl'
                by_cases hF : F = 0
                · subst hF
                  by_cases hkx : k' < nx
                  · have dl : decide ((k' : Int) < (nx : Int)) = true := by simp; omega
                    have xb := cell_of_row wr w6.heap.size 1 _ _ _ bx'
                    simp only [List.getElem?_toArray, List.getElem?_cons_zero, List.getElem?_cons_succ] at xb
                    obtain ⟨g, cp, hAv, hg1, hg2⟩ := ho'.form (by omega)
                    injection hAv with ha _ hcv
                    subst ha hcv
                    have hkl' : k' < l'.length := by rw [HL'.out]; omega
                    have q1 := ho'.cellAt (k' * 2) (by omega)
                    have r1 : (pv l')[k' * 2]? = some (.int .i64 l'[k'].1) := by have := flat_get pcell_length l' k' 0 hkl' (by omega); exact this
                    rw [r1] at q1
                    clear r1
                    have hf1 := ho'.frozenAt (k' * 2)
                    have HST : Hid (∀ z : Int, _) := fun z : Int => ho'.stored (k' * 2) (.int .i64 z)
                    have HSET : Hid (∀ z : Int, (pv l').set (k' * 2) (.int .i64 z) = pv (l'.set k' (z, l'[k'].2))) := fun z => pv_set1 l' k' z hkl'
                    generalize l'[k'] = old at *
                    have hne : ¬ w6.heap.size = g := own_blk_ne ho' bx' (by decide) g rfl
                    have hne' : ¬ g = w6.heap.size := fun e => hne e.symm
                    go_wp2
                    go_region
                    go_wp2
                    go_roundw
                    case rel =>
                      refine ⟨k' + 1, l'.set k' (wrap64 (old.1 + 1), old.2), by omega, by go_num, by rw [List.length_set]; exact HL'.out, ?_, (heap_setCell_other wr _ _ _ (by simpa using hne)).trans bx', (hB'.setCell (p := ⟨g, k' * 2, none⟩) hg1 _).drew⟩
                      rw [← HSET.out]
                      exact own_drew (HST.out _).1
                    case measure => simp [intOf]; omega
                  · obtain rfl : k' = nx := by omega
                    have dl : decide ((k' : Int) < (k' : Int)) = false := by simp
                    have xb := cell_of_row wr w6.heap.size 1 _ _ _ bx'
                    simp only [List.getElem?_toArray, List.getElem?_cons_zero, List.getElem?_cons_succ] at xb
                    go_wp2_with fail
                    clear xb
                    obtain ⟨X2, rfl⟩ : ∃ X2 : World, X2 = wr := ⟨_, rfl⟩
                    have hwas := hwasp.below hB'
                    have h := (hp.below hB').more hB'.size
                    have q5 := (q5p.below hB').more hB'.size
                    have r5 := (r5p.below hB').more hB'.size
                    have bm := blk_below bmp hB'
                    have ho := own_below hop hB'
                    have hB1 := hB1p.trans (hB'.mono hB1p.size)
                    have hbt := hbtp.trans (hB'.mono hbtp.size)
                    clear ho' bx' hB' hwasp hp q5p r5p bmp hop hB1p hbtp
                    refine (HR.out X2 h).mono ?_
                    rintro e w9 ⟨v, u, rfl, ho9, hp9, hb⟩
                    dsimp only at ho9 hp9 ⊢
                    obtain ⟨A9, k9, rfl, q9⟩ := own_rdP ho9 ok1
                    obtain ⟨P9, j9, rfl, r9⟩ := own_rdM hp9 ok2
                    clear ho9 hp9
                    replace hwas := hwas.below hb
                    replace h := (h.below hb).more hb.size
                    replace q5 := (q5.below hb).more hb.size
                    replace r5 := (r5.below hb).more hb.size
                    replace bm := blk_below bm hb
                    replace ho := own_below ho hb
                    replace hB1 := hB1.trans (hb.mono hB1.size)
                    replace hbt := hbt.trans (hb.mono hbt.size)
                    clear hb
                    obtain ⟨V9, hV⟩ : ∃ V9, V9 = w9.alloc (.cells #[.int .i64 m0, .int .i64 m1, .int .i64 m2, .int .i64 m3, .slice A9 lw.length k9, .slice P9 lm.length j9] 32) := ⟨_, rfl⟩
                    have bn := blk_new hV
                    have hb := below_new hV
                    replace hwas := hwas.below hb
                    replace h := (h.below hb).more hb.size
                    replace q5 := (q5.below hb).more hb.size
                    replace r5 := (r5.below hb).more hb.size
                    replace bm := blk_below bm hb
                    replace ho := own_below ho hb
                    replace hB1 := hB1.trans (hb.mono hB1.size)
                    replace q9 := (q9.below hb).more hb.size
                    replace r9 := (r9.below hb).more hb.size
                    replace hbt := hbt.trans (hb.mono hbt.size)
                    clear hb
                    have HSV9 : Hid (V9.heap.size = w9.heap.size + 1) := by show V9.heap.size = _; rw [hV, World.size_alloc]
                    have HVV9 := Lib.hid hV.symm
                    clear hV
                    have cbm0 := cell_of_row V9 w5.heap.size 0 _ _ _ bm
                    simp only [List.getElem?_toArray, List.getElem?_cons_zero, List.getElem?_cons_succ] at cbm0
                    have cbm1 := cell_of_row V9 w5.heap.size 1 _ _ _ bm
                    simp only [List.getElem?_toArray, List.getElem?_cons_zero, List.getElem?_cons_succ] at cbm1
                    have cbm2 := cell_of_row V9 w5.heap.size 2 _ _ _ bm
                    simp only [List.getElem?_toArray, List.getElem?_cons_zero, List.getElem?_cons_succ] at cbm2
                    have cbm3 := cell_of_row V9 w5.heap.size 3 _ _ _ bm
                    simp only [List.getElem?_toArray, List.getElem?_cons_zero, List.getElem?_cons_succ] at cbm3
                    have cbm4 := cell_of_row V9 w5.heap.size 4 _ _ _ bm
                    simp only [List.getElem?_toArray, List.getElem?_cons_zero, List.getElem?_cons_succ] at cbm4
                    have cbm5 := cell_of_row V9 w5.heap.size 5 _ _ _ bm
                    simp only [List.getElem?_toArray, List.getElem?_cons_zero, List.getElem?_cons_succ] at cbm5
                    have cbn0 := cell_of_row V9 w9.heap.size 0 _ _ _ bn
                    simp only [List.getElem?_toArray, List.getElem?_cons_zero, List.getElem?_cons_succ] at cbn0
                    have cbn1 := cell_of_row V9 w9.heap.size 1 _ _ _ bn
                    simp only [List.getElem?_toArray, List.getElem?_cons_zero, List.getElem?_cons_succ] at cbn1
                    have cbn2 := cell_of_row V9 w9.heap.size 2 _ _ _ bn
                    simp only [List.getElem?_toArray, List.getElem?_cons_zero, List.getElem?_cons_succ] at cbn2
                    have cbn3 := cell_of_row V9 w9.heap.size 3 _ _ _ bn
                    simp only [List.getElem?_toArray, List.getElem?_cons_zero, List.getElem?_cons_succ] at cbn3
                    have cbn4 := cell_of_row V9 w9.heap.size 4 _ _ _ bn
                    simp only [List.getElem?_toArray, List.getElem?_cons_zero, List.getElem?_cons_succ] at cbn4
                    have cbn5 := cell_of_row V9 w9.heap.size 5 _ _ _ bn
                    simp only [List.getElem?_toArray, List.getElem?_cons_zero, List.getElem?_cons_succ] at cbn5
                    rw [← HVV9.out] at cbm0 cbm1 cbm2 cbm3 cbm4 cbm5 cbn0 cbn1 cbn2 cbn3 cbn4 cbn5
                    go_wp2_with fail
                    rw [HVV9.out]
                    clear HVV9
                    clear cbm0 cbm1 cbm2 cbm3 cbm4 cbm5 cbn0 cbn1 cbn2 cbn3 cbn4 cbn5
                    refine (msgs_same m0 m1 m2 m3 _ _ _ _ _ _ _ _ _ _ _ _ lw lm V9 q5 q9 r5 r9).mono ?_
                    rintro e w10 ⟨rfl, hb⟩
                    replace hwas := hwas.below hb
                    replace h := (h.below hb).more hb.size
                    replace q5 := (q5.below hb).more hb.size
                    replace r5 := (r5.below hb).more hb.size
                    replace bm := blk_below bm hb
                    replace ho := own_below ho hb
                    replace hB1 := hB1.trans (hb.mono hB1.size)
                    replace q9 := (q9.below hb).more hb.size
                    replace r9 := (r9.below hb).more hb.size
                    replace bn := blk_below bn hb
                    replace hbt := hbt.trans (hb.mono hbt.size)
                    clear hb
                    go_wp2_with fail
                    go_loopw [17] (fun i wr => ∃ (k3 : Nat) (l3 : List Pl), k3 ≤ nw ∧ i = .int .i64 k3 ∧ l3.length = nw ∧ wr.ownsRow P1.heap.size 60 2 (.slice A5 nw k5) nw (pv l3) ∧ wr.heap[w5.heap.size]? = some (.cells #[.int .i64 m0, .int .i64 m1, .int .i64 m2, .int .i64 m3, .slice A5 nw k5, .slice P5 nm j5] 32) ∧ Below P1.heap.size P1 wr) (fun i _ => nw - (intOf i).toNat)
                    case atStart => exact ⟨0, lw, by omega, rfl, HNW.out.symm, ho, bm, hB1⟩
                    case round =>
                      obtain ⟨k3, l3, hk3, rfl, hl3, ho3, bm3, hB3⟩ := hrel
                      clear ho bm hB1 hbt hwas h q5 r5 q9 r9 bn
                      have HL3 := Lib.hid hl3
                      clear hl3
                      have xb := cell_of_row wr w5.heap.size 4 _ _ _ bm3
                      simp only [List.getElem?_toArray, List.getElem?_cons_zero, List.getElem?_cons_succ] at xb
                      by_cases hk3n : k3 < nw
                      · have dl : decide ((k3 : Int) < (nw : Int)) = true := by simp; omega
                        obtain ⟨g, cp, hAv, hg1, hg2⟩ := ho3.form (by omega)
                        injection hAv with ha _ hcv
                        subst ha hcv
                        have hkl' : k3 < l3.length := by rw [HL3.out]; omega
                        have q1 := ho3.cellAt (k3 * 2) (by omega)
                        have r1 : (pv l3)[k3 * 2]? = some (.int .i64 l3[k3].1) := by have := flat_get pcell_length l3 k3 0 hkl' (by omega); exact this
                        rw [r1] at q1
                        clear r1
                        have hf1 := ho3.frozenAt (k3 * 2)
                        have HST : Hid (∀ z : Int, _) := fun z : Int => ho3.stored (k3 * 2) (.int .i64 z)
                        have HSET : Hid (∀ z : Int, (pv l3).set (k3 * 2) (.int .i64 z) = pv (l3.set k3 (z, l3[k3].2))) := fun z => pv_set1 l3 k3 z hkl'
                        generalize l3[k3] = old at *
                        have hne : ¬ w5.heap.size = g := own_blk_ne ho3 bm3 (by decide) g rfl
                        have hne' : ¬ g = w5.heap.size := fun e => hne e.symm
                        go_wp2
                        go_roundw
                        case rel =>
                          refine ⟨k3 + 1, l3.set k3 (-1, old.2), by omega, by go_num, by rw [List.length_set]; exact HL3.out, ?_, (heap_setCell_other wr _ _ _ (by simpa using hne)).trans bm3, hB3.setCell (p := ⟨g, k3 * 2, none⟩) hg1 _⟩
                          rw [← HSET.out]
                          exact (HST.out _).1
                        case measure => simp [intOf]; omega
                      · obtain rfl : k3 = nw := by omega
                        have dl : decide ((k3 : Int) < (k3 : Int)) = false := by simp
                        go_wp2_with fail
                        clear xb
                        obtain ⟨X4, rfl⟩ : ∃ X4 : World, X4 = wr := ⟨_, rfl⟩
                        have hwas := hwasP.below hB3
                        have hbt := hbtP.trans (hB3.mono hbtP.size)
                        clear ho3 bm3 hwasP hbtP hB3
                        go_loopw [18] (fun i wr => ∃ (k4 : Nat), k4 ≤ k ∧ i = .int .i64 k4 ∧ Below X4.heap.size X4 wr) (fun i _ => k - (intOf i).toNat)
                        case atStart => exact ⟨0, by omega, rfl, Below.refl _ _⟩
                        case round =>
                          obtain ⟨k4, hk4, rfl, hb4⟩ := hrel
                          replace hwas := hwas.below hb4
                          replace hbt := hbt.trans (hb4.mono hbt.size)
                          have h := (h0.below hbt).more hbt.size
                          by_cases hk4n : k4 < k
                          · have dl : decide ((k4 : Int) < (k : Int)) = true := by simp; omega
                            have hkl : k4 < vs.length := by rw [hl.out]; omega
                            have hkw : k4 < ws.length := by rw [HWL.out]; omega
                            obtain ⟨ad, A', c', rfl, hab, v0, v1, v2, v3, hp, _, _⟩ := h.at_ hk4n hkl
                            obtain ⟨adw, Aw, cw, hAs, habw, u0, hpw⟩ := hwas.at_ hk4n hkw
                            subst hAs
                            have HEQ : Hid (vs[k4].week = ws[k4].1) := by
                              show vs[k4].week = ws[k4].1
                              have e := congrArg (fun z : List (List Pl) => z[k4]?) HMAP.out
                              simp only [List.getElem?_map, List.getElem?_eq_getElem hkl, List.getElem?_eq_getElem hkw, Option.map_some] at e
                              exact (Option.some.inj e).symm
                            clear v0 v2 v3
                            generalize vs[k4] = vk at *
                            generalize ws[k4] = wk at *
                            obtain ⟨vno, lk, vc, vb⟩ := vk
                            obtain ⟨lk', sk'⟩ := wk
                            dsimp only at *
                            have y0' := fun x : Ext wr.heap.size wr => cell_below v1 x.ok
                            have y1' := fun x : Ext wr.heap.size wr => cell_below u0 x.ok
                            clear v1 u0
                            have i0 : (0 : Int) ≤ (k4 : Int) := by omega
                            have i1 : (k4 : Int) < (k : Int) := by omega
                            go_wp2_with fail
                            refine wp_region_ext wr.heap.size (by kernel_rfl) (by kernel_rfl) ?_
                            repeat (go_big_quiet_step (first | (go_at_call 27; (with_reducible refine ext_call (Nat.le_refl _) (same4_true _ _ _ _ _ _ lk lk' _ (hp.ext _) (hpw.ext _) HEQ.out)))))
                            refine wpQuiet_nil ?_
                            rintro _ ⟨⟨W9, hW9⟩, rfl⟩
                            clear y0' y1'
                            go_wp2
                            go_roundw
                            case rel => exact ⟨k4 + 1, by omega, by go_num, hb4.trans (hW9.mono hb4.size)⟩
                            case measure => simp [intOf]; omega
                          · obtain rfl : k4 = k := by omega
                            have dl : decide ((k4 : Int) < (k4 : Int)) = false := by simp
                            go_wp2_with fail
                            go_ret
                            exact ⟨rfl, hbt⟩
                · have dF : (F == 0) = false := by simpa using hF
                  go_wp2_with fail
                  obtain ⟨X2, rfl⟩ : ∃ X2 : World, X2 = wr := ⟨_, rfl⟩
                  have hwas := hwasp.below hB'
                  have h := (hp.below hB').more hB'.size
                  have q5 := (q5p.below hB').more hB'.size
                  have r5 := (r5p.below hB').more hB'.size
                  have bm := blk_below bmp hB'
                  have ho := own_below hop hB'
                  have hB1 := hB1p.trans (hB'.mono hB1p.size)
                  have hbt := hbtp.trans (hB'.mono hbtp.size)
                  clear ho' bx' hB' hwasp hp q5p r5p bmp hop hB1p hbtp
                  refine (HR.out X2 h).mono ?_
                  rintro e w9 ⟨v, u, rfl, ho9, hp9, hb⟩
                  dsimp only at ho9 hp9 ⊢
                  obtain ⟨A9, k9, rfl, q9⟩ := own_rdP ho9 ok1
                  obtain ⟨P9, j9, rfl, r9⟩ := own_rdM hp9 ok2
                  clear ho9 hp9
                  replace hwas := hwas.below hb
                  replace h := (h.below hb).more hb.size
                  replace q5 := (q5.below hb).more hb.size
                  replace r5 := (r5.below hb).more hb.size
                  replace bm := blk_below bm hb
                  replace ho := own_below ho hb
                  replace hB1 := hB1.trans (hb.mono hB1.size)
                  replace hbt := hbt.trans (hb.mono hbt.size)
                  clear hb
                  obtain ⟨V9, hV⟩ : ∃ V9, V9 = w9.alloc (.cells #[.int .i64 m0, .int .i64 m1, .int .i64 m2, .int .i64 m3, .slice A9 lw.length k9, .slice P9 lm.length j9] 32) := ⟨_, rfl⟩
                  have bn := blk_new hV
                  have hb := below_new hV
                  replace hwas := hwas.below hb
                  replace h := (h.below hb).more hb.size
                  replace q5 := (q5.below hb).more hb.size
                  replace r5 := (r5.below hb).more hb.size
                  replace bm := blk_below bm hb
                  replace ho := own_below ho hb
                  replace hB1 := hB1.trans (hb.mono hB1.size)
                  replace q9 := (q9.below hb).more hb.size
                  replace r9 := (r9.below hb).more hb.size
                  replace hbt := hbt.trans (hb.mono hbt.size)
                  clear hb
                  have HSV9 : Hid (V9.heap.size = w9.heap.size + 1) := by show V9.heap.size = _; rw [hV, World.size_alloc]
                  have HVV9 := Lib.hid hV.symm
                  clear hV
                  have cbm0 := cell_of_row V9 w5.heap.size 0 _ _ _ bm
                  simp only [List.getElem?_toArray, List.getElem?_cons_zero, List.getElem?_cons_succ] at cbm0
                  have cbm1 := cell_of_row V9 w5.heap.size 1 _ _ _ bm
                  simp only [List.getElem?_toArray, List.getElem?_cons_zero, List.getElem?_cons_succ] at cbm1
                  have cbm2 := cell_of_row V9 w5.heap.size 2 _ _ _ bm
                  simp only [List.getElem?_toArray, List.getElem?_cons_zero, List.getElem?_cons_succ] at cbm2
                  have cbm3 := cell_of_row V9 w5.heap.size 3 _ _ _ bm
                  simp only [List.getElem?_toArray, List.getElem?_cons_zero, List.getElem?_cons_succ] at cbm3
                  have cbm4 := cell_of_row V9 w5.heap.size 4 _ _ _ bm
                  simp only [List.getElem?_toArray, List.getElem?_cons_zero, List.getElem?_cons_succ] at cbm4
                  have cbm5 := cell_of_row V9 w5.heap.size 5 _ _ _ bm
                  simp only [List.getElem?_toArray, List.getElem?_cons_zero, List.getElem?_cons_succ] at cbm5
                  have cbn0 := cell_of_row V9 w9.heap.size 0 _ _ _ bn
                  simp only [List.getElem?_toArray, List.getElem?_cons_zero, List.getElem?_cons_succ] at cbn0
                  have cbn1 := cell_of_row V9 w9.heap.size 1 _ _ _ bn
                  simp only [List.getElem?_toArray, List.getElem?_cons_zero, List.getElem?_cons_succ] at cbn1
                  have cbn2 := cell_of_row V9 w9.heap.size 2 _ _ _ bn
                  simp only [List.getElem?_toArray, List.getElem?_cons_zero, List.getElem?_cons_succ] at cbn2
                  have cbn3 := cell_of_row V9 w9.heap.size 3 _ _ _ bn
                  simp only [List.getElem?_toArray, List.getElem?_cons_zero, List.getElem?_cons_succ] at cbn3
                  have cbn4 := cell_of_row V9 w9.heap.size 4 _ _ _ bn
                  simp only [List.getElem?_toArray, List.getElem?_cons_zero, List.getElem?_cons_succ] at cbn4
                  have cbn5 := cell_of_row V9 w9.heap.size 5 _ _ _ bn
                  simp only [List.getElem?_toArray, List.getElem?_cons_zero, List.getElem?_cons_succ] at cbn5
                  rw [← HVV9.out] at cbm0 cbm1 cbm2 cbm3 cbm4 cbm5 cbn0 cbn1 cbn2 cbn3 cbn4 cbn5
                  go_wp2_with fail
                  rw [HVV9.out]
                  clear HVV9
                  clear cbm0 cbm1 cbm2 cbm3 cbm4 cbm5 cbn0 cbn1 cbn2 cbn3 cbn4 cbn5
                  refine (msgs_same m0 m1 m2 m3 _ _ _ _ _ _ _ _ _ _ _ _ lw lm V9 q5 q9 r5 r9).mono ?_
                  rintro e w10 ⟨rfl, hb⟩
                  replace hwas := hwas.below hb
                  replace h := (h.below hb).more hb.size
                  replace q5 := (q5.below hb).more hb.size
                  replace r5 := (r5.below hb).more hb.size
                  replace bm := blk_below bm hb
                  replace ho := own_below ho hb
                  replace hB1 := hB1.trans (hb.mono hB1.size)
                  replace q9 := (q9.below hb).more hb.size
                  replace r9 := (r9.below hb).more hb.size
                  replace bn := blk_below bn hb
                  replace hbt := hbt.trans (hb.mono hbt.size)
                  clear hb
                  go_wp2_with fail
                  go_loopw [17] (fun i wr => ∃ (k3 : Nat) (l3 : List Pl), k3 ≤ nw ∧ i = .int .i64 k3 ∧ l3.length = nw ∧ wr.ownsRow P1.heap.size 60 2 (.slice A5 nw k5) nw (pv l3) ∧ wr.heap[w5.heap.size]? = some (.cells #[.int .i64 m0, .int .i64 m1, .int .i64 m2, .int .i64 m3, .slice A5 nw k5, .slice P5 nm j5] 32) ∧ Below P1.heap.size P1 wr) (fun i _ => nw - (intOf i).toNat)
                  case atStart => exact ⟨0, lw, by omega, rfl, HNW.out.symm, ho, bm, hB1⟩
                  case round =>
                    obtain ⟨k3, l3, hk3, rfl, hl3, ho3, bm3, hB3⟩ := hrel
                    clear ho bm hB1 hbt hwas h q5 r5 q9 r9 bn
                    have HL3 := Lib.hid hl3
                    clear hl3
                    have xb := cell_of_row wr w5.heap.size 4 _ _ _ bm3
                    simp only [List.getElem?_toArray, List.getElem?_cons_zero, List.getElem?_cons_succ] at xb
                    by_cases hk3n : k3 < nw
                    · have dl : decide ((k3 : Int) < (nw : Int)) = true := by simp; omega
                      obtain ⟨g, cp, hAv, hg1, hg2⟩ := ho3.form (by omega)
                      injection hAv with ha _ hcv
                      subst ha hcv
                      have hkl' : k3 < l3.length := by rw [HL3.out]; omega
                      have q1 := ho3.cellAt (k3 * 2) (by omega)
                      have r1 : (pv l3)[k3 * 2]? = some (.int .i64 l3[k3].1) := by have := flat_get pcell_length l3 k3 0 hkl' (by omega); exact this
                      rw [r1] at q1
                      clear r1
                      have hf1 := ho3.frozenAt (k3 * 2)
                      have HST : Hid (∀ z : Int, _) := fun z : Int => ho3.stored (k3 * 2) (.int .i64 z)
                      have HSET : Hid (∀ z : Int, (pv l3).set (k3 * 2) (.int .i64 z) = pv (l3.set k3 (z, l3[k3].2))) := fun z => pv_set1 l3 k3 z hkl'
                      generalize l3[k3] = old at *
                      have hne : ¬ w5.heap.size = g := own_blk_ne ho3 bm3 (by decide) g rfl
                      have hne' : ¬ g = w5.heap.size := fun e => hne e.symm
                      go_wp2
                      go_roundw
                      case rel =>
                        refine ⟨k3 + 1, l3.set k3 (-1, old.2), by omega, by go_num, by rw [List.length_set]; exact HL3.out, ?_, (heap_setCell_other wr _ _ _ (by simpa using hne)).trans bm3, hB3.setCell (p := ⟨g, k3 * 2, none⟩) hg1 _⟩
                        rw [← HSET.out]
                        exact (HST.out _).1
                      case measure => simp [intOf]; omega
                    · obtain rfl : k3 = nw := by omega
                      have dl : decide ((k3 : Int) < (k3 : Int)) = false := by simp
                      go_wp2_with fail
                      clear xb
                      obtain ⟨X4, rfl⟩ : ∃ X4 : World, X4 = wr := ⟨_, rfl⟩
                      have hwas := hwasP.below hB3
                      have hbt := hbtP.trans (hB3.mono hbtP.size)
                      clear ho3 bm3 hwasP hbtP hB3
                      go_loopw [18] (fun i wr => ∃ (k4 : Nat), k4 ≤ k ∧ i = .int .i64 k4 ∧ Below X4.heap.size X4 wr) (fun i _ => k - (intOf i).toNat)
                      case atStart => exact ⟨0, by omega, rfl, Below.refl _ _⟩
                      case round =>
                        obtain ⟨k4, hk4, rfl, hb4⟩ := hrel
                        replace hwas := hwas.below hb4
                        replace hbt := hbt.trans (hb4.mono hbt.size)
                        have h := (h0.below hbt).more hbt.size
                        by_cases hk4n : k4 < k
                        · have dl : decide ((k4 : Int) < (k : Int)) = true := by simp; omega
                          have hkl : k4 < vs.length := by rw [hl.out]; omega
                          have hkw : k4 < ws.length := by rw [HWL.out]; omega
                          obtain ⟨ad, A', c', rfl, hab, v0, v1, v2, v3, hp, _, _⟩ := h.at_ hk4n hkl
                          obtain ⟨adw, Aw, cw, hAs, habw, u0, hpw⟩ := hwas.at_ hk4n hkw
                          subst hAs
                          have HEQ : Hid (vs[k4].week = ws[k4].1) := by
                            show vs[k4].week = ws[k4].1
                            have e := congrArg (fun z : List (List Pl) => z[k4]?) HMAP.out
                            simp only [List.getElem?_map, List.getElem?_eq_getElem hkl, List.getElem?_eq_getElem hkw, Option.map_some] at e
                            exact (Option.some.inj e).symm
                          clear v0 v2 v3
                          generalize vs[k4] = vk at *
                          generalize ws[k4] = wk at *
                          obtain ⟨vno, lk, vc, vb⟩ := vk
                          obtain ⟨lk', sk'⟩ := wk
                          dsimp only at *
                          have y0' := fun x : Ext wr.heap.size wr => cell_below v1 x.ok
                          have y1' := fun x : Ext wr.heap.size wr => cell_below u0 x.ok
                          clear v1 u0
                          have i0 : (0 : Int) ≤ (k4 : Int) := by omega
                          have i1 : (k4 : Int) < (k : Int) := by omega
                          go_wp2_with fail
                          refine wp_region_ext wr.heap.size (by kernel_rfl) (by kernel_rfl) ?_
                          repeat (go_big_quiet_step (first | (go_at_call 27; (with_reducible refine ext_call (Nat.le_refl _) (same4_true _ _ _ _ _ _ lk lk' _ (hp.ext _) (hpw.ext _) HEQ.out)))))
                          refine wpQuiet_nil ?_
                          rintro _ ⟨⟨W9, hW9⟩, rfl⟩
                          clear y0' y1'
                          go_wp2
                          go_roundw
                          case rel => exact ⟨k4 + 1, by omega, by go_num, hb4.trans (hW9.mono hb4.size)⟩
                          case measure => simp [intOf]; omega
                        · obtain rfl : k4 = k := by omega
                          have dl : decide ((k4 : Int) < (k4 : Int)) = false := by simp
                          go_wp2_with fail
                          go_ret
                          exact ⟨rfl, hbt⟩
            · have dE : (E != 0) = true := by simpa using hE
              go_wp2_with fail
              rw [HVP0.out]
              clear HVP0
              go_ret
              exact ⟨rfl, hbt⟩
      · rw [show errB (checkB vs) = 1 by rw [Bool.not_eq_true] at hck; rw [hck]; rfl]
        go_wp2_with fail
        go_ret
        exact ⟨rfl, hbt⟩
    · have d1 : decide ((70 : Int) < (n1' : Int)) = true := by simp; omega
      have cbc0 := cell_of_row w1 w.heap.size 0 _ _ _ bc
      simp only [List.getElem?_toArray, List.getElem?_cons_zero, List.getElem?_cons_succ] at cbc0
      have cbc1 := cell_of_row w1 w.heap.size 1 _ _ _ bc
      simp only [List.getElem?_toArray, List.getElem?_cons_zero, List.getElem?_cons_succ] at cbc1
      go_wp2_with fail
      clear cbc0 cbc1
      go_ret
      exact ⟨rfl, hbt⟩
end Go.Proofs.Ytmighpfjjaaknaa
