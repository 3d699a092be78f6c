/-
  WeekMoves, walked.
-/
import Derived.Test.YtcnldbhkppfmmaaDoorLawP4
namespace Go.Proofs.YtcnldbhkppfmmaaDoor
open Go.RowKit Go.Shelf
set_option linter.unusedVariables false
set_option linter.unusedSimpArgs false

set_option maxRecDepth 100000 in
set_option maxHeartbeats 8000000 in
theorem weekMoves_any (A : Option Addr) (n c : Nat) (l : List Pl) (B : Option Addr) (n' c' : Nat) (r : List Pl) (M : Option Addr) (m cm : Nat) (ms : List Mv) (C : Option Addr) (k cc : Nat) (cs : List UInt8) (at_ mx : Int) (w : World) (hl : RdP w w.heap.size A n c l) (hr : RdP w w.heap.size B n' c' r) (hM : RdM w w.heap.size M m cm ms) (hC : RdB w w.heap.size C k cc cs) (hat : okI at_) (hm : w.cell? ⟨0, 0, none⟩ = some (.int .i64 mx)) :
    Calls Tryd.prog 3 #[.agg #[.slice A n c], .agg #[.slice B n' c'], .slice M m cm, .slice C k cc, .int .i64 at_] w fun e w' => e = .returned (.bool true) ∧ Below w.heap.size w w' := by
  have hbt := Below.refl w.heap.size w
  have hl1 := hl.max
  have hl2 := hl.le
  have hlL := Lib.hid hl.len
  have hr1 := hr.max
  have hr2 := hr.le
  have hrL := Lib.hid hr.len
  have hM1 := hM.max
  have hM2 := hM.le
  have hML := Lib.hid hM.len
  have hC1 := hC.max
  have hC2 := hC.le
  have hCL := Lib.hid hC.len
  have HAT := Lib.hid hat
  unfold okI at hat
  obtain ⟨V1, hV⟩ : ∃ V1, V1 = w.alloc (.cells #[.slice A n c] 24) := ⟨_, rfl⟩
  have b1 := blk_new hV
  have hb := below_new hV
  replace hl := (hl.below hb).more hb.size
  replace hr := (hr.below hb).more hb.size
  replace hM := (hM.below hb).more hb.size
  replace hC := (hC.below hb).more hb.size
  replace hm := (hb.cell (World.block_lt_of_cell? _ _ hm)).trans hm
  replace hbt := hbt.trans (hb.mono hbt.size)
  clear hb
  have HSV1 : Hid (V1.heap.size = w.heap.size + 1) := by show V1.heap.size = _; rw [hV, World.size_alloc]
  have HVV1 := Lib.hid hV.symm
  clear hV
  obtain ⟨V2, hV⟩ : ∃ V2, V2 = V1.alloc (.cells #[.slice B n' c'] 24) := ⟨_, rfl⟩
  have b2 := blk_new hV
  have hb := below_new hV
  replace hl := (hl.below hb).more hb.size
  replace hr := (hr.below hb).more hb.size
  replace hM := (hM.below hb).more hb.size
  replace hC := (hC.below hb).more hb.size
  replace hm := (hb.cell (World.block_lt_of_cell? _ _ hm)).trans hm
  replace b1 := blk_below b1 hb
  replace hbt := hbt.trans (hb.mono hbt.size)
  clear hb
  have HSV2 : Hid (V2.heap.size = V1.heap.size + 1) := by show V2.heap.size = _; rw [hV, World.size_alloc]
  have HVV2 := Lib.hid hV.symm
  clear hV
  rw [HSV1.out] at b2
  rw [← HVV1.out] at HVV2
  clear HSV1 HSV2
  go_enter Tryd.func3, Tryd.ntmps3
  go_wp2_with fail
  rw [HVV2.out]
  clear HVV1 HVV2
  refine (live4_any mx V2 hm).mono ?_
  rintro e w1 ⟨rfl, hb⟩
  replace hl := (hl.below hb).more hb.size
  replace hr := (hr.below hb).more hb.size
  replace hM := (hM.below hb).more hb.size
  replace hC := (hC.below hb).more hb.size
  replace hm := (hb.cell (World.block_lt_of_cell? _ _ hm)).trans hm
  replace b1 := blk_below b1 hb
  replace b2 := blk_below b2 hb
  replace hbt := hbt.trans (hb.mono hbt.size)
  clear hb
  have c0 := blk_cell (j := 0) b1
  simp only [List.getElem?_toArray, List.getElem?_cons_zero, List.getElem?_cons_succ] at c0
  have d0 := blk_cell (j := 0) b2
  simp only [List.getElem?_toArray, List.getElem?_cons_zero, List.getElem?_cons_succ] at d0
  by_cases h1 : 100 < n
  · have th1 : decide ((100 : Int) < (n : Int)) = true := by simp; omega
    have uh1 : decide (100 < n) = true := by simp; omega
    go_wp2_with fail
    go_ret
    exact ⟨rfl, hbt⟩
  · have th1 : decide ((100 : Int) < (n : Int)) = false := by simp; omega
    have uh1 : decide (100 < n) = false := by simp; omega
    by_cases h2' : 100 < n'
    · have th2' : decide ((100 : Int) < (n' : Int)) = true := by simp; omega
      have uh2' : decide (100 < n') = true := by simp; omega
      go_wp2_with fail
      go_ret
      exact ⟨rfl, hbt⟩
    · have th2' : decide ((100 : Int) < (n' : Int)) = false := by simp; omega
      have uh2' : decide (100 < n') = false := by simp; omega
      by_cases h3' : 100 < m
      · have th3' : decide ((100 : Int) < (m : Int)) = true := by simp; omega
        have uh3' : decide (100 < m) = true := by simp; omega
        go_wp2_with fail
        go_ret
        exact ⟨rfl, hbt⟩
      · have th3' : decide ((100 : Int) < (m : Int)) = false := by simp; omega
        have uh3' : decide (100 < m) = false := by simp; omega
        by_cases h4' : 2000 < k
        · have th4' : decide ((2000 : Int) < (k : Int)) = true := by simp; omega
          have uh4' : decide (2000 < k) = true := by simp; omega
          go_wp2_with fail
          go_ret
          exact ⟨rfl, hbt⟩
        · have th4' : decide ((2000 : Int) < (k : Int)) = false := by simp; omega
          have uh4' : decide (2000 < k) = false := by simp; omega
          go_wp2_with fail
          clear c0 d0
          refine (diff_any A B n c n' c' l r w1 hl hr (by omega)).mono ?_
          rintro e w2 ⟨v2, rfl, ho2, hb⟩
          have okD := okMs_diffL (a := l) hr.2 (by rw [hrL.out]; omega)
          obtain ⟨A2, q2, rfl, h2⟩ := own_rdM ho2 okD
          clear ho2
          replace hl := (hl.below hb).more hb.size
          replace hr := (hr.below hb).more hb.size
          replace hM := (hM.below hb).more hb.size
          replace hC := (hC.below hb).more hb.size
          replace hm := (hb.cell (World.block_lt_of_cell? _ _ hm)).trans hm
          replace b1 := blk_below b1 hb
          replace b2 := blk_below b2 hb
          replace hbt := hbt.trans (hb.mono hbt.size)
          clear hb
          have c0 := blk_cell (j := 0) b1
          simp only [List.getElem?_toArray, List.getElem?_cons_zero, List.getElem?_cons_succ] at c0
          have d0 := blk_cell (j := 0) b2
          simp only [List.getElem?_toArray, List.getElem?_cons_zero, List.getElem?_cons_succ] at d0
          go_wp2_with fail
          clear c0 d0
          refine (rdiff_any A B n c n' c' l r w2 hl hr (by omega)).mono ?_
          rintro e w3 ⟨v3, rfl, ho3, hb⟩
          obtain ⟨A3, q3, rfl, h3⟩ := own_rdM ho3 okD
          clear ho3
          replace hl := (hl.below hb).more hb.size
          replace hr := (hr.below hb).more hb.size
          replace hM := (hM.below hb).more hb.size
          replace hC := (hC.below hb).more hb.size
          replace hm := (hb.cell (World.block_lt_of_cell? _ _ hm)).trans hm
          replace b1 := blk_below b1 hb
          replace b2 := blk_below b2 hb
          replace h2 := (h2.below hb).more hb.size
          replace hbt := hbt.trans (hb.mono hbt.size)
          clear hb
          have c0 := blk_cell (j := 0) b1
          simp only [List.getElem?_toArray, List.getElem?_cons_zero, List.getElem?_cons_succ] at c0
          have d0 := blk_cell (j := 0) b2
          simp only [List.getElem?_toArray, List.getElem?_cons_zero, List.getElem?_cons_succ] at d0
          go_wp2_with fail
          clear c0 d0
          obtain ⟨dl, hdl⟩ : ∃ dl, dl = (diffL l r).length := ⟨_, rfl⟩
          rw [← hdl] at h2 h3 ⊢
          have m21 := h2.max
          have m22 := h2.le
          have m31 := h3.max
          have m32 := h3.le
          generalize diffE l r = dE
          clear hdl
          have okA := okPs_appL2 hl.2 hM.2
          refine (apply_any A M n c m cm l ms w3 hl hM (by omega)).mono ?_
          rintro e w4 ⟨v4, rfl, ho4, hb⟩
          obtain ⟨A4, q4, rfl, h4⟩ := own_rdP ho4 okA.1
          clear ho4
          replace hl := (hl.below hb).more hb.size
          replace hr := (hr.below hb).more hb.size
          replace hM := (hM.below hb).more hb.size
          replace hC := (hC.below hb).more hb.size
          replace hm := (hb.cell (World.block_lt_of_cell? _ _ hm)).trans hm
          replace b1 := blk_below b1 hb
          replace b2 := blk_below b2 hb
          replace h2 := (h2.below hb).more hb.size
          replace h3 := (h3.below hb).more hb.size
          replace hbt := hbt.trans (hb.mono hbt.size)
          clear hb
          obtain ⟨al, hal⟩ : ∃ al, al = (appL l ms).length := ⟨_, rfl⟩
          rw [← hal] at h4 okA ⊢
          have HAL := Lib.hid hal
          clear hal
          have m41 := h4.max
          have m42 := h4.le
          have HAE : ∃ aE, aE = appE l ms := ⟨_, rfl⟩
          obtain ⟨aE, hae⟩ := HAE
          rw [← hae]
          have HAE := Lib.hid hae
          clear hae
          obtain ⟨V4, hV⟩ : ∃ V4, V4 = w4.alloc (.cells #[.slice A4 al q4] 24) := ⟨_, rfl⟩
          have b4 := blk_new hV
          have hb := below_new hV
          replace hl := (hl.below hb).more hb.size
          replace hr := (hr.below hb).more hb.size
          replace hM := (hM.below hb).more hb.size
          replace hC := (hC.below hb).more hb.size
          replace hm := (hb.cell (World.block_lt_of_cell? _ _ hm)).trans hm
          replace b1 := blk_below b1 hb
          replace b2 := blk_below b2 hb
          replace h2 := (h2.below hb).more hb.size
          replace h3 := (h3.below hb).more hb.size
          replace h4 := (h4.below hb).more hb.size
          replace hbt := hbt.trans (hb.mono hbt.size)
          clear hb
          have HSV4 : Hid (V4.heap.size = w4.heap.size + 1) := by show V4.heap.size = _; rw [hV, World.size_alloc]
          have HVV4 := Lib.hid hV.symm
          clear hV
          clear HSV4
          have c0 := blk_cell (j := 0) b1
          simp only [List.getElem?_toArray, List.getElem?_cons_zero, List.getElem?_cons_succ] at c0
          rw [← HVV4.out] at c0
          go_wp2_with fail
          rw [HVV4.out]
          clear c0 HVV4
          refine (rapply_any A M n c m cm l ms V4 hl hM (by omega)).mono ?_
          rintro e w5 ⟨v5, rfl, ho5, hb⟩
          rw [← HAL.out, ← HAE.out] at *
          obtain ⟨A5, q5, rfl, h5⟩ := own_rdP ho5 okA.1
          clear ho5
          replace hl := (hl.below hb).more hb.size
          replace hr := (hr.below hb).more hb.size
          replace hM := (hM.below hb).more hb.size
          replace hC := (hC.below hb).more hb.size
          replace hm := (hb.cell (World.block_lt_of_cell? _ _ hm)).trans hm
          replace b1 := blk_below b1 hb
          replace b2 := blk_below b2 hb
          replace h2 := (h2.below hb).more hb.size
          replace h3 := (h3.below hb).more hb.size
          replace h4 := (h4.below hb).more hb.size
          replace b4 := blk_below b4 hb
          replace hbt := hbt.trans (hb.mono hbt.size)
          clear hb
          have m51 := h5.max
          have m52 := h5.le
          obtain ⟨V5, hV⟩ : ∃ V5, V5 = w5.alloc (.cells #[.slice A5 al q5] 24) := ⟨_, rfl⟩
          have b5 := blk_new hV
          have hb := below_new hV
          replace hl := (hl.below hb).more hb.size
          replace hr := (hr.below hb).more hb.size
          replace hM := (hM.below hb).more hb.size
          replace hC := (hC.below hb).more hb.size
          replace hm := (hb.cell (World.block_lt_of_cell? _ _ hm)).trans hm
          replace b1 := blk_below b1 hb
          replace b2 := blk_below b2 hb
          replace h2 := (h2.below hb).more hb.size
          replace h3 := (h3.below hb).more hb.size
          replace h4 := (h4.below hb).more hb.size
          replace b4 := blk_below b4 hb
          replace h5 := (h5.below hb).more hb.size
          replace hbt := hbt.trans (hb.mono hbt.size)
          clear hb
          have HSV5 : Hid (V5.heap.size = w5.heap.size + 1) := by show V5.heap.size = _; rw [hV, World.size_alloc]
          have HVV5 := Lib.hid hV.symm
          clear hV
          clear HSV5
          go_wp2_with fail
          rw [HVV5.out]
          clear HVV5
          have okG := Vi.getW_okN (l := cs) at_ (by rw [hCL.out]; omega)
          have HG := Lib.hid okG
          clear okG
          refine (wGet_any C k cc cs at_ V5 hC hat (by omega)).mono ?_
          rintro e w6 ⟨v6, rfl, ho6, hb⟩
          obtain ⟨A6, q6, rfl, h6⟩ := own_rdP ho6 HG.out.1
          clear ho6
          replace hl := (hl.below hb).more hb.size
          replace hr := (hr.below hb).more hb.size
          replace hM := (hM.below hb).more hb.size
          replace hC := (hC.below hb).more hb.size
          replace hm := (hb.cell (World.block_lt_of_cell? _ _ hm)).trans hm
          replace b1 := blk_below b1 hb
          replace b2 := blk_below b2 hb
          replace h2 := (h2.below hb).more hb.size
          replace h3 := (h3.below hb).more hb.size
          replace h4 := (h4.below hb).more hb.size
          replace b4 := blk_below b4 hb
          replace h5 := (h5.below hb).more hb.size
          replace b5 := blk_below b5 hb
          replace hbt := hbt.trans (hb.mono hbt.size)
          clear hb
          have g1 := HG.out.2.1
          have g2 := HG.out.2.2
          obtain ⟨G, hG⟩ : ∃ G, G = Vi.getW cs at_ := ⟨_, rfl⟩
          rw [← hG] at h6 g1 g2 ⊢
          have HGG := Lib.hid hG
          clear hG
          unfold okI at g1
          obtain ⟨gl, hgl⟩ : ∃ gl, gl = G.1.length := ⟨_, rfl⟩
          rw [← hgl] at h6 g2 ⊢
          have HGL := Lib.hid hgl
          clear hgl
          have m61 := h6.max
          have m62 := h6.le
          obtain ⟨V6, hV⟩ : ∃ V6, V6 = w6.alloc (.cells #[.slice A6 gl q6] 24) := ⟨_, rfl⟩
          have b6 := blk_new hV
          have hb := below_new hV
          replace hl := (hl.below hb).more hb.size
          replace hr := (hr.below hb).more hb.size
          replace hM := (hM.below hb).more hb.size
          replace hC := (hC.below hb).more hb.size
          replace hm := (hb.cell (World.block_lt_of_cell? _ _ hm)).trans hm
          replace b1 := blk_below b1 hb
          replace b2 := blk_below b2 hb
          replace h2 := (h2.below hb).more hb.size
          replace h3 := (h3.below hb).more hb.size
          replace h4 := (h4.below hb).more hb.size
          replace b4 := blk_below b4 hb
          replace h5 := (h5.below hb).more hb.size
          replace b5 := blk_below b5 hb
          replace h6 := (h6.below hb).more hb.size
          replace hbt := hbt.trans (hb.mono hbt.size)
          clear hb
          have HSV6 : Hid (V6.heap.size = w6.heap.size + 1) := by show V6.heap.size = _; rw [hV, World.size_alloc]
          have HVV6 := Lib.hid hV.symm
          clear hV
          clear HSV6
          go_wp2_with fail
          rw [HVV6.out]
          clear HVV6
          refine (rGet4_any C k cc cs at_ V6 hC hat (by omega)).mono ?_
          rintro e w7 ⟨v7, rfl, ho7, hb⟩
          rw [← HGG.out] at ho7 ⊢
          obtain ⟨A7, q7, rfl, h7⟩ := own_rdP ho7 (by rw [HGG.out]; exact HG.out.1)
          clear ho7
          rw [← HGL.out] at h7 ⊢
          replace hl := (hl.below hb).more hb.size
          replace hr := (hr.below hb).more hb.size
          replace hM := (hM.below hb).more hb.size
          replace hC := (hC.below hb).more hb.size
          replace hm := (hb.cell (World.block_lt_of_cell? _ _ hm)).trans hm
          replace b1 := blk_below b1 hb
          replace b2 := blk_below b2 hb
          replace h2 := (h2.below hb).more hb.size
          replace h3 := (h3.below hb).more hb.size
          replace h4 := (h4.below hb).more hb.size
          replace b4 := blk_below b4 hb
          replace h5 := (h5.below hb).more hb.size
          replace b5 := blk_below b5 hb
          replace h6 := (h6.below hb).more hb.size
          replace b6 := blk_below b6 hb
          replace hbt := hbt.trans (hb.mono hbt.size)
          clear hb
          have m71 := h7.max
          have m72 := h7.le
          obtain ⟨V7, hV⟩ : ∃ V7, V7 = w7.alloc (.cells #[.slice A7 gl q7] 24) := ⟨_, rfl⟩
          have b7 := blk_new hV
          have hb := below_new hV
          replace hl := (hl.below hb).more hb.size
          replace hr := (hr.below hb).more hb.size
          replace hM := (hM.below hb).more hb.size
          replace hC := (hC.below hb).more hb.size
          replace hm := (hb.cell (World.block_lt_of_cell? _ _ hm)).trans hm
          replace b1 := blk_below b1 hb
          replace b2 := blk_below b2 hb
          replace h2 := (h2.below hb).more hb.size
          replace h3 := (h3.below hb).more hb.size
          replace h4 := (h4.below hb).more hb.size
          replace b4 := blk_below b4 hb
          replace h5 := (h5.below hb).more hb.size
          replace b5 := blk_below b5 hb
          replace h6 := (h6.below hb).more hb.size
          replace b6 := blk_below b6 hb
          replace h7 := (h7.below hb).more hb.size
          replace hbt := hbt.trans (hb.mono hbt.size)
          clear hb
          have HSV7 : Hid (V7.heap.size = w7.heap.size + 1) := by show V7.heap.size = _; rw [hV, World.size_alloc]
          have HVV7 := Lib.hid hV.symm
          clear hV
          clear HSV7
          obtain ⟨G1, G2, G3⟩ := G
          dsimp only at *
          go_wp2_with fail
          rw [HVV7.out]
          clear HVV7
          refine (moves_any A2 A3 dl q2 dl q3 _ _ V7 h2 h3).mono ?_
          rintro e w8 ⟨rfl, mm, hw8⟩
          rw [show decide (diffL l r = diffL l r) = true by simp]
          have hb : Below V7.heap.size V7 w8 := by rw [hw8]; exact below_drewN' (Below.refl _ _) _
          clear hw8
          replace hl := (hl.below hb).more hb.size
          replace hr := (hr.below hb).more hb.size
          replace hM := (hM.below hb).more hb.size
          replace hC := (hC.below hb).more hb.size
          replace hm := (hb.cell (World.block_lt_of_cell? _ _ hm)).trans hm
          replace b1 := blk_below b1 hb
          replace b2 := blk_below b2 hb
          replace h2 := (h2.below hb).more hb.size
          replace h3 := (h3.below hb).more hb.size
          replace h4 := (h4.below hb).more hb.size
          replace b4 := blk_below b4 hb
          replace h5 := (h5.below hb).more hb.size
          replace b5 := blk_below b5 hb
          replace h6 := (h6.below hb).more hb.size
          replace b6 := blk_below b6 hb
          replace h7 := (h7.below hb).more hb.size
          replace b7 := blk_below b7 hb
          replace hbt := hbt.trans (hb.mono hbt.size)
          clear hb
          have c0 := blk_cell (j := 0) b4
          simp only [List.getElem?_toArray, List.getElem?_cons_zero, List.getElem?_cons_succ] at c0
          have d0 := blk_cell (j := 0) b5
          simp only [List.getElem?_toArray, List.getElem?_cons_zero, List.getElem?_cons_succ] at d0
          go_wp2_with fail
          clear c0 d0
          refine (same4_any A4 A5 al q4 al q5 _ _ w8 h4 h5).mono ?_
          rintro e w9 ⟨rfl, hb⟩
          rw [show decide (appL l ms = appL l ms) = true by simp]
          replace hl := (hl.below hb).more hb.size
          replace hr := (hr.below hb).more hb.size
          replace hM := (hM.below hb).more hb.size
          replace hC := (hC.below hb).more hb.size
          replace hm := (hb.cell (World.block_lt_of_cell? _ _ hm)).trans hm
          replace b1 := blk_below b1 hb
          replace b2 := blk_below b2 hb
          replace h2 := (h2.below hb).more hb.size
          replace h3 := (h3.below hb).more hb.size
          replace h4 := (h4.below hb).more hb.size
          replace b4 := blk_below b4 hb
          replace h5 := (h5.below hb).more hb.size
          replace b5 := blk_below b5 hb
          replace h6 := (h6.below hb).more hb.size
          replace b6 := blk_below b6 hb
          replace h7 := (h7.below hb).more hb.size
          replace b7 := blk_below b7 hb
          replace hbt := hbt.trans (hb.mono hbt.size)
          clear hb
          go_wp2_with fail
          refine wp_region_plan [([0, 1, 2, 3], some 4), ([5, 6, 7, 8, 9, 10, 11, 12, 13, 14, 15, 16, 17, 18, 21, 22], some 19), ([20], some 23), ([24, 25, 26, 27], none)] (by kernel_rfl) (by kernel_rfl) ?_
          intro wd hsz hb
          clear hsz
          replace hl := (hl.below hb).more hb.size
          replace hr := (hr.below hb).more hb.size
          replace hM := (hM.below hb).more hb.size
          replace hC := (hC.below hb).more hb.size
          replace hm := (hb.cell (World.block_lt_of_cell? _ _ hm)).trans hm
          replace b1 := blk_below b1 hb
          replace b2 := blk_below b2 hb
          replace h2 := (h2.below hb).more hb.size
          replace h3 := (h3.below hb).more hb.size
          replace h4 := (h4.below hb).more hb.size
          replace b4 := blk_below b4 hb
          replace h5 := (h5.below hb).more hb.size
          replace b5 := blk_below b5 hb
          replace h6 := (h6.below hb).more hb.size
          replace b6 := blk_below b6 hb
          replace h7 := (h7.below hb).more hb.size
          replace b7 := blk_below b7 hb
          replace hbt := hbt.trans (hb.mono hbt.size)
          clear hb
          simp only [pickP, pick, List.map_cons, List.map_nil, Option.map_some, Option.map_none, List.getD_cons_zero, List.getD_cons_succ]
          have c0 : ∀ x : Ext wd.heap.size wd, x.val.cell? ⟨w6.heap.size, 0, none⟩ = some (.slice A6 gl q6) := fun x => ((x.cell (blk_lt b6)).trans (blk_cell b6)).trans rfl
          have d0 : ∀ x : Ext wd.heap.size wd, x.val.cell? ⟨w7.heap.size, 0, none⟩ = some (.slice A7 gl q7) := fun x => ((x.cell (blk_lt b7)).trans (blk_cell b7)).trans rfl
          refine plan_cons ?_
          (repeat (go_big_quiet_step (fail)))
          refine plan_nil ?_
          clear c0 d0
          refine plan_call (by kernel_rfl) (fun K hK => ?_)
          go_simp
          refine (same4_any A6 A7 gl q6 gl q7 _ _ wd h6 h7).mono ?_
          rintro e w10 ⟨rfl, hb⟩
          rw [show decide (G1 = G1) = true by simp]
          refine hK.out _ _ hb ?_
          clear hK K
          (try simp only [Act.put, List.setIfInBounds_toArray, List.set_cons_zero, List.set_cons_succ])
          replace hl := (hl.below hb).more hb.size
          replace hr := (hr.below hb).more hb.size
          replace hM := (hM.below hb).more hb.size
          replace hC := (hC.below hb).more hb.size
          replace hm := (hb.cell (World.block_lt_of_cell? _ _ hm)).trans hm
          replace b1 := blk_below b1 hb
          replace b2 := blk_below b2 hb
          replace h2 := (h2.below hb).more hb.size
          replace h3 := (h3.below hb).more hb.size
          replace h4 := (h4.below hb).more hb.size
          replace b4 := blk_below b4 hb
          replace h5 := (h5.below hb).more hb.size
          replace b5 := blk_below b5 hb
          replace h6 := (h6.below hb).more hb.size
          replace b6 := blk_below b6 hb
          replace h7 := (h7.below hb).more hb.size
          replace b7 := blk_below b7 hb
          replace hbt := hbt.trans (hb.mono hbt.size)
          clear hb
          have c0 : ∀ x : Ext w10.heap.size w10, x.val.cell? ⟨w.heap.size, 0, none⟩ = some (.slice A n c) := fun x => ((x.cell (blk_lt b1)).trans (blk_cell b1)).trans rfl
          refine plan_cons ?_
          (repeat (go_big_quiet_step (fail)))
          refine plan_nil ?_
          clear c0
          refine plan_call (by kernel_rfl) (fun K hK => ?_)
          go_simp
          refine (wPut_any C k cc cs A n c l w10 hC hl (by omega) (by omega)).mono ?_
          rintro e w11 ⟨v11, rfl, ho11, hb⟩
          obtain ⟨A11, q11, rfl, h11⟩ := own_rdB ho11
          clear ho11
          refine hK.out _ _ hb ?_
          clear hK K
          (try simp only [Act.put, List.setIfInBounds_toArray, List.set_cons_zero, List.set_cons_succ])
          replace hl := (hl.below hb).more hb.size
          replace hr := (hr.below hb).more hb.size
          replace hM := (hM.below hb).more hb.size
          replace hC := (hC.below hb).more hb.size
          replace hm := (hb.cell (World.block_lt_of_cell? _ _ hm)).trans hm
          replace b1 := blk_below b1 hb
          replace b2 := blk_below b2 hb
          replace h2 := (h2.below hb).more hb.size
          replace h3 := (h3.below hb).more hb.size
          replace h4 := (h4.below hb).more hb.size
          replace b4 := blk_below b4 hb
          replace h5 := (h5.below hb).more hb.size
          replace b5 := blk_below b5 hb
          replace h6 := (h6.below hb).more hb.size
          replace b6 := blk_below b6 hb
          replace h7 := (h7.below hb).more hb.size
          replace b7 := blk_below b7 hb
          replace hbt := hbt.trans (hb.mono hbt.size)
          clear hb
          have s1 : ∀ x : Ext w11.heap.size w11, _ := fun x => run_str (h11.below x.ok)
          refine plan_cons ?_
          (repeat (go_big_quiet_step (fail)))
          refine plan_nil ?_
          clear s1
          refine plan_call (by kernel_rfl) (fun K hK => ?_)
          go_simp
          refine (rPut4_any C k cc cs A n c l w11 hC hl (by omega) (by omega)).mono ?_
          rintro e w12 ⟨v12, rfl, ho12, hb⟩
          obtain ⟨A12, q12, rfl, h12⟩ := own_rdB ho12
          clear ho12
          refine hK.out _ _ hb ?_
          clear hK K
          (try simp only [Act.put, List.setIfInBounds_toArray, List.set_cons_zero, List.set_cons_succ])
          replace hl := (hl.below hb).more hb.size
          replace hr := (hr.below hb).more hb.size
          replace hM := (hM.below hb).more hb.size
          replace hC := (hC.below hb).more hb.size
          replace hm := (hb.cell (World.block_lt_of_cell? _ _ hm)).trans hm
          replace b1 := blk_below b1 hb
          replace b2 := blk_below b2 hb
          replace h2 := (h2.below hb).more hb.size
          replace h3 := (h3.below hb).more hb.size
          replace h4 := (h4.below hb).more hb.size
          replace b4 := blk_below b4 hb
          replace h5 := (h5.below hb).more hb.size
          replace b5 := blk_below b5 hb
          replace h6 := (h6.below hb).more hb.size
          replace b6 := blk_below b6 hb
          replace h7 := (h7.below hb).more hb.size
          replace b7 := blk_below b7 hb
          replace h11 := (h11.below hb).more hb.size
          replace hbt := hbt.trans (hb.mono hbt.size)
          clear hb
          have s1 : ∀ x : Ext w12.heap.size w12, _ := fun x => run_str (h12.below x.ok)
          refine plan_cons ?_
          (repeat (go_big_quiet_step (fail)))
          refine plan_nil ?_
          clear s1
          refine plan_end ?_
          go_wp2_with fail
          go_ret
          exact ⟨rfl, hbt⟩

end Go.Proofs.YtcnldbhkppfmmaaDoor
