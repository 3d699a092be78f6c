/-
  WeekBytes, walked.
-/
import Derived.Test.YtcnldbhkppfmmaaDoorLawP4
namespace Go.Proofs.YtcnldbhkppfmmaaDoor
open Go.RowKit Go.Shelf
set_option linter.unusedVariables false
set_option linter.unusedSimpArgs false

set_option maxRecDepth 100000 in
set_option maxHeartbeats 8000000 in
theorem weekBytes_any (A : Option Addr) (n c : Nat) (l : List Pl) (C : Option Addr) (k cc : Nat) (cs : List UInt8) (at_ mx : Int) (w : World) (hl : RdP w w.heap.size A n c l) (hC : RdB w w.heap.size C k cc cs) (hat : okI at_) (hm : w.cell? ⟨0, 0, none⟩ = some (.int .i64 mx)) :
    Calls Tryd.prog 8 #[.agg #[.slice A n c], .slice C k cc, .int .i64 at_] w fun e w' => e = .returned (.bool true) ∧ Below w.heap.size w w' := by
  have hbt := Below.refl w.heap.size w
  have hl1 := hl.max
  have hl2 := hl.le
  have hlL := Lib.hid hl.len
  have hC1 := hC.max
  have hC2 := hC.le
  have hCL := Lib.hid hC.len
  unfold okI at hat
  obtain ⟨V1, hV⟩ : ∃ V1, V1 = w.alloc (.cells #[.slice A n c] 24) := ⟨_, rfl⟩
  have b1 := blk_new hV
  have hb := below_new hV
  replace hl := (hl.below hb).more hb.size
  replace hC := (hC.below hb).more hb.size
  replace hm := (hb.cell (World.block_lt_of_cell? _ _ hm)).trans hm
  replace hbt := hbt.trans (hb.mono hbt.size)
  clear hb
  have HSV1 : Hid (V1.heap.size = w.heap.size + 1) := by show V1.heap.size = _; rw [hV, World.size_alloc]
  have HVV1 := Lib.hid hV.symm
  clear hV
  clear HSV1
  go_enter Tryd.func8, Tryd.ntmps8
  go_wp2_with fail
  rw [HVV1.out]
  clear HVV1
  refine (live4_any mx V1 hm).mono ?_
  rintro e w1 ⟨rfl, hb⟩
  replace hl := (hl.below hb).more hb.size
  replace hC := (hC.below hb).more hb.size
  replace hm := (hb.cell (World.block_lt_of_cell? _ _ hm)).trans hm
  replace b1 := blk_below b1 hb
  replace hbt := hbt.trans (hb.mono hbt.size)
  clear hb
  have c0 := blk_cell (j := 0) b1
  simp only [List.getElem?_toArray, List.getElem?_cons_zero, List.getElem?_cons_succ] at c0
  by_cases h1 : 100 < n
  · have th1 : decide ((100 : Int) < (n : Int)) = true := by simp; omega
    have uh1 : decide (100 < n) = true := by simp; omega
    go_wp2_with fail
    go_ret
    exact ⟨rfl, hbt⟩
  · have th1 : decide ((100 : Int) < (n : Int)) = false := by simp; omega
    have uh1 : decide (100 < n) = false := by simp; omega
    by_cases h2' : 2000 < k
    · have th2' : decide ((2000 : Int) < (k : Int)) = true := by simp; omega
      have uh2' : decide (2000 < k) = true := by simp; omega
      go_wp2_with fail
      go_ret
      exact ⟨rfl, hbt⟩
    · have th2' : decide ((2000 : Int) < (k : Int)) = false := by simp; omega
      have uh2' : decide (2000 < k) = false := by simp; omega
      go_wp2_with fail
      clear c0
      have pl := Vi.putW_len hl.2 (by rw [hlL.out]; omega)
      rw [hlL.out] at pl
      obtain ⟨P, hP⟩ : ∃ P, P = Vi.putW l := ⟨_, rfl⟩
      have HP := Lib.hid hP
      refine (wPut_any C k cc cs A n c l w1 hC hl (by omega) (by omega)).mono ?_
      rintro e w2 ⟨v2, rfl, ho2, hb⟩
      rw [← hP] at ho2 pl
      clear hP
      obtain ⟨A2, q2, rfl, h2⟩ := own_rdB ho2
      clear ho2
      replace hl := (hl.below hb).more hb.size
      replace hC := (hC.below hb).more hb.size
      replace hm := (hb.cell (World.block_lt_of_cell? _ _ hm)).trans hm
      replace b1 := blk_below b1 hb
      replace hbt := hbt.trans (hb.mono hbt.size)
      clear hb
      obtain ⟨x, hx⟩ : ∃ x, x = k + P.length := ⟨_, rfl⟩
      rw [← hx] at h2 ⊢
      have HX := Lib.hid hx
      have hx2 : x ≤ 5000 := by omega
      clear hx pl
      have m21 := h2.max
      have m22 := h2.le
      go_wp2_with fail
      have hdr : (cs ++ P).drop k = Vi.putW l ++ [] := by rw [← HP.out, List.append_nil, ← hCL.out, List.drop_left]
      have HDR := Lib.hid hdr
      clear hdr
      by_cases h64 : 64 < n
      · have th64 : decide ((64 : Int) < (n : Int)) = true := by simp; omega
        have uh64 : decide (64 < n) = true := by simp; omega
        refine (wGet_any A2 x q2 (cs ++ P) (k : Int) w2 h2 (by omega) (by omega)).mono ?_
        rintro e w3 ⟨v3, rfl, ho3, hb⟩
        rw [Vi.getW_big HDR.out (by rw [hlL.out]; omega) (by rw [hlL.out]; omega)] at ho3 ⊢
        dsimp only at ho3 ⊢
        obtain ⟨A3, q3, rfl, h3⟩ := own_rdP (l := []) ho3 (by simp [okPs])
        change RdP w3 w3.heap.size A3 0 q3 [] at h3
        clear ho3
        replace hl := (hl.below hb).more hb.size
        replace hC := (hC.below hb).more hb.size
        replace hm := (hb.cell (World.block_lt_of_cell? _ _ hm)).trans hm
        replace b1 := blk_below b1 hb
        replace h2 := (h2.below hb).more hb.size
        replace hbt := hbt.trans (hb.mono hbt.size)
        clear hb
        have m31 := h3.max
        have m32 := h3.le
        obtain ⟨V3, hV⟩ : ∃ V3, V3 = w3.alloc (.cells #[.slice A3 0 q3] 24) := ⟨_, rfl⟩
        have b3 := blk_new hV
        have hb := below_new hV
        replace hl := (hl.below hb).more hb.size
        replace hC := (hC.below hb).more hb.size
        replace hm := (hb.cell (World.block_lt_of_cell? _ _ hm)).trans hm
        replace b1 := blk_below b1 hb
        replace h2 := (h2.below hb).more hb.size
        replace hbt := hbt.trans (hb.mono hbt.size)
        clear hb
        have HSV3 : Hid (V3.heap.size = w3.heap.size + 1) := by show V3.heap.size = _; rw [hV, World.size_alloc]
        have HVV3 := Lib.hid hV.symm
        clear hV
        clear HSV3
        have c0 := blk_cell (j := 0) b1
        simp only [List.getElem?_toArray, List.getElem?_cons_zero, List.getElem?_cons_succ] at c0
        rw [← HVV3.out] at c0
        rw [show ([] : List Pl).length = 0 from rfl]
        go_wp2_with fail
        rw [HVV3.out]
        clear c0 HVV3
        refine (wGet_any C k cc cs at_ V3 hC (by omega) (by omega)).mono ?_
        rintro e w6 ⟨v6, rfl, ho6, hb⟩
        have okG := Vi.getW_okN (l := cs) at_ (by rw [hCL.out]; omega)
        obtain ⟨A6, q6, rfl, h6⟩ := own_rdP ho6 okG.1
        clear ho6
        replace hl := (hl.below hb).more hb.size
        replace hC := (hC.below hb).more hb.size
        replace hm := (hb.cell (World.block_lt_of_cell? _ _ hm)).trans hm
        replace b1 := blk_below b1 hb
        replace h2 := (h2.below hb).more hb.size
        replace b3 := blk_below b3 hb
        replace hbt := hbt.trans (hb.mono hbt.size)
        clear hb
        have HC := Lib.hid (Vi.getW_canon (l := cs) (a := at_))
        have HE := Lib.hid (Vi.getW_err (l := cs) (a := at_))
        obtain ⟨G, hG⟩ : ∃ G, G = Vi.getW cs at_ := ⟨_, rfl⟩
        rw [← hG] at h6 okG HC HE ⊢
        clear hG
        obtain ⟨g1, g2⟩ := okG.2
        unfold okI at g1
        clear okG
        obtain ⟨G1, G2, G3⟩ := G
        dsimp only at *
        obtain ⟨gl, hgl⟩ : ∃ gl, gl = G1.length := ⟨_, rfl⟩
        rw [← hgl] at h6 g2 ⊢
        have HGL := Lib.hid hgl
        clear hgl
        have m61 := h6.max
        have m62 := h6.le
        obtain ⟨V6, hV⟩ : ∃ V6, V6 = w6.alloc (.cells #[.slice A6 gl q6] 24) := ⟨_, rfl⟩
        have b6 := blk_new hV
        have hb := below_new hV
        replace hl := (hl.below hb).more hb.size
        replace hC := (hC.below hb).more hb.size
        replace hm := (hb.cell (World.block_lt_of_cell? _ _ hm)).trans hm
        replace b1 := blk_below b1 hb
        replace h2 := (h2.below hb).more hb.size
        replace b3 := blk_below b3 hb
        replace h6 := (h6.below hb).more hb.size
        replace hbt := hbt.trans (hb.mono hbt.size)
        clear hb
        have HSV6 : Hid (V6.heap.size = w6.heap.size + 1) := by show V6.heap.size = _; rw [hV, World.size_alloc]
        have HVV6 := Lib.hid hV.symm
        clear hV
        clear HSV6
        by_cases he : ¬ G3 = 0
        · have d5 : (G3 != 0) = true := by simp; omega
          have h1 := HE.out he
          injection h1 with h1 h2'
          injection h2' with h2' _
          have hg0 : gl = 0 := by rw [HGL.out, h1]; rfl
          subst hg0 h2'
          clear h1
          have c0 := blk_cell (j := 0) b6
          simp only [List.getElem?_toArray, List.getElem?_cons_zero, List.getElem?_cons_succ] at c0
          rw [← HVV6.out] at c0
          go_wp2_with fail
          rw [HVV6.out]
          go_wp2_with fail
          go_ret
          exact ⟨rfl, hbt⟩
        · have he : G3 = 0 := Classical.not_not.1 he
          subst he
          obtain ⟨k1, k2, k3, k4, k5, k6, k7⟩ := HC.out rfl
          clear HC HE
          obtain ⟨a, rfl⟩ : ∃ a : Nat, at_ = a := ⟨at_.toNat, by omega⟩
          obtain ⟨y, rfl⟩ : ∃ y : Nat, G2 = y := ⟨G2.toNat, by omega⟩
          rw [Int.toNat_natCast, Int.toNat_natCast] at k2
          have hay : a < y := by omega
          have hyk : y ≤ k := by rw [← hCL.out]; omega
          have K6 := Lib.hid k6
          have ht : (cs.drop a).take (y - a) = Vi.putW G1 := by
            rw [k2, List.take_left' (by omega)]
          have HT := Lib.hid ht
          clear ht k2 k3 k6
          obtain ⟨ad, rfl, _, _⟩ := RdB.at_ hC (k := 0) (by omega) (by rw [hCL.out]; omega)
          have hcut := (hC.cut (k := a) (by omega)).upto (k := y - a) (by omega)
          rw [HT.out, if_neg (by omega)] at hcut
          change RdB _ _ (some (ad.add a)) _ _ _ at hcut
          have e1 : decide ((0 : Int) ≤ (a : Int)) = true := by simp
          have e2 : decide ((a : Int) < (y : Int)) = true := by simp; omega
          have e3 : decide ((y : Int) ≤ (k : Int)) = true := by simp; omega
          have e4 : ¬ cc = a := by omega
          have e5 : ((a : Nat) ≤ y ∧ y ≤ cc) := by omega
          clear hcut
          go_wp2_with fail
          rw [HVV6.out]
          clear HVV6
          refine wp_region_plan [([0, 1, 2, 3, 4, 5, 6, 7, 8, 9, 10, 11, 12, 13, 14, 17, 18, 19, 20, 21], some 15), ([16, 22, 23, 24], none)] (by kernel_rfl) (by kernel_rfl) ?_
          intro wd hsz hb
          clear hsz
          replace hl := (hl.below hb).more hb.size
          replace hC := (hC.below hb).more hb.size
          replace hm := (hb.cell (World.block_lt_of_cell? _ _ hm)).trans hm
          replace b1 := blk_below b1 hb
          replace h2 := (h2.below hb).more hb.size
          replace b3 := blk_below b3 hb
          replace h6 := (h6.below hb).more hb.size
          replace b6 := blk_below b6 hb
          replace hbt := hbt.trans (hb.mono hbt.size)
          clear hb
          simp only [pickP, pick, List.map_cons, List.map_nil, Option.map_some, Option.map_none, List.getD_cons_zero, List.getD_cons_succ]
          have hcut := (hC.cut (k := a) (by omega)).upto (k := y - a) (by omega)
          rw [HT.out, if_neg e4] at hcut
          change RdB _ _ (some (ad.add a)) _ _ _ at hcut
          have s2 : ∀ x : Ext wd.heap.size wd, _ := fun x => run_str (hcut.below x.ok)
          have c0 : ∀ x : Ext wd.heap.size wd, x.val.cell? ⟨w6.heap.size, 0, none⟩ = some (.slice A6 gl q6) := fun x => ((x.cell (blk_lt b6)).trans (blk_cell b6)).trans rfl
          refine plan_cons ?_
          (repeat (go_big_quiet_step (fail)))
          refine plan_nil ?_
          clear c0 s2 hcut
          refine plan_call (by kernel_rfl) (fun K hK => ?_)
          go_simp
          refine (wPut_any none 0 0 [] A6 gl q6 G1 wd (RdB.nil _ _) h6 (by omega) (by omega)).mono ?_
          rintro e w9 ⟨v9, rfl, ho9, hb⟩
          rw [Nat.zero_add, List.nil_append] at ho9
          obtain ⟨A9, q9, rfl, h9⟩ := own_rdB ho9
          clear ho9
          refine hK.out _ _ hb ?_
          clear hK K
          (try simp only [Act.put, List.setIfInBounds_toArray, List.set_cons_zero, List.set_cons_succ])
          replace hl := (hl.below hb).more hb.size
          replace hC := (hC.below hb).more hb.size
          replace hm := (hb.cell (World.block_lt_of_cell? _ _ hm)).trans hm
          replace b1 := blk_below b1 hb
          replace h2 := (h2.below hb).more hb.size
          replace b3 := blk_below b3 hb
          replace h6 := (h6.below hb).more hb.size
          replace b6 := blk_below b6 hb
          replace hbt := hbt.trans (hb.mono hbt.size)
          clear hb
          have s1 : ∀ x : Ext w9.heap.size w9, _ := fun x => run_str (h9.below x.ok)
          refine plan_cons ?_
          (repeat (go_big_quiet_step (fail)))
          refine plan_nil ?_
          clear s1
          refine plan_end ?_
          go_wp2_with fail
          go_ret
          exact ⟨rfl, hbt⟩
      · have th64 : decide ((64 : Int) < (n : Int)) = false := by simp; omega
        have uh64 : decide (64 < n) = false := by simp; omega
        refine (wGet_any A2 x q2 (cs ++ P) (k : Int) w2 h2 (by omega) (by omega)).mono ?_
        rintro e w3 ⟨v3, rfl, ho3, hb⟩
        rw [Vi.getW_put HDR.out (by rw [hlL.out]; omega) hl.2, ← HP.out] at ho3 ⊢
        dsimp only at ho3 ⊢
        rw [hlL.out] at ho3
        obtain ⟨A3, q3, rfl, h3⟩ := own_rdP ho3 hl.2
        clear ho3
        rw [show ((k : Nat) : Int) + (P.length : Int) = (x : Int) by rw [HX.out]; omega]
        replace hl := (hl.below hb).more hb.size
        replace hC := (hC.below hb).more hb.size
        replace hm := (hb.cell (World.block_lt_of_cell? _ _ hm)).trans hm
        replace b1 := blk_below b1 hb
        replace h2 := (h2.below hb).more hb.size
        replace hbt := hbt.trans (hb.mono hbt.size)
        clear hb
        have m31 := h3.max
        have m32 := h3.le
        obtain ⟨V3, hV⟩ : ∃ V3, V3 = w3.alloc (.cells #[.slice A3 n q3] 24) := ⟨_, rfl⟩
        have b3 := blk_new hV
        have hb := below_new hV
        replace hl := (hl.below hb).more hb.size
        replace hC := (hC.below hb).more hb.size
        replace hm := (hb.cell (World.block_lt_of_cell? _ _ hm)).trans hm
        replace b1 := blk_below b1 hb
        replace h2 := (h2.below hb).more hb.size
        replace h3 := (h3.below hb).more hb.size
        replace hbt := hbt.trans (hb.mono hbt.size)
        clear hb
        have HSV3 : Hid (V3.heap.size = w3.heap.size + 1) := by show V3.heap.size = _; rw [hV, World.size_alloc]
        have HVV3 := Lib.hid hV.symm
        clear hV
        clear HSV3
        have c0 := blk_cell (j := 0) b1
        simp only [List.getElem?_toArray, List.getElem?_cons_zero, List.getElem?_cons_succ] at c0
        have d0 := blk_cell (j := 0) b3
        simp only [List.getElem?_toArray, List.getElem?_cons_zero, List.getElem?_cons_succ] at d0
        rw [← HVV3.out] at c0 d0
        go_wp2_with fail
        rw [HVV3.out]
        clear c0 d0 HVV3
        refine (same4_any A3 A n q3 n c _ _ V3 h3 hl).mono ?_
        rintro e w4 ⟨rfl, hb⟩
        rw [show decide (l = l) = true by simp]
        replace hl := (hl.below hb).more hb.size
        replace hC := (hC.below hb).more hb.size
        replace hm := (hb.cell (World.block_lt_of_cell? _ _ hm)).trans hm
        replace b1 := blk_below b1 hb
        replace h2 := (h2.below hb).more hb.size
        replace h3 := (h3.below hb).more hb.size
        replace b3 := blk_below b3 hb
        replace hbt := hbt.trans (hb.mono hbt.size)
        clear hb
        go_wp2_with fail
        refine (wGet_any C k cc cs at_ w4 hC (by omega) (by omega)).mono ?_
        rintro e w6 ⟨v6, rfl, ho6, hb⟩
        have okG := Vi.getW_okN (l := cs) at_ (by rw [hCL.out]; omega)
        obtain ⟨A6, q6, rfl, h6⟩ := own_rdP ho6 okG.1
        clear ho6
        replace hl := (hl.below hb).more hb.size
        replace hC := (hC.below hb).more hb.size
        replace hm := (hb.cell (World.block_lt_of_cell? _ _ hm)).trans hm
        replace b1 := blk_below b1 hb
        replace h2 := (h2.below hb).more hb.size
        replace h3 := (h3.below hb).more hb.size
        replace b3 := blk_below b3 hb
        replace hbt := hbt.trans (hb.mono hbt.size)
        clear hb
        have HC := Lib.hid (Vi.getW_canon (l := cs) (a := at_))
        have HE := Lib.hid (Vi.getW_err (l := cs) (a := at_))
        obtain ⟨G, hG⟩ : ∃ G, G = Vi.getW cs at_ := ⟨_, rfl⟩
        rw [← hG] at h6 okG HC HE ⊢
        clear hG
        obtain ⟨g1, g2⟩ := okG.2
        unfold okI at g1
        clear okG
        obtain ⟨G1, G2, G3⟩ := G
        dsimp only at *
        obtain ⟨gl, hgl⟩ : ∃ gl, gl = G1.length := ⟨_, rfl⟩
        rw [← hgl] at h6 g2 ⊢
        have HGL := Lib.hid hgl
        clear hgl
        have m61 := h6.max
        have m62 := h6.le
        obtain ⟨V6, hV⟩ : ∃ V6, V6 = w6.alloc (.cells #[.slice A6 gl q6] 24) := ⟨_, rfl⟩
        have b6 := blk_new hV
        have hb := below_new hV
        replace hl := (hl.below hb).more hb.size
        replace hC := (hC.below hb).more hb.size
        replace hm := (hb.cell (World.block_lt_of_cell? _ _ hm)).trans hm
        replace b1 := blk_below b1 hb
        replace h2 := (h2.below hb).more hb.size
        replace h3 := (h3.below hb).more hb.size
        replace b3 := blk_below b3 hb
        replace h6 := (h6.below hb).more hb.size
        replace hbt := hbt.trans (hb.mono hbt.size)
        clear hb
        have HSV6 : Hid (V6.heap.size = w6.heap.size + 1) := by show V6.heap.size = _; rw [hV, World.size_alloc]
        have HVV6 := Lib.hid hV.symm
        clear hV
        clear HSV6
        by_cases he : ¬ G3 = 0
        · have d5 : (G3 != 0) = true := by simp; omega
          have h1 := HE.out he
          injection h1 with h1 h2'
          injection h2' with h2' _
          have hg0 : gl = 0 := by rw [HGL.out, h1]; rfl
          subst hg0 h2'
          clear h1
          have c0 := blk_cell (j := 0) b6
          simp only [List.getElem?_toArray, List.getElem?_cons_zero, List.getElem?_cons_succ] at c0
          rw [← HVV6.out] at c0
          go_wp2_with fail
          rw [HVV6.out]
          go_wp2_with fail
          go_ret
          exact ⟨rfl, hbt⟩
        · have he : G3 = 0 := Classical.not_not.1 he
          subst he
          obtain ⟨k1, k2, k3, k4, k5, k6, k7⟩ := HC.out rfl
          clear HC HE
          obtain ⟨a, rfl⟩ : ∃ a : Nat, at_ = a := ⟨at_.toNat, by omega⟩
          obtain ⟨y, rfl⟩ : ∃ y : Nat, G2 = y := ⟨G2.toNat, by omega⟩
          rw [Int.toNat_natCast, Int.toNat_natCast] at k2
          have hay : a < y := by omega
          have hyk : y ≤ k := by rw [← hCL.out]; omega
          have K6 := Lib.hid k6
          have ht : (cs.drop a).take (y - a) = Vi.putW G1 := by
            rw [k2, List.take_left' (by omega)]
          have HT := Lib.hid ht
          clear ht k2 k3 k6
          obtain ⟨ad, rfl, _, _⟩ := RdB.at_ hC (k := 0) (by omega) (by rw [hCL.out]; omega)
          have hcut := (hC.cut (k := a) (by omega)).upto (k := y - a) (by omega)
          rw [HT.out, if_neg (by omega)] at hcut
          change RdB _ _ (some (ad.add a)) _ _ _ at hcut
          have e1 : decide ((0 : Int) ≤ (a : Int)) = true := by simp
          have e2 : decide ((a : Int) < (y : Int)) = true := by simp; omega
          have e3 : decide ((y : Int) ≤ (k : Int)) = true := by simp; omega
          have e4 : ¬ cc = a := by omega
          have e5 : ((a : Nat) ≤ y ∧ y ≤ cc) := by omega
          clear hcut
          go_wp2_with fail
          rw [HVV6.out]
          clear HVV6
          refine wp_region_plan [([0, 1, 2, 3, 4, 5, 6, 7, 8, 9, 10, 11, 12, 13, 14, 17, 18, 19, 20, 21], some 15), ([16, 22, 23, 24], none)] (by kernel_rfl) (by kernel_rfl) ?_
          intro wd hsz hb
          clear hsz
          replace hl := (hl.below hb).more hb.size
          replace hC := (hC.below hb).more hb.size
          replace hm := (hb.cell (World.block_lt_of_cell? _ _ hm)).trans hm
          replace b1 := blk_below b1 hb
          replace h2 := (h2.below hb).more hb.size
          replace h3 := (h3.below hb).more hb.size
          replace b3 := blk_below b3 hb
          replace h6 := (h6.below hb).more hb.size
          replace b6 := blk_below b6 hb
          replace hbt := hbt.trans (hb.mono hbt.size)
          clear hb
          simp only [pickP, pick, List.map_cons, List.map_nil, Option.map_some, Option.map_none, List.getD_cons_zero, List.getD_cons_succ]
          have hcut := (hC.cut (k := a) (by omega)).upto (k := y - a) (by omega)
          rw [HT.out, if_neg e4] at hcut
          change RdB _ _ (some (ad.add a)) _ _ _ at hcut
          have s2 : ∀ x : Ext wd.heap.size wd, _ := fun x => run_str (hcut.below x.ok)
          have c0 : ∀ x : Ext wd.heap.size wd, x.val.cell? ⟨w6.heap.size, 0, none⟩ = some (.slice A6 gl q6) := fun x => ((x.cell (blk_lt b6)).trans (blk_cell b6)).trans rfl
          refine plan_cons ?_
          (repeat (go_big_quiet_step (fail)))
          refine plan_nil ?_
          clear c0 s2 hcut
          refine plan_call (by kernel_rfl) (fun K hK => ?_)
          go_simp
          refine (wPut_any none 0 0 [] A6 gl q6 G1 wd (RdB.nil _ _) h6 (by omega) (by omega)).mono ?_
          rintro e w9 ⟨v9, rfl, ho9, hb⟩
          rw [Nat.zero_add, List.nil_append] at ho9
          obtain ⟨A9, q9, rfl, h9⟩ := own_rdB ho9
          clear ho9
          refine hK.out _ _ hb ?_
          clear hK K
          (try simp only [Act.put, List.setIfInBounds_toArray, List.set_cons_zero, List.set_cons_succ])
          replace hl := (hl.below hb).more hb.size
          replace hC := (hC.below hb).more hb.size
          replace hm := (hb.cell (World.block_lt_of_cell? _ _ hm)).trans hm
          replace b1 := blk_below b1 hb
          replace h2 := (h2.below hb).more hb.size
          replace h3 := (h3.below hb).more hb.size
          replace b3 := blk_below b3 hb
          replace h6 := (h6.below hb).more hb.size
          replace b6 := blk_below b6 hb
          replace hbt := hbt.trans (hb.mono hbt.size)
          clear hb
          have s1 : ∀ x : Ext w9.heap.size w9, _ := fun x => run_str (h9.below x.ok)
          refine plan_cons ?_
          (repeat (go_big_quiet_step (fail)))
          refine plan_nil ?_
          clear s1
          refine plan_end ?_
          go_wp2_with fail
          go_ret
          exact ⟨rfl, hbt⟩

end Go.Proofs.YtcnldbhkppfmmaaDoor
