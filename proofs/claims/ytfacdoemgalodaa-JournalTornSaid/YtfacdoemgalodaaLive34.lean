/-
  The walks of the laws' first and live.
-/
import Derived.Test.YtfacdoemgalodaaJLaws
import Derived.Test.YtfacdoemgalodaaAppW
import Derived.Test.YtfacdoemgalodaaCmpW2
namespace Go.Proofs.Ytfacdoemgalodaa
open Go.RowKit
set_option linter.unusedVariables false
set_option linter.unusedSimpArgs false

/-- The example's version, in new memory. -/
def FirstPost (w : World) (e : Ending) (w' : World) : Prop :=
  ∃ A c, e = .returned (.agg #[.int .i64 1, .slice A 1 c, .int .i64 0, .bool true]) ∧ RdP w' w'.heap.size A 1 c [(2, 0)] ∧ Below w.heap.size w w'

set_option maxRecDepth 100000 in
set_option maxHeartbeats 4000000 in
theorem first_any (w : World) :
    Calls Try.prog 29 #[] w (FirstPost w) := by
  have hbt := Below.refl w.heap.size w
  obtain ⟨V1, hV⟩ : ∃ V1, V1 = w.alloc (.cells #[.int .i64 1, .slice (some ⟨w.heap.size + 1, 0, none⟩) 1 1, .int .i64 0, .bool true] 42) := ⟨_, rfl⟩
  have b1 := blk_new hV
  have hb := below_new hV
  replace hbt := hbt.trans (hb.mono hbt.size)
  clear hb
  have HSV1 : Hid (V1.heap.size = w.heap.size + 1) := by show V1.heap.size = _; rw [hV, World.size_alloc]
  have HVV1 := Lib.hid hV.symm
  clear hV
  obtain ⟨V2, hV⟩ : ∃ V2, V2 = V1.alloc (.cells #[.int .i64 2, .int .i64 0] 76) := ⟨_, rfl⟩
  have b2 := blk_new hV
  have hb := below_new hV
  replace b1 := blk_below b1 hb
  replace hbt := hbt.trans (hb.mono hbt.size)
  clear hb
  have HSV2 : Hid (V2.heap.size = V1.heap.size + 1) := by show V2.heap.size = _; rw [hV, World.size_alloc]
  have HVV2 := Lib.hid hV.symm
  clear hV
  rw [HSV1.out] at b2
  rw [← HVV1.out] at HVV2
  go_enter Try.func29, Try.ntmps29
  go_wp2_with fail
  rw [HVV2.out]
  refine bodyPost_ret (results_cell_row rfl _ _ w.heap.size 42 #[.int .i64 1, .slice (some ⟨w.heap.size + 1, 0, none⟩) 1 1, .int .i64 0, .bool true] (0, 0) _ rfl b1 Try.underlying42 rfl infoVer) rfl ?_
  refine ⟨_, _, rfl, ?_, hbt⟩
  exact ⟨RdK.blk 2 b2 rfl (by omega), by intro p hp; simp at hp; subst hp; exact ⟨by unfold okI; omega, by unfold okI; omega⟩⟩

set_option maxRecDepth 100000 in
set_option maxHeartbeats 4000000 in
theorem live_any (w : World) :
    Calls Try.prog 11 #[] w fun e w' => e = .returned (.bool true) ∧ Below w.heap.size w w' := by
  have hbt := Below.refl w.heap.size w
  go_enter Try.func11, Try.ntmps11
  go_wp2_with fail
  refine (first_any w).mono ?_
  rintro e w1 ⟨A1, c1, rfl, q1, hb⟩
  replace hbt := hbt.trans (hb.mono hbt.size)
  clear hb
  have m1 := q1.max
  have m2 := q1.le
  go_wp2_with fail
  refine (jAppend_any none 0 0 [] none 0 0 [] Jn.v0 A1 c1 w1 (RdB.nil _ _) (RdB.nil _ _) (by omega) (by omega) q1 (by show okI 1; unfold okI; omega) (by show okI 0; unfold okI; omega)).mono ?_
  rintro e w2 ⟨v1, v2, rfl, o1, o2, hb⟩
  rw [Jn.app0] at o1 o2 ⊢
  dsimp only at o1 o2 ⊢
  rw [Jn.F0_len] at o2
  obtain ⟨As, cs, rfl, qs⟩ := own_rdB (n := 0) (l := []) o1
  obtain ⟨Ao, co, rfl, qo⟩ := own_rdB o2
  clear o1 o2
  replace q1 := (q1.below hb).more hb.size
  replace hbt := hbt.trans (hb.mono hbt.size)
  clear hb
  clear q1
  have m1 := qs.max
  have m2 := qs.le
  have m3 := qo.max
  have m4 := qo.le
  obtain ⟨V3, hV⟩ : ∃ V3, V3 = w2.alloc (.cells #[.slice As 0 cs, .slice Ao 14 co] 24) := ⟨_, rfl⟩
  have b3 := blk_new hV
  have hb := below_new hV
  replace qs := (qs.below hb).more hb.size
  replace qo := (qo.below hb).more hb.size
  replace hbt := hbt.trans (hb.mono hbt.size)
  clear hb
  have HSV3 : Hid (V3.heap.size = w2.heap.size + 1) := by show V3.heap.size = _; rw [hV, World.size_alloc]
  have HVV3 := Lib.hid hV.symm
  clear hV
  have c0 := blk_cell (j := 0) b3
  simp only [List.getElem?_toArray, List.getElem?_cons_zero, List.getElem?_cons_succ] at c0
  have c1 := blk_cell (j := 1) b3
  simp only [List.getElem?_toArray, List.getElem?_cons_zero, List.getElem?_cons_succ] at c1
  rw [← HVV3.out] at c0 c1
  go_wp2_with fail
  rw [HVV3.out]
  clear HVV3 c0 c1 HSV3
  refine (scan_any Ao 14 co Jn.F0 (Jn.scanL Jn.F0) V3 qo (by omega) (Jn.scanL_ok _) (by rw [Jn.scan0]; simp)).mono ?_
  intro e w4 hp
  obtain ⟨v, rfl, hs, hb⟩ := hp.own
  rw [Jn.scan0] at hs ⊢
  clear hp
  obtain ⟨Al, cl, rfl, ql⟩ := hs.rd
  have hl1 : (List.map (fun x : List UInt8 × Nat => x.fst) [(Jn.r0, 14)]) = [Jn.r0] := rfl
  rw [hl1] at ql ⊢
  have hg14 : (((([(Jn.r0, 14)] : List (List UInt8 × Nat)).getLast?.map (·.2)).getD 0 : Nat) : Int) = 14 := rfl
  rw [hg14]
  clear hs hl1 hg14
  rw [show [Jn.r0].length = 1 from rfl] at ql ⊢
  replace qs := (qs.below hb).more hb.size
  replace qo := (qo.below hb).more hb.size
  replace b3 := blk_below b3 hb
  replace hbt := hbt.trans (hb.mono hbt.size)
  clear hb
  have m5 := ql.max
  have m6 := ql.le
  have cb30 := cell_of_row w4 w2.heap.size 0 _ _ _ b3
  simp only [List.getElem?_toArray, List.getElem?_cons_zero, List.getElem?_cons_succ] at cb30
  have cb31 := cell_of_row w4 w2.heap.size 1 _ _ _ b3
  simp only [List.getElem?_toArray, List.getElem?_cons_zero, List.getElem?_cons_succ] at cb31
  go_wp2_with fail
  clear cb30 cb31
  refine (jCrash_any As 0 cs [] Ao 14 co Jn.F0 13 w4 qs qo (by omega) (by omega) (by unfold okI; omega)).mono ?_
  rintro e w5 ⟨v1, v2, rfl, o1, o2, hb⟩
  rw [Jn.crash13] at o1 o2 ⊢
  dsimp only at o1 o2 ⊢
  obtain ⟨As5, cs5, rfl, qs5⟩ := own_rdB (n := 0) (l := []) o1
  obtain ⟨Ao5, co5, rfl, qo5⟩ := own_rdB (n := 0) (l := []) o2
  clear o1 o2
  replace qs := (qs.below hb).more hb.size
  replace qo := (qo.below hb).more hb.size
  replace b3 := blk_below b3 hb
  replace ql := (ql.below hb).more hb.size
  replace hbt := hbt.trans (hb.mono hbt.size)
  clear hb
  have k15 := qs5.max
  have k25 := qs5.le
  have k35 := qo5.max
  have k45 := qo5.le
  obtain ⟨V5, hV⟩ : ∃ V5, V5 = w5.alloc (.cells #[.slice As5 0 cs5, .slice Ao5 0 co5] 24) := ⟨_, rfl⟩
  have b5 := blk_new hV
  have hb := below_new hV
  replace qs := (qs.below hb).more hb.size
  replace qo := (qo.below hb).more hb.size
  replace b3 := blk_below b3 hb
  replace ql := (ql.below hb).more hb.size
  replace qs5 := (qs5.below hb).more hb.size
  replace qo5 := (qo5.below hb).more hb.size
  replace hbt := hbt.trans (hb.mono hbt.size)
  clear hb
  have HSV5 : Hid (V5.heap.size = w5.heap.size + 1) := by show V5.heap.size = _; rw [hV, World.size_alloc]
  have HVV5 := Lib.hid hV.symm
  clear hV
  have c0 := blk_cell (j := 0) b3
  simp only [List.getElem?_toArray, List.getElem?_cons_zero, List.getElem?_cons_succ] at c0
  have c1 := blk_cell (j := 1) b3
  simp only [List.getElem?_toArray, List.getElem?_cons_zero, List.getElem?_cons_succ] at c1
  rw [← HVV5.out] at c0 c1
  go_wp2_with fail
  rw [HVV5.out]
  clear HVV5 c0 c1 HSV5
  refine (jCrash_any As 0 cs [] Ao 14 co Jn.F0 14 V5 qs qo (by omega) (by omega) (by unfold okI; omega)).mono ?_
  rintro e w7 ⟨v1, v2, rfl, o1, o2, hb⟩
  rw [Jn.crash14] at o1 o2 ⊢
  dsimp only at o1 o2 ⊢
  rw [Jn.F0_len] at o1
  obtain ⟨As7, cs7, rfl, qs7⟩ := own_rdB o1
  obtain ⟨Ao7, co7, rfl, qo7⟩ := own_rdB (n := 0) (l := []) o2
  clear o1 o2
  replace qs := (qs.below hb).more hb.size
  replace qo := (qo.below hb).more hb.size
  replace b3 := blk_below b3 hb
  replace ql := (ql.below hb).more hb.size
  replace qs5 := (qs5.below hb).more hb.size
  replace qo5 := (qo5.below hb).more hb.size
  replace b5 := blk_below b5 hb
  replace hbt := hbt.trans (hb.mono hbt.size)
  clear hb
  have k17 := qs7.max
  have k27 := qs7.le
  have k37 := qo7.max
  have k47 := qo7.le
  obtain ⟨V7, hV⟩ : ∃ V7, V7 = w7.alloc (.cells #[.slice As7 14 cs7, .slice Ao7 0 co7] 24) := ⟨_, rfl⟩
  have b7 := blk_new hV
  have hb := below_new hV
  replace qs := (qs.below hb).more hb.size
  replace qo := (qo.below hb).more hb.size
  replace b3 := blk_below b3 hb
  replace ql := (ql.below hb).more hb.size
  replace qs5 := (qs5.below hb).more hb.size
  replace qo5 := (qo5.below hb).more hb.size
  replace b5 := blk_below b5 hb
  replace qs7 := (qs7.below hb).more hb.size
  replace qo7 := (qo7.below hb).more hb.size
  replace hbt := hbt.trans (hb.mono hbt.size)
  clear hb
  have HSV7 : Hid (V7.heap.size = w7.heap.size + 1) := by show V7.heap.size = _; rw [hV, World.size_alloc]
  have HVV7 := Lib.hid hV.symm
  clear hV
  have c0 := blk_cell (j := 0) b7
  simp only [List.getElem?_toArray, List.getElem?_cons_zero, List.getElem?_cons_succ] at c0
  have c1 := blk_cell (j := 1) b7
  simp only [List.getElem?_toArray, List.getElem?_cons_zero, List.getElem?_cons_succ] at c1
  rw [← HVV7.out] at c0 c1
  go_wp2_with fail
  rw [HVV7.out]
  clear HVV7 c0 c1 HSV7
  refine (jRead_any As7 14 cs7 Jn.F0 Ao7 0 co7 [] V7 qs7 qo7 (by omega) (by omega)).mono ?_
  rintro e w8 ⟨u1, u2, rfl, o1, o2, hb⟩
  rw [Jn.read0] at o1 o2 ⊢
  dsimp only at o1 o2 ⊢
  obtain ⟨Ar, cr, rfl, qr⟩ := o1.rd
  obtain ⟨Ar2, cr2, rfl, qr2⟩ := o2.rd
  rw [show [Jn.v0].length = 1 from rfl] at qr ⊢
  rw [show ([] : List Ver).length = 0 from rfl] at qr2 ⊢
  clear o1 o2
  replace qs := (qs.below hb).more hb.size
  replace qo := (qo.below hb).more hb.size
  replace b3 := blk_below b3 hb
  replace ql := (ql.below hb).more hb.size
  replace qs5 := (qs5.below hb).more hb.size
  replace qo5 := (qo5.below hb).more hb.size
  replace b5 := blk_below b5 hb
  replace qs7 := (qs7.below hb).more hb.size
  replace qo7 := (qo7.below hb).more hb.size
  replace b7 := blk_below b7 hb
  replace hbt := hbt.trans (hb.mono hbt.size)
  clear hb
  have j1 := qr.max
  have j2 := qr.le
  have j3 := qr2.max
  have j4 := qr2.le
  have qlz := ql.at_ (k := 0) (by omega) (by simp)
  obtain ⟨ad, A6, c6, rfl, _, x0, x1⟩ := qlz
  rw [add_zero'] at x0
  change w8.cell? ad = some (.slice A6 6 c6) at x0
  change RdB w8 w8.heap.size A6 6 c6 Jn.r0 at x1
  have hst := run_str x1
  have dd : strOf Jn.r0 = ⟨#[2, 2, 4, 0, 0, 2]⟩ := rfl
  rw [dd] at hst
  have c0 := blk_cell (j := 0) b3
  simp only [List.getElem?_toArray, List.getElem?_cons_zero, List.getElem?_cons_succ] at c0
  have c1 := blk_cell (j := 1) b3
  simp only [List.getElem?_toArray, List.getElem?_cons_zero, List.getElem?_cons_succ] at c1
  have e0 := blk_cell (j := 0) b5
  simp only [List.getElem?_toArray, List.getElem?_cons_zero, List.getElem?_cons_succ] at e0
  have e1 := blk_cell (j := 1) b5
  simp only [List.getElem?_toArray, List.getElem?_cons_zero, List.getElem?_cons_succ] at e1
  have f0 := blk_cell (j := 0) b7
  simp only [List.getElem?_toArray, List.getElem?_cons_zero, List.getElem?_cons_succ] at f0
  have f1 := blk_cell (j := 1) b7
  simp only [List.getElem?_toArray, List.getElem?_cons_zero, List.getElem?_cons_succ] at f1
  go_wp2_with fail
  clear c0 c1 e0 e1 f0 f1 hst dd x0 x1
  refine (first_any w8).mono ?_
  rintro e w9 ⟨A9, c9, rfl, q9, hb⟩
  replace qr := (qr.below hb).more hb.size
  replace hbt := hbt.trans (hb.mono hbt.size)
  clear hb
  obtain ⟨V10, hV⟩ : ∃ V10, V10 = w9.alloc (.cells #[.int .i64 1, .slice A9 1 c9, .int .i64 0, .bool true] 42) := ⟨_, rfl⟩
  have b10 := blk_new hV
  have hb := below_new hV
  replace qr := (qr.below hb).more hb.size
  replace q9 := (q9.below hb).more hb.size
  replace hbt := hbt.trans (hb.mono hbt.size)
  clear hb
  have HSV10 : Hid (V10.heap.size = w9.heap.size + 1) := by show V10.heap.size = _; rw [hV, World.size_alloc]
  have HVV10 := Lib.hid hV.symm
  clear hV
  have q10 : RdV V10 V10.heap.size (some ⟨w9.heap.size, 0, none⟩) 1 1 [Jn.v0] := by
    refine ⟨[.slice A9 1 c9], rfl, RdK.blk 4 b10 rfl (by omega), fun i v s hi hs => ?_⟩
    cases i with
    | zero =>
      simp at hi hs
      subst hi hs
      exact ⟨A9, c9, rfl, q9, by show okI 1; unfold okI; omega, by show okI 0; unfold okI; omega⟩
    | succ i => simp at hi
  go_wp2_with fail
  rw [HVV10.out]
  refine (versions_any Ar (some ⟨w9.heap.size, 0, none⟩) 1 cr 1 1 [Jn.v0] [Jn.v0] V10 qr q10).mono ?_
  rintro e w11 ⟨b, rfl, hiff, hb⟩
  obtain rfl : b = true := hiff.2 rfl
  clear hiff q10
  replace qr := (qr.below hb).more hb.size
  replace q9 := (q9.below hb).more hb.size
  replace b10 := blk_below b10 hb
  replace hbt := hbt.trans (hb.mono hbt.size)
  clear hb
  go_wp2_with fail
  go_ret
  exact ⟨rfl, hbt⟩

end Go.Proofs.Ytfacdoemgalodaa
