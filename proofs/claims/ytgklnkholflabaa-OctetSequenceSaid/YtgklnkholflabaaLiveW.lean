/-
  The law's live and few.
-/
import Derived.Test.YtgklnkholflabaaIntsW
namespace Go.Proofs.Ytgklnkholflabaa
open Go.RowKit
set_option linter.unusedVariables false
set_option linter.unusedSimpArgs false

theorem blk_below {w w' : World} {b : Nat} {o : Obj} (h : w.heap[b]? = some o) (hb : Below w.heap.size w w') : w'.heap[b]? = some o := (hb.block b (Array.getElem?_eq_some_iff.1 h).1).trans h
theorem blk_new {w W : World} {o : Obj} (h : W = w.alloc o) : W.heap[w.heap.size]? = some o := by rw [h]; exact heap_alloc_new _ _
theorem below_new {w W : World} {o : Obj} (h : W = w.alloc o) : Below w.heap.size w W := by rw [h]; exact (Below.refl _ _).alloc (Nat.le_refl _) _
theorem Rd.blk {w : World} {b : Nat} {cs : Array Value} {t : TypeId} {fr : Nat × Nat} {n : Nat} (h : w.heap[b]? = some (.cells cs t fr)) (hn : cs.size = n) (hm : n ≤ 9223372036854775807) : Rd w w.heap.size (some ⟨b, 0, none⟩) n n cs.toList :=
  ⟨by simpa using hn, Nat.le_refl _, by unfold maxLen; omega, fun _ => ⟨_, rfl, (Array.getElem?_eq_some_iff.1 h).1, fun j u hu => by
    rw [add_lit0, cell_of_row w b j cs t fr h]
    simpa using hu⟩⟩
theorem few_any (A : Option Addr) (n c : Nat) (w : World) (hn : n ≤ 9223372036854775807) : Calls Try.prog 12 #[.slice A n c] w fun e w' => e = .returned (.bool (decide (n ≤ 3000))) ∧ w = w' := by
  go_enter Try.func12, Try.ntmps12
  go_wp2_with fail
  go_ret
  refine ⟨ret_bool ?_, rfl⟩
  rw [Bool.eq_iff_iff]
  simp
  omega
theorem e64 : Vi.putI 64 = [128, 1] := by unfold Vi.putI; rw [show Vi.zig 64 = 128 by decide, Vi.enc_ge (by decide), Vi.enc_lt (by decide)]; rfl
theorem e0 : Vi.putI 0 = [0] := by unfold Vi.putI; rw [show Vi.zig 0 = 0 by decide, Vi.enc_lt (by decide)]; rfl
theorem em1 : Vi.putI (-1) = [1] := by unfold Vi.putI; rw [show Vi.zig (-1) = 1 by decide, Vi.enc_lt (by decide)]; rfl
theorem e1 : Vi.putI 1 = [2] := by unfold Vi.putI; rw [show Vi.zig 1 = 2 by decide, Vi.enc_lt (by decide)]; rfl
theorem e2 : Vi.putI 2 = [4] := by unfold Vi.putI; rw [show Vi.zig 2 = 4 by decide, Vi.enc_lt (by decide)]; rfl
theorem g1 : Vi.getI [9, 128, 1] 1 = (64, 3, 0) := by decide
theorem g2 : Vi.getI [128] 0 = (0, 0, 10) := by decide
theorem g3 : Vi.getI [129, 0] 0 = (0, 0, 11) := by decide
theorem g4 : Vi.getI [] 1 = (0, 0, 1) := by decide
theorem g5 : Vi.getS [4, 97, 98, 7] 0 2 = ([97, 98], 3, 0) := by decide
theorem g6 : Vi.getS [4, 97, 98] 0 1 = ([], 0, 2) := by decide
theorem g7 : Vi.getL [4, 2, 1] 0 9 = ([1, -1], 3, 0) := by decide
theorem pS : Vi.putS (strOf [97, 98]).data.toList = [4, 97, 98] := by show Vi.putI 2 ++ [97, 98] = _; rw [e2]; rfl
theorem pL : Vi.putL [1, -1] = [4, 2, 1] := by show Vi.putI 2 ++ [1, -1].flatMap Vi.putI = _; rw [e2, List.flatMap_cons, List.flatMap_cons, e1, em1]; rfl
theorem ok64 (z : Int) (h1 : -1000 ≤ z) (h2 : z ≤ 1000) : -9223372036854775808 ≤ z ∧ z ≤ 9223372036854775807 := by omega

set_option maxRecDepth 100000 in
set_option maxHeartbeats 4000000 in
theorem live_any (w : World) : Calls Try.prog 11 #[] w fun e w' => e = .returned (.bool true) ∧ Below w.heap.size w w' := by
  go_enter Try.func11, Try.ntmps11
  obtain ⟨V1, hV⟩ : ∃ V1, V1 = w.alloc (.cells #[.int .u8 9, .int .u8 128, .int .u8 1] 5) := ⟨_, rfl⟩
  have b1 := blk_new hV
  have hb := below_new hV
  have hbt := hb
  clear hb
  have HSV1 : Hid (V1.heap.size = w.heap.size + 1) := by show V1.heap.size = _; rw [hV, World.size_alloc]
  have HVV1 := Lib.hid hV.symm
  clear hV
  have r : RdB V1 V1.heap.size (some ⟨w.heap.size, 0, none⟩) 3 3 [9, 128, 1] := Rd.blk b1 rfl (by omega)
  clear b1
  go_wp2_with fail
  rw [HVV1.out]
  clear HVV1
  refine (getInt_any _ 3 3 [9, 128, 1] 1 V1 r (ok64 _ (by omega) (by omega))).mono ?_
  rintro e w' ⟨rfl, rfl⟩
  rw [g1]
  clear r
  obtain ⟨V2, hV⟩ : ∃ V2, V2 = V1.alloc (.cells #[.int .u8 128] 5) := ⟨_, rfl⟩
  have b2 := blk_new hV
  have hb := below_new hV
  replace hbt := hbt.trans (hb.mono hbt.size)
  clear hb
  have HSV2 : Hid (V2.heap.size = V1.heap.size + 1) := by show V2.heap.size = _; rw [hV, World.size_alloc]
  have HVV2 := Lib.hid hV.symm
  clear hV
  have r : RdB V2 V2.heap.size (some ⟨V1.heap.size, 0, none⟩) 1 1 [128] := Rd.blk b2 rfl (by omega)
  clear b2
  go_wp2_with fail
  rw [HVV2.out]
  clear HVV2
  refine (getInt_any _ 1 1 [128] 0 V2 r (ok64 _ (by omega) (by omega))).mono ?_
  rintro e w' ⟨rfl, rfl⟩
  rw [g2]
  clear r
  obtain ⟨V3, hV⟩ : ∃ V3, V3 = V2.alloc (.cells #[.int .u8 129, .int .u8 0] 5) := ⟨_, rfl⟩
  have b3 := blk_new hV
  have hb := below_new hV
  replace hbt := hbt.trans (hb.mono hbt.size)
  clear hb
  have HSV3 : Hid (V3.heap.size = V2.heap.size + 1) := by show V3.heap.size = _; rw [hV, World.size_alloc]
  have HVV3 := Lib.hid hV.symm
  clear hV
  have r : RdB V3 V3.heap.size (some ⟨V2.heap.size, 0, none⟩) 2 2 [129, 0] := Rd.blk b3 rfl (by omega)
  clear b3
  go_wp2_with fail
  rw [HVV3.out]
  clear HVV3
  refine (getInt_any _ 2 2 [129, 0] 0 V3 r (ok64 _ (by omega) (by omega))).mono ?_
  rintro e w' ⟨rfl, rfl⟩
  rw [g3]
  clear r
  go_wp2_with fail
  refine (getInt_any none 0 0 [] 1 V3 (RdB.nil _ _) (ok64 _ (by omega) (by omega))).mono ?_
  rintro e w' ⟨rfl, rfl⟩
  rw [g4]
  obtain ⟨V4, hV⟩ : ∃ V4, V4 = V3.alloc (.cells #[.int .u8 4, .int .u8 97, .int .u8 98, .int .u8 7] 5) := ⟨_, rfl⟩
  have b4 := blk_new hV
  have hb := below_new hV
  replace hbt := hbt.trans (hb.mono hbt.size)
  clear hb
  have HSV4 : Hid (V4.heap.size = V3.heap.size + 1) := by show V4.heap.size = _; rw [hV, World.size_alloc]
  have HVV4 := Lib.hid hV.symm
  clear hV
  have r : RdB V4 V4.heap.size (some ⟨V3.heap.size, 0, none⟩) 4 4 [4, 97, 98, 7] := Rd.blk b4 rfl (by omega)
  clear b4
  go_wp2_with fail
  rw [HVV4.out]
  clear HVV4
  refine (getText_any _ 4 4 [4, 97, 98, 7] 0 2 V4 r (ok64 _ (by omega) (by omega))).mono ?_
  rintro e w5 ⟨rfl, hb⟩
  rw [g5, show strOf ([97, 98], 3, 0).1 = ⟨#[97, 98]⟩ from rfl]
  clear r
  replace hbt := hbt.trans (hb.mono hbt.size)
  clear hb
  obtain ⟨V6, hV⟩ : ∃ V6, V6 = w5.alloc (.cells #[.int .u8 4, .int .u8 97, .int .u8 98] 5) := ⟨_, rfl⟩
  have b6 := blk_new hV
  have hb := below_new hV
  replace hbt := hbt.trans (hb.mono hbt.size)
  clear hb
  have HSV6 : Hid (V6.heap.size = w5.heap.size + 1) := by show V6.heap.size = _; rw [hV, World.size_alloc]
  have HVV6 := Lib.hid hV.symm
  clear hV
  have r : RdB V6 V6.heap.size (some ⟨w5.heap.size, 0, none⟩) 3 3 [4, 97, 98] := Rd.blk b6 rfl (by omega)
  clear b6
  go_wp2_with fail
  rw [HVV6.out]
  clear HVV6
  refine (getText_any _ 3 3 [4, 97, 98] 0 1 V6 r (ok64 _ (by omega) (by omega))).mono ?_
  rintro e w7 ⟨rfl, hb⟩
  rw [g6, show strOf ([], 0, 2).1 = ⟨#[]⟩ from rfl]
  clear r
  replace hbt := hbt.trans (hb.mono hbt.size)
  clear hb
  obtain ⟨V8, hV⟩ : ∃ V8, V8 = w7.alloc (.cells #[.int .u8 4, .int .u8 2, .int .u8 1] 5) := ⟨_, rfl⟩
  have b8 := blk_new hV
  have hb := below_new hV
  replace hbt := hbt.trans (hb.mono hbt.size)
  clear hb
  have HSV8 : Hid (V8.heap.size = w7.heap.size + 1) := by show V8.heap.size = _; rw [hV, World.size_alloc]
  have HVV8 := Lib.hid hV.symm
  clear hV
  have r : RdB V8 V8.heap.size (some ⟨w7.heap.size, 0, none⟩) 3 3 [4, 2, 1] := Rd.blk b8 rfl (by omega)
  clear b8
  go_wp2_with fail
  rw [HVV8.out]
  clear HVV8
  refine (getInts_any _ 3 3 [4, 2, 1] 0 9 V8 r (ok64 _ (by omega) (by omega)) (by omega)).mono ?_
  rintro e w9 ⟨v, rfl, ho, hb⟩
  rw [g7] at ho ⊢
  obtain ⟨A9, c9, rfl, q9⟩ := own_rdI (l := [1, -1]) (n := 2) ho (by simp [okIs])
  clear ho r
  replace hbt := hbt.trans (hb.mono hbt.size)
  clear hb
  obtain ⟨V10, hV⟩ : ∃ V10, V10 = w9.alloc (.cells #[.int .u8 7] 5) := ⟨_, rfl⟩
  have b10 := blk_new hV
  have hb := below_new hV
  replace q9 := (q9.below hb).more hb.size
  replace hbt := hbt.trans (hb.mono hbt.size)
  clear hb
  have HSV10 : Hid (V10.heap.size = w9.heap.size + 1) := by show V10.heap.size = _; rw [hV, World.size_alloc]
  have HVV10 := Lib.hid hV.symm
  clear hV
  have r : RdB V10 V10.heap.size (some ⟨w9.heap.size, 0, none⟩) 1 1 [7] := Rd.blk b10 rfl (by omega)
  clear b10
  go_wp2_with fail
  rw [HVV10.out]
  clear HVV10
  refine (putInt_any _ 1 1 [7] (64) V10 r (by omega) (ok64 _ (by omega) (by omega))).mono ?_
  rintro e w11 ⟨v, rfl, ho, hb⟩
  rw [e64] at ho
  obtain ⟨A11, c11, rfl, q11⟩ := own_rdB (n := 3) (l := [7, 128, 1]) ho
  clear ho
  replace q9 := (q9.below hb).more hb.size
  replace hbt := hbt.trans (hb.mono hbt.size)
  clear hb
  have hs11 := run_str q11
  have dd11 : strOf [7, 128, 1] = ⟨#[7, 128, 1]⟩ := rfl
  rw [dd11] at hs11
  clear r
  go_wp2_with fail
  refine (putInt_any none 0 0 [] (0) w11 (RdB.nil _ _) (by omega) (ok64 _ (by omega) (by omega))).mono ?_
  rintro e w12 ⟨v, rfl, ho, hb⟩
  rw [e0] at ho
  obtain ⟨A12, c12, rfl, q12⟩ := own_rdB (n := 1) (l := [0]) ho
  clear ho
  replace q9 := (q9.below hb).more hb.size
  replace hbt := hbt.trans (hb.mono hbt.size)
  clear hb
  have hs12 := run_str q12
  have dd12 : strOf [0] = ⟨#[0]⟩ := rfl
  rw [dd12] at hs12
  go_wp2_with fail
  refine (putInt_any none 0 0 [] (-1) w12 (RdB.nil _ _) (by omega) (ok64 _ (by omega) (by omega))).mono ?_
  rintro e w13 ⟨v, rfl, ho, hb⟩
  rw [em1] at ho
  obtain ⟨A13, c13, rfl, q13⟩ := own_rdB (n := 1) (l := [1]) ho
  clear ho
  replace q9 := (q9.below hb).more hb.size
  replace hbt := hbt.trans (hb.mono hbt.size)
  clear hb
  have hs13 := run_str q13
  have dd13 : strOf [1] = ⟨#[1]⟩ := rfl
  rw [dd13] at hs13
  go_wp2_with fail
  refine (putText_any none 0 0 [] (strOf [97, 98]) w13 (RdB.nil _ _) (by omega) (by decide)).mono ?_
  rintro e w14 ⟨v, rfl, ho, hb⟩
  rw [pS] at ho
  obtain ⟨A14, c14, rfl, q14⟩ := own_rdB (n := 3) (l := [4, 97, 98]) ho
  clear ho
  replace q9 := (q9.below hb).more hb.size
  replace hbt := hbt.trans (hb.mono hbt.size)
  clear hb
  have hs14 := run_str q14
  have dd14 : strOf [4, 97, 98] = ⟨#[4, 97, 98]⟩ := rfl
  rw [dd14] at hs14
  obtain ⟨V15, hV⟩ : ∃ V15, V15 = w14.alloc (.cells #[.int .i64 1, .int .i64 (-1)] 3) := ⟨_, rfl⟩
  have b15 := blk_new hV
  have hb := below_new hV
  replace q9 := (q9.below hb).more hb.size
  replace hbt := hbt.trans (hb.mono hbt.size)
  clear hb
  have HSV15 : Hid (V15.heap.size = w14.heap.size + 1) := by show V15.heap.size = _; rw [hV, World.size_alloc]
  have HVV15 := Lib.hid hV.symm
  clear hV
  have r : RdI V15 V15.heap.size (some ⟨w14.heap.size, 0, none⟩) 2 2 [1, -1] := ⟨Rd.blk b15 rfl (by omega), by simp [okIs]⟩
  clear b15
  go_wp2_with fail
  rw [HVV15.out]
  clear HVV15
  refine (putInts_any none 0 0 [] _ 2 2 [1, -1] V15 (RdB.nil _ _) r (by omega) (by omega)).mono ?_
  rintro e w16 ⟨v, rfl, ho, hb⟩
  rw [pL] at ho
  obtain ⟨A16, c16, rfl, q16⟩ := own_rdB (n := 3) (l := [4, 2, 1]) ho
  clear ho r
  replace q9 := (q9.below hb).more hb.size
  replace hbt := hbt.trans (hb.mono hbt.size)
  clear hb
  have hs16 := run_str q16
  have dd16 : strOf [4, 2, 1] = ⟨#[4, 2, 1]⟩ := rfl
  rw [dd16] at hs16
  obtain ⟨V17, hV⟩ : ∃ V17, V17 = w16.alloc (.cells #[.int .i64 1, .int .i64 (-1)] 3) := ⟨_, rfl⟩
  have b17 := blk_new hV
  have hb := below_new hV
  replace q9 := (q9.below hb).more hb.size
  replace hbt := hbt.trans (hb.mono hbt.size)
  clear hb
  have HSV17 : Hid (V17.heap.size = w16.heap.size + 1) := by show V17.heap.size = _; rw [hV, World.size_alloc]
  have HVV17 := Lib.hid hV.symm
  clear hV
  have r : RdI V17 V17.heap.size (some ⟨w16.heap.size, 0, none⟩) 2 2 [1, -1] := ⟨Rd.blk b17 rfl (by omega), by simp [okIs]⟩
  clear b17
  go_wp2_with fail
  rw [HVV17.out]
  clear HVV17
  refine (ints_any _ _ 2 c9 2 2 [1, -1] [1, -1] V17 q9 r).mono ?_
  rintro e w18 ⟨rfl, m18, rfl⟩
  rw [decide_eq_true (rfl : ([1, -1] : List Int) = [1, -1])]
  go_wp2_with fail
  go_ret
  exact ⟨ret_bool rfl, below_drewN' hbt m18⟩
end Go.Proofs.Ytgklnkholflabaa
