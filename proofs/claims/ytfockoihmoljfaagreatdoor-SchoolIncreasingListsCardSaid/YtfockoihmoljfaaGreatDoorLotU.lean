/-
  Words that the walks share: PutC, PutA, PutB.
-/
import Derived.Test.YtfockoihmoljfaaGreatDoorLotC
import Derived.Test.YtfockoihmoljfaaGreatDoorLotA
import Derived.BigQuiet
import Derived.Test.YtfockoihmoljfaaGreatDoorSChkW
/-
  The walks of the closures that encode one element.
-/
namespace Go.Proofs.YtfockoihmoljfaaGreatDoor
open Go.RowKit Go.Shelf
set_option linter.unusedVariables false
set_option linter.unusedSimpArgs false

set_option maxRecDepth 100000 in
set_option maxHeartbeats 4000000 in
theorem sPut1_any (A : Option Addr) (m c : Nat) (l : List UInt8) (x : Sc.Slo) (w : World) (h : RdB w w.heap.size A m c l) (hm : m ≤ 1000000000) (hs : Sc.smSlo x) :
    Calls Tryz.prog 46 #[.slice A m c, .agg #[.string (strOf x.name), .int .i64 x.day, .int .i64 x.hour]] w (RetNew 5 (m + (Sc.putSlo x).length) (bv (l ++ Sc.putSlo x)) w) := by
  have hlen := Sc.lenSlo hs
  obtain ⟨s1, s2, s3⟩ := hs
  have l0 := Vi.putS_lenB (s := x.name) (by omega)
  unfold okI at s2 s3
  have hbt := Below.refl w.heap.size w
  obtain ⟨P0, hP0⟩ : ∃ P, P = Vi.putS x.name := ⟨_, rfl⟩
  obtain ⟨P1, hP1⟩ : ∃ P, P = Vi.putI x.day := ⟨_, rfl⟩
  obtain ⟨P2, hP2⟩ : ∃ P, P = Vi.putI x.hour := ⟨_, rfl⟩
  have HPUT : Hid (Sc.putSlo x = P0 ++ P1 ++ P2) := by show _ = _; rw [hP0, hP1, hP2]; rfl
  rw [HPUT.out] at hlen ⊢
  simp only [List.length_append] at hlen
  have HP0 := Lib.hid hP0
  clear hP0
  have HP1 := Lib.hid hP1
  clear hP1
  have HP2 := Lib.hid hP2
  clear hP2
  clear l0
  obtain ⟨V1, hV⟩ : ∃ V1, V1 = w.alloc (.cells #[.string (strOf x.name), .int .i64 x.day, .int .i64 x.hour] 69) := ⟨_, rfl⟩
  have b0 := blk_new hV
  have hb := below_new hV
  replace h := (h.below hb).more hb.size
  replace hbt := hbt.trans (hb.mono hbt.size)
  clear hb
  have HSV1 : Hid (V1.heap.size = w.heap.size + 1) := by show V1.heap.size = _; rw [hV, World.size_alloc]
  have HVV1 := Lib.hid hV.symm
  clear hV
  clear HSV1
  go_enter Tryz.func46, Tryz.ntmps46
  go_wp2_with fail
  rw [HVV1.out]
  clear HVV1
  refine wp_region_plan [([0, 1, 2, 4, 5, 7, 8], some 3), ([], some 6), ([], some 9), ([10], none)] (by kernel_rfl) (by kernel_rfl) ?_
  intro wd hsz hb
  clear hsz
  replace h := (h.below hb).more hb.size
  replace b0 := blk_below b0 hb
  replace hbt := hbt.trans (hb.mono hbt.size)
  clear hb
  simp only [pickP, pick, List.map_cons, List.map_nil, Option.map_some, Option.map_none, List.getD_cons_zero, List.getD_cons_succ]
  have e0 : ∀ x_ : Ext wd.heap.size wd, x_.val.cell? ⟨w.heap.size, 0, none⟩ = some (.string (strOf x.name)) := fun x_ => ((x_.cell (blk_lt b0)).trans (blk_cell b0)).trans rfl
  have e1 : ∀ x_ : Ext wd.heap.size wd, x_.val.cell? ⟨w.heap.size, 1, none⟩ = some (.int .i64 x.day) := fun x_ => ((x_.cell (blk_lt b0)).trans (blk_cell b0)).trans rfl
  have e2 : ∀ x_ : Ext wd.heap.size wd, x_.val.cell? ⟨w.heap.size, 2, none⟩ = some (.int .i64 x.hour) := fun x_ => ((x_.cell (blk_lt b0)).trans (blk_cell b0)).trans rfl
  refine plan_cons ?_
  (repeat (go_big_quiet_step (fail)))
  refine plan_nil ?_
  clear e0 e1 e2
  refine plan_call (by kernel_rfl) (fun K hK => ?_)
  go_simp
  refine (putText_any A (m) c (l) (strOf x.name) wd h (by omega) (by rw [strOf_size]; omega)).mono ?_
  rintro e y0 ⟨v0, rfl, ho0, hb⟩
  rw [show Vi.putS (strOf x.name).data.toList = P0 from HP0.out.symm] at ho0
  replace ho0 := own_mono ho0 hbt.size
  obtain ⟨B0, d0, rfl, hr0⟩ := own_rdB ho0
  refine hK.out _ _ hb ?_
  clear hK K
  (try simp only [Act.put, List.setIfInBounds_toArray, List.set_cons_zero, List.set_cons_succ])
  replace h := (h.below hb).more hb.size
  replace b0 := blk_below b0 hb
  replace hbt := hbt.trans (hb.mono hbt.size)
  clear hb
  refine plan_cons ?_
  (repeat (go_big_quiet_step (fail)))
  refine plan_nil ?_
  refine plan_call (by kernel_rfl) (fun K hK => ?_)
  go_simp
  refine (putInt_any B0 ((m) + P0.length) d0 ((l) ++ P0) x.day y0 hr0 (by omega) (by omega)).mono ?_
  rintro e y1 ⟨v1, rfl, ho1, hb⟩
  rw [← HP1.out] at ho1
  replace ho1 := own_mono ho1 hbt.size
  obtain ⟨B1, d1, rfl, hr1⟩ := own_rdB ho1
  refine hK.out _ _ hb ?_
  clear hK K
  (try simp only [Act.put, List.setIfInBounds_toArray, List.set_cons_zero, List.set_cons_succ])
  replace b0 := blk_below b0 hb
  replace hr0 := (hr0.below hb).more hb.size
  replace ho0 := own_below ho0 hb
  replace hbt := hbt.trans (hb.mono hbt.size)
  clear hb
  clear hr0 ho0
  refine plan_cons ?_
  (repeat (go_big_quiet_step (fail)))
  refine plan_nil ?_
  refine plan_call (by kernel_rfl) (fun K hK => ?_)
  go_simp
  refine (putInt_any B1 (((m) + P0.length) + P1.length) d1 (((l) ++ P0) ++ P1) x.hour y1 hr1 (by omega) (by omega)).mono ?_
  rintro e y2 ⟨v2, rfl, ho2, hb⟩
  rw [← HP2.out] at ho2
  replace ho2 := own_mono ho2 hbt.size
  obtain ⟨B2, d2, rfl, hr2⟩ := own_rdB ho2
  refine hK.out _ _ hb ?_
  clear hK K
  (try simp only [Act.put, List.setIfInBounds_toArray, List.set_cons_zero, List.set_cons_succ])
  replace b0 := blk_below b0 hb
  replace hr1 := (hr1.below hb).more hb.size
  replace ho1 := own_below ho1 hb
  replace hbt := hbt.trans (hb.mono hbt.size)
  clear hb
  clear hr1 ho1
  refine plan_cons ?_
  (repeat (go_big_quiet_step (fail)))
  refine plan_nil ?_
  refine plan_end ?_
  go_wp2_with fail
  go_ret
  refine ⟨_, rfl, ?_, hbt⟩
  simpa [Nat.add_assoc, List.append_assoc] using ho2

set_option maxRecDepth 100000 in
set_option maxHeartbeats 4000000 in
theorem sPut2_any (A : Option Addr) (m c : Nat) (l : List UInt8) (x : Sc.Roo) (A3 : Option Addr) (c3 : Nat) (w : World) (h : RdB w w.heap.size A m c l) (hm : m ≤ 1000000000) (hs : Sc.smRoo x) (r3 : RdI w w.heap.size A3 x.shut.length c3 x.shut) :
    Calls Tryz.prog 50 #[.slice A m c, .agg #[.string (strOf x.name), .int .i64 x.house, .int .i64 x.seats, .slice A3 x.shut.length c3]] w (RetNew 5 (m + (Sc.putRoo x).length) (bv (l ++ Sc.putRoo x)) w) := by
  have hlen := Sc.lenRoo hs
  obtain ⟨s1, s2, s3, s4, s5⟩ := hs
  have l0 := Vi.putS_lenB (s := x.name) (by omega)
  unfold okI at s2 s3
  have hbt := Below.refl w.heap.size w
  obtain ⟨P0, hP0⟩ : ∃ P, P = Vi.putS x.name := ⟨_, rfl⟩
  obtain ⟨P1, hP1⟩ : ∃ P, P = Vi.putI x.house := ⟨_, rfl⟩
  obtain ⟨P2, hP2⟩ : ∃ P, P = Vi.putI x.seats := ⟨_, rfl⟩
  obtain ⟨P3, hP3⟩ : ∃ P, P = Vi.putL x.shut := ⟨_, rfl⟩
  have HPUT : Hid (Sc.putRoo x = P0 ++ P1 ++ P2 ++ P3) := by show _ = _; rw [hP0, hP1, hP2, hP3]; rfl
  rw [HPUT.out] at hlen ⊢
  simp only [List.length_append] at hlen
  have HP0 := Lib.hid hP0
  clear hP0
  have HP1 := Lib.hid hP1
  clear hP1
  have HP2 := Lib.hid hP2
  clear hP2
  have HP3 := Lib.hid hP3
  clear hP3
  clear l0
  obtain ⟨V1, hV⟩ : ∃ V1, V1 = w.alloc (.cells #[.string (strOf x.name), .int .i64 x.house, .int .i64 x.seats, .slice A3 x.shut.length c3] 53) := ⟨_, rfl⟩
  have b0 := blk_new hV
  have hb := below_new hV
  replace h := (h.below hb).more hb.size
  replace r3 := (r3.below hb).more hb.size
  replace hbt := hbt.trans (hb.mono hbt.size)
  clear hb
  have HSV1 : Hid (V1.heap.size = w.heap.size + 1) := by show V1.heap.size = _; rw [hV, World.size_alloc]
  have HVV1 := Lib.hid hV.symm
  clear hV
  clear HSV1
  go_enter Tryz.func50, Tryz.ntmps50
  go_wp2_with fail
  rw [HVV1.out]
  clear HVV1
  refine wp_region_plan [([0, 1, 2, 4, 5, 7, 8, 10, 11], some 3), ([], some 6), ([], some 9), ([], some 12), ([13], none)] (by kernel_rfl) (by kernel_rfl) ?_
  intro wd hsz hb
  clear hsz
  replace h := (h.below hb).more hb.size
  replace r3 := (r3.below hb).more hb.size
  replace b0 := blk_below b0 hb
  replace hbt := hbt.trans (hb.mono hbt.size)
  clear hb
  simp only [pickP, pick, List.map_cons, List.map_nil, Option.map_some, Option.map_none, List.getD_cons_zero, List.getD_cons_succ]
  have e0 : ∀ x_ : Ext wd.heap.size wd, x_.val.cell? ⟨w.heap.size, 0, none⟩ = some (.string (strOf x.name)) := fun x_ => ((x_.cell (blk_lt b0)).trans (blk_cell b0)).trans rfl
  have e1 : ∀ x_ : Ext wd.heap.size wd, x_.val.cell? ⟨w.heap.size, 1, none⟩ = some (.int .i64 x.house) := fun x_ => ((x_.cell (blk_lt b0)).trans (blk_cell b0)).trans rfl
  have e2 : ∀ x_ : Ext wd.heap.size wd, x_.val.cell? ⟨w.heap.size, 2, none⟩ = some (.int .i64 x.seats) := fun x_ => ((x_.cell (blk_lt b0)).trans (blk_cell b0)).trans rfl
  have e3 : ∀ x_ : Ext wd.heap.size wd, x_.val.cell? ⟨w.heap.size, 3, none⟩ = some (.slice A3 x.shut.length c3) := fun x_ => ((x_.cell (blk_lt b0)).trans (blk_cell b0)).trans rfl
  refine plan_cons ?_
  (repeat (go_big_quiet_step (fail)))
  refine plan_nil ?_
  clear e0 e1 e2 e3
  refine plan_call (by kernel_rfl) (fun K hK => ?_)
  go_simp
  refine (putText_any A (m) c (l) (strOf x.name) wd h (by omega) (by rw [strOf_size]; omega)).mono ?_
  rintro e y0 ⟨v0, rfl, ho0, hb⟩
  rw [show Vi.putS (strOf x.name).data.toList = P0 from HP0.out.symm] at ho0
  replace ho0 := own_mono ho0 hbt.size
  obtain ⟨B0, d0, rfl, hr0⟩ := own_rdB ho0
  refine hK.out _ _ hb ?_
  clear hK K
  (try simp only [Act.put, List.setIfInBounds_toArray, List.set_cons_zero, List.set_cons_succ])
  replace h := (h.below hb).more hb.size
  replace r3 := (r3.below hb).more hb.size
  replace b0 := blk_below b0 hb
  replace hbt := hbt.trans (hb.mono hbt.size)
  clear hb
  refine plan_cons ?_
  (repeat (go_big_quiet_step (fail)))
  refine plan_nil ?_
  refine plan_call (by kernel_rfl) (fun K hK => ?_)
  go_simp
  refine (putInt_any B0 ((m) + P0.length) d0 ((l) ++ P0) x.house y0 hr0 (by omega) (by omega)).mono ?_
  rintro e y1 ⟨v1, rfl, ho1, hb⟩
  rw [← HP1.out] at ho1
  replace ho1 := own_mono ho1 hbt.size
  obtain ⟨B1, d1, rfl, hr1⟩ := own_rdB ho1
  refine hK.out _ _ hb ?_
  clear hK K
  (try simp only [Act.put, List.setIfInBounds_toArray, List.set_cons_zero, List.set_cons_succ])
  replace r3 := (r3.below hb).more hb.size
  replace b0 := blk_below b0 hb
  replace hr0 := (hr0.below hb).more hb.size
  replace ho0 := own_below ho0 hb
  replace hbt := hbt.trans (hb.mono hbt.size)
  clear hb
  clear hr0 ho0
  refine plan_cons ?_
  (repeat (go_big_quiet_step (fail)))
  refine plan_nil ?_
  refine plan_call (by kernel_rfl) (fun K hK => ?_)
  go_simp
  refine (putInt_any B1 (((m) + P0.length) + P1.length) d1 (((l) ++ P0) ++ P1) x.seats y1 hr1 (by omega) (by omega)).mono ?_
  rintro e y2 ⟨v2, rfl, ho2, hb⟩
  rw [← HP2.out] at ho2
  replace ho2 := own_mono ho2 hbt.size
  obtain ⟨B2, d2, rfl, hr2⟩ := own_rdB ho2
  refine hK.out _ _ hb ?_
  clear hK K
  (try simp only [Act.put, List.setIfInBounds_toArray, List.set_cons_zero, List.set_cons_succ])
  replace r3 := (r3.below hb).more hb.size
  replace b0 := blk_below b0 hb
  replace hr1 := (hr1.below hb).more hb.size
  replace ho1 := own_below ho1 hb
  replace hbt := hbt.trans (hb.mono hbt.size)
  clear hb
  clear hr1 ho1
  refine plan_cons ?_
  (repeat (go_big_quiet_step (fail)))
  refine plan_nil ?_
  refine plan_call (by kernel_rfl) (fun K hK => ?_)
  go_simp
  refine (putInts_any B2 ((((m) + P0.length) + P1.length) + P2.length) d2 ((((l) ++ P0) ++ P1) ++ P2) A3 _ c3 x.shut y2 hr2 r3 (by omega) (by omega)).mono ?_
  rintro e y3 ⟨v3, rfl, ho3, hb⟩
  rw [← HP3.out] at ho3
  replace ho3 := own_mono ho3 hbt.size
  obtain ⟨B3, d3, rfl, hr3⟩ := own_rdB ho3
  refine hK.out _ _ hb ?_
  clear hK K
  (try simp only [Act.put, List.setIfInBounds_toArray, List.set_cons_zero, List.set_cons_succ])
  replace r3 := (r3.below hb).more hb.size
  replace b0 := blk_below b0 hb
  replace hr2 := (hr2.below hb).more hb.size
  replace ho2 := own_below ho2 hb
  replace hbt := hbt.trans (hb.mono hbt.size)
  clear hb
  clear hr2 ho2
  refine plan_cons ?_
  (repeat (go_big_quiet_step (fail)))
  refine plan_nil ?_
  refine plan_end ?_
  go_wp2_with fail
  go_ret
  refine ⟨_, rfl, ?_, hbt⟩
  simpa [Nat.add_assoc, List.append_assoc] using ho3

set_option maxRecDepth 100000 in
set_option maxHeartbeats 4000000 in
theorem sPut3_any (A : Option Addr) (m c : Nat) (l : List UInt8) (x : Sc.Per) (A1 : Option Addr) (c1 : Nat) (w : World) (h : RdB w w.heap.size A m c l) (hm : m ≤ 1000000000) (hs : Sc.smPer x) (r1 : RdI w w.heap.size A1 x.away.length c1 x.away) :
    Calls Tryz.prog 53 #[.slice A m c, .agg #[.string (strOf x.name), .slice A1 x.away.length c1]] w (RetNew 5 (m + (Sc.putPer x).length) (bv (l ++ Sc.putPer x)) w) := by
  have hlen := Sc.lenPer hs
  obtain ⟨s1, s4, s5⟩ := hs
  have l0 := Vi.putS_lenB (s := x.name) (by omega)
  have hbt := Below.refl w.heap.size w
  obtain ⟨P0, hP0⟩ : ∃ P, P = Vi.putS x.name := ⟨_, rfl⟩
  obtain ⟨P1, hP1⟩ : ∃ P, P = Vi.putL x.away := ⟨_, rfl⟩
  have HPUT : Hid (Sc.putPer x = P0 ++ P1) := by show _ = _; rw [hP0, hP1]; rfl
  rw [HPUT.out] at hlen ⊢
  simp only [List.length_append] at hlen
  have HP0 := Lib.hid hP0
  clear hP0
  have HP1 := Lib.hid hP1
  clear hP1
  clear l0
  obtain ⟨V1, hV⟩ : ∃ V1, V1 = w.alloc (.cells #[.string (strOf x.name), .slice A1 x.away.length c1] 57) := ⟨_, rfl⟩
  have b0 := blk_new hV
  have hb := below_new hV
  replace h := (h.below hb).more hb.size
  replace r1 := (r1.below hb).more hb.size
  replace hbt := hbt.trans (hb.mono hbt.size)
  clear hb
  have HSV1 : Hid (V1.heap.size = w.heap.size + 1) := by show V1.heap.size = _; rw [hV, World.size_alloc]
  have HVV1 := Lib.hid hV.symm
  clear hV
  clear HSV1
  go_enter Tryz.func53, Tryz.ntmps53
  go_wp2_with fail
  rw [HVV1.out]
  clear HVV1
  refine wp_region_plan [([0, 1, 2, 4, 5], some 3), ([], some 6), ([7], none)] (by kernel_rfl) (by kernel_rfl) ?_
  intro wd hsz hb
  clear hsz
  replace h := (h.below hb).more hb.size
  replace r1 := (r1.below hb).more hb.size
  replace b0 := blk_below b0 hb
  replace hbt := hbt.trans (hb.mono hbt.size)
  clear hb
  simp only [pickP, pick, List.map_cons, List.map_nil, Option.map_some, Option.map_none, List.getD_cons_zero, List.getD_cons_succ]
  have e0 : ∀ x_ : Ext wd.heap.size wd, x_.val.cell? ⟨w.heap.size, 0, none⟩ = some (.string (strOf x.name)) := fun x_ => ((x_.cell (blk_lt b0)).trans (blk_cell b0)).trans rfl
  have e1 : ∀ x_ : Ext wd.heap.size wd, x_.val.cell? ⟨w.heap.size, 1, none⟩ = some (.slice A1 x.away.length c1) := fun x_ => ((x_.cell (blk_lt b0)).trans (blk_cell b0)).trans rfl
  refine plan_cons ?_
  (repeat (go_big_quiet_step (fail)))
  refine plan_nil ?_
  clear e0 e1
  refine plan_call (by kernel_rfl) (fun K hK => ?_)
  go_simp
  refine (putText_any A (m) c (l) (strOf x.name) wd h (by omega) (by rw [strOf_size]; omega)).mono ?_
  rintro e y0 ⟨v0, rfl, ho0, hb⟩
  rw [show Vi.putS (strOf x.name).data.toList = P0 from HP0.out.symm] at ho0
  replace ho0 := own_mono ho0 hbt.size
  obtain ⟨B0, d0, rfl, hr0⟩ := own_rdB ho0
  refine hK.out _ _ hb ?_
  clear hK K
  (try simp only [Act.put, List.setIfInBounds_toArray, List.set_cons_zero, List.set_cons_succ])
  replace h := (h.below hb).more hb.size
  replace r1 := (r1.below hb).more hb.size
  replace b0 := blk_below b0 hb
  replace hbt := hbt.trans (hb.mono hbt.size)
  clear hb
  refine plan_cons ?_
  (repeat (go_big_quiet_step (fail)))
  refine plan_nil ?_
  refine plan_call (by kernel_rfl) (fun K hK => ?_)
  go_simp
  refine (putInts_any B0 ((m) + P0.length) d0 ((l) ++ P0) A1 _ c1 x.away y0 hr0 r1 (by omega) (by omega)).mono ?_
  rintro e y1 ⟨v1, rfl, ho1, hb⟩
  rw [← HP1.out] at ho1
  replace ho1 := own_mono ho1 hbt.size
  obtain ⟨B1, d1, rfl, hr1⟩ := own_rdB ho1
  refine hK.out _ _ hb ?_
  clear hK K
  (try simp only [Act.put, List.setIfInBounds_toArray, List.set_cons_zero, List.set_cons_succ])
  replace r1 := (r1.below hb).more hb.size
  replace b0 := blk_below b0 hb
  replace hr0 := (hr0.below hb).more hb.size
  replace ho0 := own_below ho0 hb
  replace hbt := hbt.trans (hb.mono hbt.size)
  clear hb
  clear hr0 ho0
  refine plan_cons ?_
  (repeat (go_big_quiet_step (fail)))
  refine plan_nil ?_
  refine plan_end ?_
  go_wp2_with fail
  go_ret
  refine ⟨_, rfl, ?_, hbt⟩
  simpa [Nat.add_assoc, List.append_assoc] using ho1

set_option maxRecDepth 100000 in
set_option maxHeartbeats 4000000 in
theorem sPut4_any (A : Option Addr) (m c : Nat) (l : List UInt8) (x : Sc.Gro) (w : World) (h : RdB w w.heap.size A m c l) (hm : m ≤ 1000000000) (hs : Sc.smGro x) :
    Calls Tryz.prog 55 #[.slice A m c, .agg #[.string (strOf x.name), .int .i64 x.size]] w (RetNew 5 (m + (Sc.putGro x).length) (bv (l ++ Sc.putGro x)) w) := by
  have hlen := Sc.lenGro hs
  obtain ⟨s1, s2⟩ := hs
  have l0 := Vi.putS_lenB (s := x.name) (by omega)
  unfold okI at s2
  have hbt := Below.refl w.heap.size w
  obtain ⟨P0, hP0⟩ : ∃ P, P = Vi.putS x.name := ⟨_, rfl⟩
  obtain ⟨P1, hP1⟩ : ∃ P, P = Vi.putI x.size := ⟨_, rfl⟩
  have HPUT : Hid (Sc.putGro x = P0 ++ P1) := by show _ = _; rw [hP0, hP1]; rfl
  rw [HPUT.out] at hlen ⊢
  simp only [List.length_append] at hlen
  have HP0 := Lib.hid hP0
  clear hP0
  have HP1 := Lib.hid hP1
  clear hP1
  clear l0
  obtain ⟨V1, hV⟩ : ∃ V1, V1 = w.alloc (.cells #[.string (strOf x.name), .int .i64 x.size] 49) := ⟨_, rfl⟩
  have b0 := blk_new hV
  have hb := below_new hV
  replace h := (h.below hb).more hb.size
  replace hbt := hbt.trans (hb.mono hbt.size)
  clear hb
  have HSV1 : Hid (V1.heap.size = w.heap.size + 1) := by show V1.heap.size = _; rw [hV, World.size_alloc]
  have HVV1 := Lib.hid hV.symm
  clear hV
  clear HSV1
  go_enter Tryz.func55, Tryz.ntmps55
  go_wp2_with fail
  rw [HVV1.out]
  clear HVV1
  refine wp_region_plan [([0, 1, 2, 4, 5], some 3), ([], some 6), ([7], none)] (by kernel_rfl) (by kernel_rfl) ?_
  intro wd hsz hb
  clear hsz
  replace h := (h.below hb).more hb.size
  replace b0 := blk_below b0 hb
  replace hbt := hbt.trans (hb.mono hbt.size)
  clear hb
  simp only [pickP, pick, List.map_cons, List.map_nil, Option.map_some, Option.map_none, List.getD_cons_zero, List.getD_cons_succ]
  have e0 : ∀ x_ : Ext wd.heap.size wd, x_.val.cell? ⟨w.heap.size, 0, none⟩ = some (.string (strOf x.name)) := fun x_ => ((x_.cell (blk_lt b0)).trans (blk_cell b0)).trans rfl
  have e1 : ∀ x_ : Ext wd.heap.size wd, x_.val.cell? ⟨w.heap.size, 1, none⟩ = some (.int .i64 x.size) := fun x_ => ((x_.cell (blk_lt b0)).trans (blk_cell b0)).trans rfl
  refine plan_cons ?_
  (repeat (go_big_quiet_step (fail)))
  refine plan_nil ?_
  clear e0 e1
  refine plan_call (by kernel_rfl) (fun K hK => ?_)
  go_simp
  refine (putText_any A (m) c (l) (strOf x.name) wd h (by omega) (by rw [strOf_size]; omega)).mono ?_
  rintro e y0 ⟨v0, rfl, ho0, hb⟩
  rw [show Vi.putS (strOf x.name).data.toList = P0 from HP0.out.symm] at ho0
  replace ho0 := own_mono ho0 hbt.size
  obtain ⟨B0, d0, rfl, hr0⟩ := own_rdB ho0
  refine hK.out _ _ hb ?_
  clear hK K
  (try simp only [Act.put, List.setIfInBounds_toArray, List.set_cons_zero, List.set_cons_succ])
  replace h := (h.below hb).more hb.size
  replace b0 := blk_below b0 hb
  replace hbt := hbt.trans (hb.mono hbt.size)
  clear hb
  refine plan_cons ?_
  (repeat (go_big_quiet_step (fail)))
  refine plan_nil ?_
  refine plan_call (by kernel_rfl) (fun K hK => ?_)
  go_simp
  refine (putInt_any B0 ((m) + P0.length) d0 ((l) ++ P0) x.size y0 hr0 (by omega) (by omega)).mono ?_
  rintro e y1 ⟨v1, rfl, ho1, hb⟩
  rw [← HP1.out] at ho1
  replace ho1 := own_mono ho1 hbt.size
  obtain ⟨B1, d1, rfl, hr1⟩ := own_rdB ho1
  refine hK.out _ _ hb ?_
  clear hK K
  (try simp only [Act.put, List.setIfInBounds_toArray, List.set_cons_zero, List.set_cons_succ])
  replace b0 := blk_below b0 hb
  replace hr0 := (hr0.below hb).more hb.size
  replace ho0 := own_below ho0 hb
  replace hbt := hbt.trans (hb.mono hbt.size)
  clear hb
  clear hr0 ho0
  refine plan_cons ?_
  (repeat (go_big_quiet_step (fail)))
  refine plan_nil ?_
  refine plan_end ?_
  go_wp2_with fail
  go_ret
  refine ⟨_, rfl, ?_, hbt⟩
  simpa [Nat.add_assoc, List.append_assoc] using ho1

set_option maxRecDepth 100000 in
set_option maxHeartbeats 4000000 in
theorem sPut5_any (A : Option Addr) (m c : Nat) (l : List UInt8) (x : Sc.Les) (A1 : Option Addr) (c1 : Nat) (A2 : Option Addr) (c2 : Nat) (w : World) (h : RdB w w.heap.size A m c l) (hm : m ≤ 1000000000) (hs : Sc.smLes x) (r1 : RdI w w.heap.size A1 x.who.length c1 x.who) (r2 : RdI w w.heap.size A2 x.groups.length c2 x.groups) :
    Calls Tryz.prog 57 #[.slice A m c, .agg #[.string (strOf x.name), .slice A1 x.who.length c1, .slice A2 x.groups.length c2]] w (RetNew 5 (m + (Sc.putLes x).length) (bv (l ++ Sc.putLes x)) w) := by
  have hlen := Sc.lenLes hs
  obtain ⟨s1, s4, s5, s6, s7⟩ := hs
  have l0 := Vi.putS_lenB (s := x.name) (by omega)
  have hbt := Below.refl w.heap.size w
  obtain ⟨P0, hP0⟩ : ∃ P, P = Vi.putS x.name := ⟨_, rfl⟩
  obtain ⟨P1, hP1⟩ : ∃ P, P = Vi.putL x.who := ⟨_, rfl⟩
  obtain ⟨P2, hP2⟩ : ∃ P, P = Vi.putL x.groups := ⟨_, rfl⟩
  have HPUT : Hid (Sc.putLes x = P0 ++ P1 ++ P2) := by show _ = _; rw [hP0, hP1, hP2]; rfl
  rw [HPUT.out] at hlen ⊢
  simp only [List.length_append] at hlen
  have HP0 := Lib.hid hP0
  clear hP0
  have HP1 := Lib.hid hP1
  clear hP1
  have HP2 := Lib.hid hP2
  clear hP2
  clear l0
  obtain ⟨V1, hV⟩ : ∃ V1, V1 = w.alloc (.cells #[.string (strOf x.name), .slice A1 x.who.length c1, .slice A2 x.groups.length c2] 59) := ⟨_, rfl⟩
  have b0 := blk_new hV
  have hb := below_new hV
  replace h := (h.below hb).more hb.size
  replace r1 := (r1.below hb).more hb.size
  replace r2 := (r2.below hb).more hb.size
  replace hbt := hbt.trans (hb.mono hbt.size)
  clear hb
  have HSV1 : Hid (V1.heap.size = w.heap.size + 1) := by show V1.heap.size = _; rw [hV, World.size_alloc]
  have HVV1 := Lib.hid hV.symm
  clear hV
  clear HSV1
  go_enter Tryz.func57, Tryz.ntmps57
  go_wp2_with fail
  rw [HVV1.out]
  clear HVV1
  refine wp_region_plan [([0, 1, 2, 4, 5, 7, 8], some 3), ([], some 6), ([], some 9), ([10], none)] (by kernel_rfl) (by kernel_rfl) ?_
  intro wd hsz hb
  clear hsz
  replace h := (h.below hb).more hb.size
  replace r1 := (r1.below hb).more hb.size
  replace r2 := (r2.below hb).more hb.size
  replace b0 := blk_below b0 hb
  replace hbt := hbt.trans (hb.mono hbt.size)
  clear hb
  simp only [pickP, pick, List.map_cons, List.map_nil, Option.map_some, Option.map_none, List.getD_cons_zero, List.getD_cons_succ]
  have e0 : ∀ x_ : Ext wd.heap.size wd, x_.val.cell? ⟨w.heap.size, 0, none⟩ = some (.string (strOf x.name)) := fun x_ => ((x_.cell (blk_lt b0)).trans (blk_cell b0)).trans rfl
  have e1 : ∀ x_ : Ext wd.heap.size wd, x_.val.cell? ⟨w.heap.size, 1, none⟩ = some (.slice A1 x.who.length c1) := fun x_ => ((x_.cell (blk_lt b0)).trans (blk_cell b0)).trans rfl
  have e2 : ∀ x_ : Ext wd.heap.size wd, x_.val.cell? ⟨w.heap.size, 2, none⟩ = some (.slice A2 x.groups.length c2) := fun x_ => ((x_.cell (blk_lt b0)).trans (blk_cell b0)).trans rfl
  refine plan_cons ?_
  (repeat (go_big_quiet_step (fail)))
  refine plan_nil ?_
  clear e0 e1 e2
  refine plan_call (by kernel_rfl) (fun K hK => ?_)
  go_simp
  refine (putText_any A (m) c (l) (strOf x.name) wd h (by omega) (by rw [strOf_size]; omega)).mono ?_
  rintro e y0 ⟨v0, rfl, ho0, hb⟩
  rw [show Vi.putS (strOf x.name).data.toList = P0 from HP0.out.symm] at ho0
  replace ho0 := own_mono ho0 hbt.size
  obtain ⟨B0, d0, rfl, hr0⟩ := own_rdB ho0
  refine hK.out _ _ hb ?_
  clear hK K
  (try simp only [Act.put, List.setIfInBounds_toArray, List.set_cons_zero, List.set_cons_succ])
  replace h := (h.below hb).more hb.size
  replace r1 := (r1.below hb).more hb.size
  replace r2 := (r2.below hb).more hb.size
  replace b0 := blk_below b0 hb
  replace hbt := hbt.trans (hb.mono hbt.size)
  clear hb
  refine plan_cons ?_
  (repeat (go_big_quiet_step (fail)))
  refine plan_nil ?_
  refine plan_call (by kernel_rfl) (fun K hK => ?_)
  go_simp
  refine (putInts_any B0 ((m) + P0.length) d0 ((l) ++ P0) A1 _ c1 x.who y0 hr0 r1 (by omega) (by omega)).mono ?_
  rintro e y1 ⟨v1, rfl, ho1, hb⟩
  rw [← HP1.out] at ho1
  replace ho1 := own_mono ho1 hbt.size
  obtain ⟨B1, d1, rfl, hr1⟩ := own_rdB ho1
  refine hK.out _ _ hb ?_
  clear hK K
  (try simp only [Act.put, List.setIfInBounds_toArray, List.set_cons_zero, List.set_cons_succ])
  replace r1 := (r1.below hb).more hb.size
  replace r2 := (r2.below hb).more hb.size
  replace b0 := blk_below b0 hb
  replace hr0 := (hr0.below hb).more hb.size
  replace ho0 := own_below ho0 hb
  replace hbt := hbt.trans (hb.mono hbt.size)
  clear hb
  clear hr0 ho0
  refine plan_cons ?_
  (repeat (go_big_quiet_step (fail)))
  refine plan_nil ?_
  refine plan_call (by kernel_rfl) (fun K hK => ?_)
  go_simp
  refine (putInts_any B1 (((m) + P0.length) + P1.length) d1 (((l) ++ P0) ++ P1) A2 _ c2 x.groups y1 hr1 r2 (by omega) (by omega)).mono ?_
  rintro e y2 ⟨v2, rfl, ho2, hb⟩
  rw [← HP2.out] at ho2
  replace ho2 := own_mono ho2 hbt.size
  obtain ⟨B2, d2, rfl, hr2⟩ := own_rdB ho2
  refine hK.out _ _ hb ?_
  clear hK K
  (try simp only [Act.put, List.setIfInBounds_toArray, List.set_cons_zero, List.set_cons_succ])
  replace r1 := (r1.below hb).more hb.size
  replace r2 := (r2.below hb).more hb.size
  replace b0 := blk_below b0 hb
  replace hr1 := (hr1.below hb).more hb.size
  replace ho1 := own_below ho1 hb
  replace hbt := hbt.trans (hb.mono hbt.size)
  clear hb
  clear hr1 ho1
  refine plan_cons ?_
  (repeat (go_big_quiet_step (fail)))
  refine plan_nil ?_
  refine plan_end ?_
  go_wp2_with fail
  go_ret
  refine ⟨_, rfl, ?_, hbt⟩
  simpa [Nat.add_assoc, List.append_assoc] using ho2

end Go.Proofs.YtfockoihmoljfaaGreatDoor

/-
  The walks of putAll.
-/
namespace Go.Proofs.YtfockoihmoljfaaGreatDoor
open Go.RowKit Go.Shelf
set_option linter.unusedVariables false
set_option linter.unusedSimpArgs false

set_option maxRecDepth 100000 in
set_option maxHeartbeats 4000000 in
theorem paS_any (A : Option Addr) (m c : Nat) (l : List UInt8) (A' : Option Addr) (n c' : Nat) (xs : List Sc.Slo) (w : World) (h : RdB w w.heap.size A m c l) (h' : RdS 3 Sc.RSlo w w.heap.size A' n c' xs) (hm : m ≤ 900000000) (hn : n ≤ 80) (hs : ∀ x ∈ xs, Sc.smSlo x) :
    Calls Tryz.prog 45 #[.slice A m c, .slice A' n c', .func (.func 46) #[] #[]] w (RetNew 5 (m + (Sc.putA Sc.putSlo xs).length) (bv (l ++ Sc.putA Sc.putSlo xs)) w) := by
  have t1 := h'.max
  have t2 := h'.le
  have HL := Lib.hid (h'.len (by omega))
  have HS := Lib.hid hs
  clear hs
  obtain ⟨E, hE⟩ : ∃ E : Nat → List UInt8, E = fun j => Vi.putI (n : Int) ++ (xs.take j).flatMap Sc.putSlo := ⟨_, rfl⟩
  have HEB : Hid (∀ j, (E j).length ≤ 160010) := fun j => by
    rw [hE]
    have h1 := putI_len (n := (n : Int)) (by omega)
    have h2 := Sc.flat_bd (p := Sc.putSlo) (l := xs.take j) (fun x hx => Sc.lenSlo (HS.out x (List.mem_of_mem_take hx)))
    have h3 : (xs.take j).length ≤ 80 := by rw [List.length_take, HL.out]; omega
    dsimp only
    rw [List.length_append]; omega
  have HE0 : Hid (E 0 = Vi.putI (n : Int)) := by show _ = _; rw [hE]; simp
  have HES : Hid (∀ j (hj : j < xs.length), E (j + 1) = E j ++ Sc.putSlo xs[j]) := fun j hj => by rw [hE]; dsimp only; rw [Sc.flat_snoc hj, List.append_assoc]
  have HEN : Hid (E n = Sc.putA Sc.putSlo xs) := by show _ = _; rw [hE]; dsimp only; rw [List.take_of_length_le (by rw [HL.out]; omega)]; unfold Sc.putA; rw [HL.out]
  clear hE
  go_enter Tryz.func45, Tryz.ntmps45
  go_wp2_with fail
  refine (putInt_any A m c l (n : Int) w h (by omega) (by omega)).mono ?_
  rintro e w1 ⟨v1, rfl, ho, hbt⟩
  rw [← HE0.out] at ho
  go_wp2_with fail
  go_loopw [0, 15] (fun bvv iv wr => ∃ (j : Nat) (v : Value), j ≤ n ∧ iv = .int .i64 j ∧ bvv = v ∧ wr.ownsRow w.heap.size 5 1 v (m + (E j).length) (bv (l ++ E j)) ∧ Below w.heap.size w wr) (fun _ iv _ => n - (intOf iv).toNat)
  case atStart => exact ⟨0, v1, by omega, rfl, rfl, ho, hbt⟩
  case round =>
    clear ho hbt
    obtain ⟨j, v, hj, rfl, rfl, ho, hbt⟩ := hrel
    by_cases hjn : j < n
    · have d1 : decide ((j : Int) < (n : Int)) = true := by simp; omega
      have d2 : decide (j < n) = true := by simp; omega
      have hjl : j < xs.length := by rw [HL.out]; exact hjn
      have HEj := Lib.hid (HES.out j hjl)
      have hsm := HS.out _ (List.getElem_mem hjl)
      have HSM := Lib.hid hsm
      clear hsm
      have hEb := HEB.out j
      obtain ⟨Ab, cb, rfl, hr⟩ := own_rdB ho
      clear ho
      obtain ⟨ad, r, rfl, hab, hr1, hR, hc⟩ := RdS.at_ (by omega) (h'.below Sc.lasts_Slo hbt) hjn hjl
      obtain ⟨rfl, _, _, _⟩ := hR
      clear hr1
      have x0 := hc 0 _ rfl
      have x1 := hc 1 _ rfl
      have x2 := hc 2 _ rfl
      rw [Nat.add_zero] at x0
      replace x1 := cell_sub x1
      replace x2 := cell_sub x2
      clear hc
      generalize xs[j] = x at *
      generalize E j = Ej at *
      obtain ⟨V6, hV⟩ : ∃ V6, V6 = wr.alloc (.cells #[.string (strOf x.name), .int .i64 x.day, .int .i64 x.hour] 69) := ⟨_, rfl⟩
      have b6 := blk_new hV
      have hb := below_new hV
      have HV6 := Lib.hid hV.symm
      clear hV
      replace hr := (hr.below hb).more hb.size
      replace hbt := hbt.trans (hb.mono hbt.size)
      clear hb
      have e0 := blk_cell (j := 0) b6
      simp only [List.getElem?_toArray, List.getElem?_cons_zero, List.getElem?_cons_succ] at e0
      have e1 := blk_cell (j := 1) b6
      simp only [List.getElem?_toArray, List.getElem?_cons_zero, List.getElem?_cons_succ] at e1
      have e2 := blk_cell (j := 2) b6
      simp only [List.getElem?_toArray, List.getElem?_cons_zero, List.getElem?_cons_succ] at e2
      rw [← HV6.out] at e0 e1 e2
      go_wp2_with fail
      rw [HV6.out]
      clear e0 x0 e1 x1 e2 x2
      refine (sPut1_any Ab _ cb _ x V6 hr (by omega) HSM.out).mono ?_
      rintro e w7 ⟨v7, rfl, ho7, hb7⟩
      replace ho7 := own_mono ho7 hbt.size
      replace hbt := hbt.trans (hb7.mono hbt.size)
      go_wp2_with fail
      go_roundw
      case rel => exact ⟨j + 1, v7, by omega, by go_num, rfl, by rw [HEj.out, List.length_append, ← Nat.add_assoc, ← List.append_assoc]; exact ho7, hbt⟩
      case measure => simp [intOf]; omega
    · obtain rfl : j = n := by omega
      have d1 : decide ((j : Int) < (j : Int)) = false := by simp
      rw [HEN.out] at ho
      go_wp2_with fail
      go_ret
      exact ⟨_, rfl, ho, hbt⟩

set_option maxRecDepth 100000 in
set_option maxHeartbeats 4000000 in
theorem paR_any (A : Option Addr) (m c : Nat) (l : List UInt8) (A' : Option Addr) (n c' : Nat) (xs : List Sc.Roo) (w : World) (h : RdB w w.heap.size A m c l) (h' : RdS 4 Sc.RRoo w w.heap.size A' n c' xs) (hm : m ≤ 900000000) (hn : n ≤ 80) (hs : ∀ x ∈ xs, Sc.smRoo x) :
    Calls Tryz.prog 49 #[.slice A m c, .slice A' n c', .func (.func 50) #[] #[]] w (RetNew 5 (m + (Sc.putA Sc.putRoo xs).length) (bv (l ++ Sc.putA Sc.putRoo xs)) w) := by
  have t1 := h'.max
  have t2 := h'.le
  have HL := Lib.hid (h'.len (by omega))
  have HS := Lib.hid hs
  clear hs
  obtain ⟨E, hE⟩ : ∃ E : Nat → List UInt8, E = fun j => Vi.putI (n : Int) ++ (xs.take j).flatMap Sc.putRoo := ⟨_, rfl⟩
  have HEB : Hid (∀ j, (E j).length ≤ 160010) := fun j => by
    rw [hE]
    have h1 := putI_len (n := (n : Int)) (by omega)
    have h2 := Sc.flat_bd (p := Sc.putRoo) (l := xs.take j) (fun x hx => Sc.lenRoo (HS.out x (List.mem_of_mem_take hx)))
    have h3 : (xs.take j).length ≤ 80 := by rw [List.length_take, HL.out]; omega
    dsimp only
    rw [List.length_append]; omega
  have HE0 : Hid (E 0 = Vi.putI (n : Int)) := by show _ = _; rw [hE]; simp
  have HES : Hid (∀ j (hj : j < xs.length), E (j + 1) = E j ++ Sc.putRoo xs[j]) := fun j hj => by rw [hE]; dsimp only; rw [Sc.flat_snoc hj, List.append_assoc]
  have HEN : Hid (E n = Sc.putA Sc.putRoo xs) := by show _ = _; rw [hE]; dsimp only; rw [List.take_of_length_le (by rw [HL.out]; omega)]; unfold Sc.putA; rw [HL.out]
  clear hE
  go_enter Tryz.func49, Tryz.ntmps49
  go_wp2_with fail
  refine (putInt_any A m c l (n : Int) w h (by omega) (by omega)).mono ?_
  rintro e w1 ⟨v1, rfl, ho, hbt⟩
  rw [← HE0.out] at ho
  go_wp2_with fail
  go_loopw [0, 15] (fun bvv iv wr => ∃ (j : Nat) (v : Value), j ≤ n ∧ iv = .int .i64 j ∧ bvv = v ∧ wr.ownsRow w.heap.size 5 1 v (m + (E j).length) (bv (l ++ E j)) ∧ Below w.heap.size w wr) (fun _ iv _ => n - (intOf iv).toNat)
  case atStart => exact ⟨0, v1, by omega, rfl, rfl, ho, hbt⟩
  case round =>
    clear ho hbt
    obtain ⟨j, v, hj, rfl, rfl, ho, hbt⟩ := hrel
    by_cases hjn : j < n
    · have d1 : decide ((j : Int) < (n : Int)) = true := by simp; omega
      have d2 : decide (j < n) = true := by simp; omega
      have hjl : j < xs.length := by rw [HL.out]; exact hjn
      have HEj := Lib.hid (HES.out j hjl)
      have hsm := HS.out _ (List.getElem_mem hjl)
      have HSM := Lib.hid hsm
      clear hsm
      have hEb := HEB.out j
      obtain ⟨Ab, cb, rfl, hr⟩ := own_rdB ho
      clear ho
      obtain ⟨ad, r, rfl, hab, hr1, hR, hc⟩ := RdS.at_ (by omega) (h'.below Sc.lasts_Roo hbt) hjn hjl
      obtain ⟨A3, c3, rfl, r3, _, _, _⟩ := hR
      clear hr1
      have x0 := hc 0 _ rfl
      have x1 := hc 1 _ rfl
      have x2 := hc 2 _ rfl
      have x3 := hc 3 _ rfl
      rw [Nat.add_zero] at x0
      replace x1 := cell_sub x1
      replace x2 := cell_sub x2
      replace x3 := cell_sub x3
      clear hc
      generalize xs[j] = x at *
      generalize E j = Ej at *
      replace r3 := r3.more hbt.size
      obtain ⟨V6, hV⟩ : ∃ V6, V6 = wr.alloc (.cells #[.string (strOf x.name), .int .i64 x.house, .int .i64 x.seats, .slice A3 x.shut.length c3] 53) := ⟨_, rfl⟩
      have b6 := blk_new hV
      have hb := below_new hV
      have HV6 := Lib.hid hV.symm
      clear hV
      replace hr := (hr.below hb).more hb.size
      replace hbt := hbt.trans (hb.mono hbt.size)
      replace r3 := (r3.below hb).more hb.size
      clear hb
      have e0 := blk_cell (j := 0) b6
      simp only [List.getElem?_toArray, List.getElem?_cons_zero, List.getElem?_cons_succ] at e0
      have e1 := blk_cell (j := 1) b6
      simp only [List.getElem?_toArray, List.getElem?_cons_zero, List.getElem?_cons_succ] at e1
      have e2 := blk_cell (j := 2) b6
      simp only [List.getElem?_toArray, List.getElem?_cons_zero, List.getElem?_cons_succ] at e2
      have e3 := blk_cell (j := 3) b6
      simp only [List.getElem?_toArray, List.getElem?_cons_zero, List.getElem?_cons_succ] at e3
      rw [← HV6.out] at e0 e1 e2 e3
      go_wp2_with fail
      rw [HV6.out]
      clear e0 x0 e1 x1 e2 x2 e3 x3
      refine (sPut2_any Ab _ cb _ x A3 c3 V6 hr (by omega) HSM.out r3).mono ?_
      rintro e w7 ⟨v7, rfl, ho7, hb7⟩
      replace ho7 := own_mono ho7 hbt.size
      replace hbt := hbt.trans (hb7.mono hbt.size)
      go_wp2_with fail
      go_roundw
      case rel => exact ⟨j + 1, v7, by omega, by go_num, rfl, by rw [HEj.out, List.length_append, ← Nat.add_assoc, ← List.append_assoc]; exact ho7, hbt⟩
      case measure => simp [intOf]; omega
    · obtain rfl : j = n := by omega
      have d1 : decide ((j : Int) < (j : Int)) = false := by simp
      rw [HEN.out] at ho
      go_wp2_with fail
      go_ret
      exact ⟨_, rfl, ho, hbt⟩

set_option maxRecDepth 100000 in
set_option maxHeartbeats 4000000 in
theorem paP_any (A : Option Addr) (m c : Nat) (l : List UInt8) (A' : Option Addr) (n c' : Nat) (xs : List Sc.Per) (w : World) (h : RdB w w.heap.size A m c l) (h' : RdS 2 Sc.RPer w w.heap.size A' n c' xs) (hm : m ≤ 900000000) (hn : n ≤ 80) (hs : ∀ x ∈ xs, Sc.smPer x) :
    Calls Tryz.prog 52 #[.slice A m c, .slice A' n c', .func (.func 53) #[] #[]] w (RetNew 5 (m + (Sc.putA Sc.putPer xs).length) (bv (l ++ Sc.putA Sc.putPer xs)) w) := by
  have t1 := h'.max
  have t2 := h'.le
  have HL := Lib.hid (h'.len (by omega))
  have HS := Lib.hid hs
  clear hs
  obtain ⟨E, hE⟩ : ∃ E : Nat → List UInt8, E = fun j => Vi.putI (n : Int) ++ (xs.take j).flatMap Sc.putPer := ⟨_, rfl⟩
  have HEB : Hid (∀ j, (E j).length ≤ 160010) := fun j => by
    rw [hE]
    have h1 := putI_len (n := (n : Int)) (by omega)
    have h2 := Sc.flat_bd (p := Sc.putPer) (l := xs.take j) (fun x hx => Sc.lenPer (HS.out x (List.mem_of_mem_take hx)))
    have h3 : (xs.take j).length ≤ 80 := by rw [List.length_take, HL.out]; omega
    dsimp only
    rw [List.length_append]; omega
  have HE0 : Hid (E 0 = Vi.putI (n : Int)) := by show _ = _; rw [hE]; simp
  have HES : Hid (∀ j (hj : j < xs.length), E (j + 1) = E j ++ Sc.putPer xs[j]) := fun j hj => by rw [hE]; dsimp only; rw [Sc.flat_snoc hj, List.append_assoc]
  have HEN : Hid (E n = Sc.putA Sc.putPer xs) := by show _ = _; rw [hE]; dsimp only; rw [List.take_of_length_le (by rw [HL.out]; omega)]; unfold Sc.putA; rw [HL.out]
  clear hE
  go_enter Tryz.func52, Tryz.ntmps52
  go_wp2_with fail
  refine (putInt_any A m c l (n : Int) w h (by omega) (by omega)).mono ?_
  rintro e w1 ⟨v1, rfl, ho, hbt⟩
  rw [← HE0.out] at ho
  go_wp2_with fail
  go_loopw [0, 15] (fun bvv iv wr => ∃ (j : Nat) (v : Value), j ≤ n ∧ iv = .int .i64 j ∧ bvv = v ∧ wr.ownsRow w.heap.size 5 1 v (m + (E j).length) (bv (l ++ E j)) ∧ Below w.heap.size w wr) (fun _ iv _ => n - (intOf iv).toNat)
  case atStart => exact ⟨0, v1, by omega, rfl, rfl, ho, hbt⟩
  case round =>
    clear ho hbt
    obtain ⟨j, v, hj, rfl, rfl, ho, hbt⟩ := hrel
    by_cases hjn : j < n
    · have d1 : decide ((j : Int) < (n : Int)) = true := by simp; omega
      have d2 : decide (j < n) = true := by simp; omega
      have hjl : j < xs.length := by rw [HL.out]; exact hjn
      have HEj := Lib.hid (HES.out j hjl)
      have hsm := HS.out _ (List.getElem_mem hjl)
      have HSM := Lib.hid hsm
      clear hsm
      have hEb := HEB.out j
      obtain ⟨Ab, cb, rfl, hr⟩ := own_rdB ho
      clear ho
      obtain ⟨ad, r, rfl, hab, hr1, hR, hc⟩ := RdS.at_ (by omega) (h'.below Sc.lasts_Per hbt) hjn hjl
      obtain ⟨A1, c1, rfl, r1, _⟩ := hR
      clear hr1
      have x0 := hc 0 _ rfl
      have x1 := hc 1 _ rfl
      rw [Nat.add_zero] at x0
      replace x1 := cell_sub x1
      clear hc
      generalize xs[j] = x at *
      generalize E j = Ej at *
      replace r1 := r1.more hbt.size
      obtain ⟨V6, hV⟩ : ∃ V6, V6 = wr.alloc (.cells #[.string (strOf x.name), .slice A1 x.away.length c1] 57) := ⟨_, rfl⟩
      have b6 := blk_new hV
      have hb := below_new hV
      have HV6 := Lib.hid hV.symm
      clear hV
      replace hr := (hr.below hb).more hb.size
      replace hbt := hbt.trans (hb.mono hbt.size)
      replace r1 := (r1.below hb).more hb.size
      clear hb
      have e0 := blk_cell (j := 0) b6
      simp only [List.getElem?_toArray, List.getElem?_cons_zero, List.getElem?_cons_succ] at e0
      have e1 := blk_cell (j := 1) b6
      simp only [List.getElem?_toArray, List.getElem?_cons_zero, List.getElem?_cons_succ] at e1
      rw [← HV6.out] at e0 e1
      go_wp2_with fail
      rw [HV6.out]
      clear e0 x0 e1 x1
      refine (sPut3_any Ab _ cb _ x A1 c1 V6 hr (by omega) HSM.out r1).mono ?_
      rintro e w7 ⟨v7, rfl, ho7, hb7⟩
      replace ho7 := own_mono ho7 hbt.size
      replace hbt := hbt.trans (hb7.mono hbt.size)
      go_wp2_with fail
      go_roundw
      case rel => exact ⟨j + 1, v7, by omega, by go_num, rfl, by rw [HEj.out, List.length_append, ← Nat.add_assoc, ← List.append_assoc]; exact ho7, hbt⟩
      case measure => simp [intOf]; omega
    · obtain rfl : j = n := by omega
      have d1 : decide ((j : Int) < (j : Int)) = false := by simp
      rw [HEN.out] at ho
      go_wp2_with fail
      go_ret
      exact ⟨_, rfl, ho, hbt⟩

set_option maxRecDepth 100000 in
set_option maxHeartbeats 4000000 in
theorem paG_any (A : Option Addr) (m c : Nat) (l : List UInt8) (A' : Option Addr) (n c' : Nat) (xs : List Sc.Gro) (w : World) (h : RdB w w.heap.size A m c l) (h' : RdS 2 Sc.RGro w w.heap.size A' n c' xs) (hm : m ≤ 900000000) (hn : n ≤ 80) (hs : ∀ x ∈ xs, Sc.smGro x) :
    Calls Tryz.prog 54 #[.slice A m c, .slice A' n c', .func (.func 55) #[] #[]] w (RetNew 5 (m + (Sc.putA Sc.putGro xs).length) (bv (l ++ Sc.putA Sc.putGro xs)) w) := by
  have t1 := h'.max
  have t2 := h'.le
  have HL := Lib.hid (h'.len (by omega))
  have HS := Lib.hid hs
  clear hs
  obtain ⟨E, hE⟩ : ∃ E : Nat → List UInt8, E = fun j => Vi.putI (n : Int) ++ (xs.take j).flatMap Sc.putGro := ⟨_, rfl⟩
  have HEB : Hid (∀ j, (E j).length ≤ 160010) := fun j => by
    rw [hE]
    have h1 := putI_len (n := (n : Int)) (by omega)
    have h2 := Sc.flat_bd (p := Sc.putGro) (l := xs.take j) (fun x hx => Sc.lenGro (HS.out x (List.mem_of_mem_take hx)))
    have h3 : (xs.take j).length ≤ 80 := by rw [List.length_take, HL.out]; omega
    dsimp only
    rw [List.length_append]; omega
  have HE0 : Hid (E 0 = Vi.putI (n : Int)) := by show _ = _; rw [hE]; simp
  have HES : Hid (∀ j (hj : j < xs.length), E (j + 1) = E j ++ Sc.putGro xs[j]) := fun j hj => by rw [hE]; dsimp only; rw [Sc.flat_snoc hj, List.append_assoc]
  have HEN : Hid (E n = Sc.putA Sc.putGro xs) := by show _ = _; rw [hE]; dsimp only; rw [List.take_of_length_le (by rw [HL.out]; omega)]; unfold Sc.putA; rw [HL.out]
  clear hE
  go_enter Tryz.func54, Tryz.ntmps54
  go_wp2_with fail
  refine (putInt_any A m c l (n : Int) w h (by omega) (by omega)).mono ?_
  rintro e w1 ⟨v1, rfl, ho, hbt⟩
  rw [← HE0.out] at ho
  go_wp2_with fail
  go_loopw [0, 15] (fun bvv iv wr => ∃ (j : Nat) (v : Value), j ≤ n ∧ iv = .int .i64 j ∧ bvv = v ∧ wr.ownsRow w.heap.size 5 1 v (m + (E j).length) (bv (l ++ E j)) ∧ Below w.heap.size w wr) (fun _ iv _ => n - (intOf iv).toNat)
  case atStart => exact ⟨0, v1, by omega, rfl, rfl, ho, hbt⟩
  case round =>
    clear ho hbt
    obtain ⟨j, v, hj, rfl, rfl, ho, hbt⟩ := hrel
    by_cases hjn : j < n
    · have d1 : decide ((j : Int) < (n : Int)) = true := by simp; omega
      have d2 : decide (j < n) = true := by simp; omega
      have hjl : j < xs.length := by rw [HL.out]; exact hjn
      have HEj := Lib.hid (HES.out j hjl)
      have hsm := HS.out _ (List.getElem_mem hjl)
      have HSM := Lib.hid hsm
      clear hsm
      have hEb := HEB.out j
      obtain ⟨Ab, cb, rfl, hr⟩ := own_rdB ho
      clear ho
      obtain ⟨ad, r, rfl, hab, hr1, hR, hc⟩ := RdS.at_ (by omega) (h'.below Sc.lasts_Gro hbt) hjn hjl
      obtain ⟨rfl, _, _⟩ := hR
      clear hr1
      have x0 := hc 0 _ rfl
      have x1 := hc 1 _ rfl
      rw [Nat.add_zero] at x0
      replace x1 := cell_sub x1
      clear hc
      generalize xs[j] = x at *
      generalize E j = Ej at *
      obtain ⟨V6, hV⟩ : ∃ V6, V6 = wr.alloc (.cells #[.string (strOf x.name), .int .i64 x.size] 49) := ⟨_, rfl⟩
      have b6 := blk_new hV
      have hb := below_new hV
      have HV6 := Lib.hid hV.symm
      clear hV
      replace hr := (hr.below hb).more hb.size
      replace hbt := hbt.trans (hb.mono hbt.size)
      clear hb
      have e0 := blk_cell (j := 0) b6
      simp only [List.getElem?_toArray, List.getElem?_cons_zero, List.getElem?_cons_succ] at e0
      have e1 := blk_cell (j := 1) b6
      simp only [List.getElem?_toArray, List.getElem?_cons_zero, List.getElem?_cons_succ] at e1
      rw [← HV6.out] at e0 e1
      go_wp2_with fail
      rw [HV6.out]
      clear e0 x0 e1 x1
      refine (sPut4_any Ab _ cb _ x V6 hr (by omega) HSM.out).mono ?_
      rintro e w7 ⟨v7, rfl, ho7, hb7⟩
      replace ho7 := own_mono ho7 hbt.size
      replace hbt := hbt.trans (hb7.mono hbt.size)
      go_wp2_with fail
      go_roundw
      case rel => exact ⟨j + 1, v7, by omega, by go_num, rfl, by rw [HEj.out, List.length_append, ← Nat.add_assoc, ← List.append_assoc]; exact ho7, hbt⟩
      case measure => simp [intOf]; omega
    · obtain rfl : j = n := by omega
      have d1 : decide ((j : Int) < (j : Int)) = false := by simp
      rw [HEN.out] at ho
      go_wp2_with fail
      go_ret
      exact ⟨_, rfl, ho, hbt⟩

set_option maxRecDepth 100000 in
set_option maxHeartbeats 4000000 in
theorem paL_any (A : Option Addr) (m c : Nat) (l : List UInt8) (A' : Option Addr) (n c' : Nat) (xs : List Sc.Les) (w : World) (h : RdB w w.heap.size A m c l) (h' : RdS 3 Sc.RLes w w.heap.size A' n c' xs) (hm : m ≤ 900000000) (hn : n ≤ 80) (hs : ∀ x ∈ xs, Sc.smLes x) :
    Calls Tryz.prog 56 #[.slice A m c, .slice A' n c', .func (.func 57) #[] #[]] w (RetNew 5 (m + (Sc.putA Sc.putLes xs).length) (bv (l ++ Sc.putA Sc.putLes xs)) w) := by
  have t1 := h'.max
  have t2 := h'.le
  have HL := Lib.hid (h'.len (by omega))
  have HS := Lib.hid hs
  clear hs
  obtain ⟨E, hE⟩ : ∃ E : Nat → List UInt8, E = fun j => Vi.putI (n : Int) ++ (xs.take j).flatMap Sc.putLes := ⟨_, rfl⟩
  have HEB : Hid (∀ j, (E j).length ≤ 160010) := fun j => by
    rw [hE]
    have h1 := putI_len (n := (n : Int)) (by omega)
    have h2 := Sc.flat_bd (p := Sc.putLes) (l := xs.take j) (fun x hx => Sc.lenLes (HS.out x (List.mem_of_mem_take hx)))
    have h3 : (xs.take j).length ≤ 80 := by rw [List.length_take, HL.out]; omega
    dsimp only
    rw [List.length_append]; omega
  have HE0 : Hid (E 0 = Vi.putI (n : Int)) := by show _ = _; rw [hE]; simp
  have HES : Hid (∀ j (hj : j < xs.length), E (j + 1) = E j ++ Sc.putLes xs[j]) := fun j hj => by rw [hE]; dsimp only; rw [Sc.flat_snoc hj, List.append_assoc]
  have HEN : Hid (E n = Sc.putA Sc.putLes xs) := by show _ = _; rw [hE]; dsimp only; rw [List.take_of_length_le (by rw [HL.out]; omega)]; unfold Sc.putA; rw [HL.out]
  clear hE
  go_enter Tryz.func56, Tryz.ntmps56
  go_wp2_with fail
  refine (putInt_any A m c l (n : Int) w h (by omega) (by omega)).mono ?_
  rintro e w1 ⟨v1, rfl, ho, hbt⟩
  rw [← HE0.out] at ho
  go_wp2_with fail
  go_loopw [0, 15] (fun bvv iv wr => ∃ (j : Nat) (v : Value), j ≤ n ∧ iv = .int .i64 j ∧ bvv = v ∧ wr.ownsRow w.heap.size 5 1 v (m + (E j).length) (bv (l ++ E j)) ∧ Below w.heap.size w wr) (fun _ iv _ => n - (intOf iv).toNat)
  case atStart => exact ⟨0, v1, by omega, rfl, rfl, ho, hbt⟩
  case round =>
    clear ho hbt
    obtain ⟨j, v, hj, rfl, rfl, ho, hbt⟩ := hrel
    by_cases hjn : j < n
    · have d1 : decide ((j : Int) < (n : Int)) = true := by simp; omega
      have d2 : decide (j < n) = true := by simp; omega
      have hjl : j < xs.length := by rw [HL.out]; exact hjn
      have HEj := Lib.hid (HES.out j hjl)
      have hsm := HS.out _ (List.getElem_mem hjl)
      have HSM := Lib.hid hsm
      clear hsm
      have hEb := HEB.out j
      obtain ⟨Ab, cb, rfl, hr⟩ := own_rdB ho
      clear ho
      obtain ⟨ad, r, rfl, hab, hr1, hR, hc⟩ := RdS.at_ (by omega) (h'.below Sc.lasts_Les hbt) hjn hjl
      obtain ⟨A1, c1, A2, c2, rfl, r1, r2, _⟩ := hR
      clear hr1
      have x0 := hc 0 _ rfl
      have x1 := hc 1 _ rfl
      have x2 := hc 2 _ rfl
      rw [Nat.add_zero] at x0
      replace x1 := cell_sub x1
      replace x2 := cell_sub x2
      clear hc
      generalize xs[j] = x at *
      generalize E j = Ej at *
      replace r1 := r1.more hbt.size
      replace r2 := r2.more hbt.size
      obtain ⟨V6, hV⟩ : ∃ V6, V6 = wr.alloc (.cells #[.string (strOf x.name), .slice A1 x.who.length c1, .slice A2 x.groups.length c2] 59) := ⟨_, rfl⟩
      have b6 := blk_new hV
      have hb := below_new hV
      have HV6 := Lib.hid hV.symm
      clear hV
      replace hr := (hr.below hb).more hb.size
      replace hbt := hbt.trans (hb.mono hbt.size)
      replace r1 := (r1.below hb).more hb.size
      replace r2 := (r2.below hb).more hb.size
      clear hb
      have e0 := blk_cell (j := 0) b6
      simp only [List.getElem?_toArray, List.getElem?_cons_zero, List.getElem?_cons_succ] at e0
      have e1 := blk_cell (j := 1) b6
      simp only [List.getElem?_toArray, List.getElem?_cons_zero, List.getElem?_cons_succ] at e1
      have e2 := blk_cell (j := 2) b6
      simp only [List.getElem?_toArray, List.getElem?_cons_zero, List.getElem?_cons_succ] at e2
      rw [← HV6.out] at e0 e1 e2
      go_wp2_with fail
      rw [HV6.out]
      clear e0 x0 e1 x1 e2 x2
      refine (sPut5_any Ab _ cb _ x A1 c1 A2 c2 V6 hr (by omega) HSM.out r1 r2).mono ?_
      rintro e w7 ⟨v7, rfl, ho7, hb7⟩
      replace ho7 := own_mono ho7 hbt.size
      replace hbt := hbt.trans (hb7.mono hbt.size)
      go_wp2_with fail
      go_roundw
      case rel => exact ⟨j + 1, v7, by omega, by go_num, rfl, by rw [HEj.out, List.length_append, ← Nat.add_assoc, ← List.append_assoc]; exact ho7, hbt⟩
      case measure => simp [intOf]; omega
    · obtain rfl : j = n := by omega
      have d1 : decide ((j : Int) < (j : Int)) = false := by simp
      rw [HEN.out] at ho
      go_wp2_with fail
      go_ret
      exact ⟨_, rfl, ho, hbt⟩

end Go.Proofs.YtfockoihmoljfaaGreatDoor

/-
  The walk of Put.
-/
namespace Go.Proofs.YtfockoihmoljfaaGreatDoor
open Go.RowKit Go.Shelf
set_option linter.unusedVariables false
set_option linter.unusedSimpArgs false

/-- Bytes in new memory, and an error. -/
def PutPost (R : List UInt8 × Int) (w : World) (e : Ending) (w' : World) : Prop :=
  ∃ v, e = .returned (.tuple #[v, .int .i64 R.2]) ∧ w'.ownsRow w.heap.size 5 1 v R.1.length (bv R.1) ∧ Below w.heap.size w w'
theorem putpost_err {R : List UInt8 × Int} {er : Int} {w w' : World} (hR : R = ([], er)) (hb : Below w.heap.size w w') : PutPost R w (.returned (.tuple #[.slice none 0 0, .int .i64 er])) w' := by
  subst hR
  exact ⟨.slice none 0 0, rfl, World.ownsRow_nil _ _ _ _, hb⟩

set_option maxRecDepth 100000 in
set_option maxHeartbeats 4000000 in
theorem sPut_any (f : Sc.Five) (s : Sc.Sch) (mx : Int) (w : World) (h : Sc.RdSch w w.heap.size f s) (hm : w.cell? ⟨0, 0, none⟩ = some (.int .i64 mx)) :
    Calls Tryz.prog 20 #[.agg f.vals] w (PutPost (Sc.putR s) w) := by
  have HLN := Lib.hid (show s.slots.length = f.nS ∧ s.rooms.length = f.nR ∧ s.people.length = f.nP ∧ s.groups.length = f.nG ∧ s.lessons.length = f.nL from ⟨h.slots.len (by omega), h.rooms.len (by omega), h.people.len (by omega), h.groups.len (by omega), h.lessons.len (by omega)⟩)
  have hbt := Below.refl w.heap.size w
  obtain ⟨V1, hV⟩ : ∃ V1, V1 = w.alloc (.cells #[.slice f.aS f.nS f.cS, .slice f.aR f.nR f.cR, .slice f.aP f.nP f.cP, .slice f.aG f.nG f.cG, .slice f.aL f.nL f.cL] 28) := ⟨_, rfl⟩
  have b0 := blk_new hV
  have hb := below_new hV
  replace h := (h.below hb).more hb.size
  replace hbt := hbt.trans (hb.mono hbt.size)
  clear hb
  have HSV1 : Hid (V1.heap.size = w.heap.size + 1) := by show V1.heap.size = _; rw [hV, World.size_alloc]
  have HVV1 := Lib.hid hV.symm
  clear hV
  clear HSV1
  have hm2 : V1.cell? ⟨0, 0, none⟩ = some (.int .i64 mx) := (hbt.cell (World.block_lt_of_cell? _ _ hm)).trans hm
  unfold Sc.Five.vals
  have c0 := blk_cell (j := 0) b0
  simp only [List.getElem?_toArray, List.getElem?_cons_zero, List.getElem?_cons_succ] at c0
  have c1 := blk_cell (j := 1) b0
  simp only [List.getElem?_toArray, List.getElem?_cons_zero, List.getElem?_cons_succ] at c1
  have c2 := blk_cell (j := 2) b0
  simp only [List.getElem?_toArray, List.getElem?_cons_zero, List.getElem?_cons_succ] at c2
  have c3 := blk_cell (j := 3) b0
  simp only [List.getElem?_toArray, List.getElem?_cons_zero, List.getElem?_cons_succ] at c3
  have c4 := blk_cell (j := 4) b0
  simp only [List.getElem?_toArray, List.getElem?_cons_zero, List.getElem?_cons_succ] at c4
  rw [← HVV1.out] at c0 c1 c2 c3 c4
  go_enter Tryz.func20, Tryz.ntmps20
  go_wp2_with fail
  rw [HVV1.out]
  clear HVV1 c0 c1 c2 c3 c4
  refine (sCheck_any f s mx V1 h hm2).mono ?_
  rintro e w3 ⟨rfl, hb⟩
  replace h := (h.below hb).more hb.size
  replace b0 := blk_below b0 hb
  replace hbt := hbt.trans (hb.mono hbt.size)
  clear hb
  clear hm2 hm
  by_cases hE : Sc.chk s ≠ 0
  · have HC : Hid (Sc.putR s = ([], Sc.chk s)) := by show _ = _; unfold Sc.putR; rw [if_pos hE]
    generalize Sc.chk s = er at *
    have dE : (er != 0) = true := by simp; omega
    go_wp2_with fail
    go_ret2
    exact putpost_err HC.out hbt
  · have hE : Sc.chk s = 0 := Classical.not_not.1 hE
    have HC : Hid (Sc.putR s = (Sc.putB s, 0)) := by show _ = _; unfold Sc.putR; rw [if_neg (fun hh => hh hE)]
    have SM := Sc.small_of hE
    have HSM := Lib.hid SM
    have hlens := SM.lens
    rw [HLN.out.1, HLN.out.2.1, HLN.out.2.2.1, HLN.out.2.2.2.1, HLN.out.2.2.2.2] at hlens
    obtain ⟨z1, z2, z3, z4, z5⟩ := hlens
    clear SM
    rw [hE]
    clear hE HLN
    have hp0 : (Sc.putA Sc.putSlo s.slots).length ≤ 160010 := Sc.putA_bd (fun x hx => Sc.lenSlo (HSM.out.slots x hx)) HSM.out.lens.1
    have hp1 : (Sc.putA Sc.putRoo s.rooms).length ≤ 160010 := Sc.putA_bd (fun x hx => Sc.lenRoo (HSM.out.rooms x hx)) HSM.out.lens.2.1
    have hp2 : (Sc.putA Sc.putPer s.people).length ≤ 160010 := Sc.putA_bd (fun x hx => Sc.lenPer (HSM.out.people x hx)) HSM.out.lens.2.2.1
    have hp3 : (Sc.putA Sc.putGro s.groups).length ≤ 160010 := Sc.putA_bd (fun x hx => Sc.lenGro (HSM.out.groups x hx)) HSM.out.lens.2.2.2.1
    have hp4 : (Sc.putA Sc.putLes s.lessons).length ≤ 160010 := Sc.putA_bd (fun x hx => Sc.lenLes (HSM.out.lessons x hx)) HSM.out.lens.2.2.2.2
    have c0 := blk_cell (j := 0) b0
    simp only [List.getElem?_toArray, List.getElem?_cons_zero, List.getElem?_cons_succ] at c0
    go_wp2_with fail
    clear c0
    refine (paS_any none (0) 0 ([]) f.aS f.nS f.cS s.slots w3 (RdB.nil _ _) h.slots (by omega) z1 HSM.out.slots).mono ?_
    rintro e y0 ⟨v0, rfl, ho0, hb⟩
    obtain ⟨p0, hq0⟩ : ∃ p, p = Sc.putA Sc.putSlo s.slots := ⟨_, rfl⟩
    rw [← hq0] at ho0 hp0
    have HQ0 := Lib.hid hq0
    clear hq0
    replace ho0 := own_mono ho0 hbt.size
    simp only [Nat.zero_add, List.nil_append] at ho0
    obtain ⟨B0, d0, rfl, hr0⟩ := own_rdB ho0
    clear ho0
    replace h := (h.below hb).more hb.size
    replace b0 := blk_below b0 hb
    replace hbt := hbt.trans (hb.mono hbt.size)
    clear hb
    have c1 := blk_cell (j := 1) b0
    simp only [List.getElem?_toArray, List.getElem?_cons_zero, List.getElem?_cons_succ] at c1
    go_wp2_with fail
    clear c1
    refine (paR_any B0 (p0.length) d0 (p0) f.aR f.nR f.cR s.rooms y0 hr0 h.rooms (by omega) z2 HSM.out.rooms).mono ?_
    rintro e y1 ⟨v1, rfl, ho1, hb⟩
    obtain ⟨p1, hq1⟩ : ∃ p, p = Sc.putA Sc.putRoo s.rooms := ⟨_, rfl⟩
    rw [← hq1] at ho1 hp1
    have HQ1 := Lib.hid hq1
    clear hq1
    replace ho1 := own_mono ho1 hbt.size
    obtain ⟨B1, d1, rfl, hr1⟩ := own_rdB ho1
    clear ho1
    replace h := (h.below hb).more hb.size
    replace b0 := blk_below b0 hb
    replace hr0 := (hr0.below hb).more hb.size
    replace hbt := hbt.trans (hb.mono hbt.size)
    clear hb
    clear hr0
    have c2 := blk_cell (j := 2) b0
    simp only [List.getElem?_toArray, List.getElem?_cons_zero, List.getElem?_cons_succ] at c2
    go_wp2_with fail
    clear c2
    refine (paP_any B1 ((p0.length) + p1.length) d1 ((p0) ++ p1) f.aP f.nP f.cP s.people y1 hr1 h.people (by omega) z3 HSM.out.people).mono ?_
    rintro e y2 ⟨v2, rfl, ho2, hb⟩
    obtain ⟨p2, hq2⟩ : ∃ p, p = Sc.putA Sc.putPer s.people := ⟨_, rfl⟩
    rw [← hq2] at ho2 hp2
    have HQ2 := Lib.hid hq2
    clear hq2
    replace ho2 := own_mono ho2 hbt.size
    obtain ⟨B2, d2, rfl, hr2⟩ := own_rdB ho2
    clear ho2
    replace h := (h.below hb).more hb.size
    replace b0 := blk_below b0 hb
    replace hr1 := (hr1.below hb).more hb.size
    replace hbt := hbt.trans (hb.mono hbt.size)
    clear hb
    clear hr1
    have c3 := blk_cell (j := 3) b0
    simp only [List.getElem?_toArray, List.getElem?_cons_zero, List.getElem?_cons_succ] at c3
    go_wp2_with fail
    clear c3
    refine (paG_any B2 (((p0.length) + p1.length) + p2.length) d2 (((p0) ++ p1) ++ p2) f.aG f.nG f.cG s.groups y2 hr2 h.groups (by omega) z4 HSM.out.groups).mono ?_
    rintro e y3 ⟨v3, rfl, ho3, hb⟩
    obtain ⟨p3, hq3⟩ : ∃ p, p = Sc.putA Sc.putGro s.groups := ⟨_, rfl⟩
    rw [← hq3] at ho3 hp3
    have HQ3 := Lib.hid hq3
    clear hq3
    replace ho3 := own_mono ho3 hbt.size
    obtain ⟨B3, d3, rfl, hr3⟩ := own_rdB ho3
    clear ho3
    replace h := (h.below hb).more hb.size
    replace b0 := blk_below b0 hb
    replace hr2 := (hr2.below hb).more hb.size
    replace hbt := hbt.trans (hb.mono hbt.size)
    clear hb
    clear hr2
    have c4 := blk_cell (j := 4) b0
    simp only [List.getElem?_toArray, List.getElem?_cons_zero, List.getElem?_cons_succ] at c4
    go_wp2_with fail
    clear c4
    refine (paL_any B3 ((((p0.length) + p1.length) + p2.length) + p3.length) d3 ((((p0) ++ p1) ++ p2) ++ p3) f.aL f.nL f.cL s.lessons y3 hr3 h.lessons (by omega) z5 HSM.out.lessons).mono ?_
    rintro e y4 ⟨v4, rfl, ho4, hb⟩
    obtain ⟨p4, hq4⟩ : ∃ p, p = Sc.putA Sc.putLes s.lessons := ⟨_, rfl⟩
    rw [← hq4] at ho4 hp4
    have HQ4 := Lib.hid hq4
    clear hq4
    replace ho4 := own_mono ho4 hbt.size
    obtain ⟨B4, d4, rfl, hr4⟩ := own_rdB ho4
    replace h := (h.below hb).more hb.size
    replace b0 := blk_below b0 hb
    replace hr3 := (hr3.below hb).more hb.size
    replace hbt := hbt.trans (hb.mono hbt.size)
    clear hb
    clear hr3
    have HB : Hid (Sc.putB s = p0 ++ p1 ++ p2 ++ p3 ++ p4) := by show _ = _; unfold Sc.putB; rw [HQ0.out, HQ1.out, HQ2.out, HQ3.out, HQ4.out]
    have hfin : y4.ownsRow w.heap.size 5 1 (.slice B4 (((((p0.length) + p1.length) + p2.length) + p3.length) + p4.length) d4) (Sc.putB s).length (bv (Sc.putB s)) := by
      rw [HB.out]
      simpa [Nat.add_assoc, List.append_assoc] using ho4
    clear ho4
    generalize ((((p0.length) + p1.length) + p2.length) + p3.length) + p4.length = N4 at *
    have HFIN := Lib.hid hfin
    clear hfin
    go_wp2_with fail
    go_ret2
    rw [HC.out]
    exact ⟨.slice B4 N4 d4, rfl, HFIN.out, hbt⟩

end Go.Proofs.YtfockoihmoljfaaGreatDoor

