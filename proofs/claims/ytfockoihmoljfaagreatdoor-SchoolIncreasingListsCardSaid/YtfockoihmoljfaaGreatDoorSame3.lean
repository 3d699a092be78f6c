/-
  The walks of the reference's Ints and Same, at equal arguments.
-/
import Derived.Test.YtfockoihmoljfaaGreatDoorLotS
import Derived.Test.YtfockoihmoljfaaGreatDoorSChkW
import Derived.Test.YtfockoihmoljfaaGreatDoorLotA
import Derived.BigQuiet
namespace Go.Proofs.YtfockoihmoljfaaGreatDoor
open Go.RowKit Go.Shelf
set_option linter.unusedVariables false
set_option linter.unusedSimpArgs false

theorem run_neq_slo (s : ByteArray) (a b : Int) (w : World) : (binOp .neq 69 (.agg #[.string s, .int .i64 a, .int .i64 b]) (.agg #[.string s, .int .i64 a, .int .i64 b])).run Tryz.prog w = .ok (.bool false) w := by
  rw [run_neq_struct, run_equalIn_struct _ _ _ _ _ (by kernel_rfl) (by kernel_rfl)]
  simp [go_sem, Program.fieldsOf, Tryz.underlying69, Op.eqFields]
theorem run_neq_gro (s : ByteArray) (a : Int) (w : World) : (binOp .neq 49 (.agg #[.string s, .int .i64 a]) (.agg #[.string s, .int .i64 a])).run Tryz.prog w = .ok (.bool false) w := by
  rw [run_neq_struct, run_equalIn_struct _ _ _ _ _ (by kernel_rfl) (by kernel_rfl)]
  simp [go_sem, Program.fieldsOf, Tryz.underlying49, Op.eqFields]
attribute [local go_sem ↓] run_neq_slo run_neq_gro

set_option maxRecDepth 100000 in
set_option maxHeartbeats 2000000 in
theorem rInts3_same (A A' : Option Addr) (n c c' : Nat) (l : List Int) (w : World) (h : RdI w w.heap.size A n c l) (h' : RdI w w.heap.size A' n c' l) :
    Calls Tryz.prog 79 #[.slice A n c, .slice A' n c'] w fun e w' => e = .returned (.bool true) ∧ Below w.heap.size w w' := by
  have hm := h.max
  have hm' := h'.max
  have hle := h.le
  have hle' := h'.le
  have hlen := Lib.hid h.len
  have d0 : ((n : Int) != (n : Int)) = false := by simp
  go_enter Tryz.func79, Tryz.ntmps79
  go_wp2_with fail
  go_loopw [5] (fun i wr => ∃ k : Nat, k ≤ n ∧ i = .int .i64 k ∧ Below w.heap.size w wr) (fun i _ => n - (intOf i).toNat)
  case atStart => exact ⟨0, by omega, rfl, Below.refl _ _⟩
  case round =>
    obtain ⟨k, hk, rfl, hbt⟩ := hrel
    by_cases hkn : k < n
    · have hkl : k < l.length := by rw [hlen.out]; exact hkn
      obtain ⟨ad, rfl, hab, c1, _, _⟩ := (h.below hbt).at_ hkn hkl
      obtain ⟨ad', rfl, hab', c1', _, _⟩ := (h'.below hbt).at_ hkn hkl
      have d5 : decide ((k : Int) < (n : Int)) = true := by simp; omega
      generalize l[k] = p at *
      have de : (p != p) = false := by simp
      go_wp2_with fail
      go_quiet (fail)
      replace hbt := below_drewN' hbt nq
      go_wp2_with fail
      go_roundw
      case rel => exact ⟨k + 1, by omega, by go_num, hbt⟩
      case measure => simp [intOf]; omega
    · obtain rfl : k = n := by omega
      have d5 : decide ((k : Int) < (k : Int)) = false := by simp
      go_wp2_with fail
      go_ret
      exact ⟨rfl, hbt⟩

set_option maxRecDepth 100000 in
set_option maxHeartbeats 8000000 in
theorem rSame3_same (f f2 : Sc.Five) (s : Sc.Sch) (w : World) (h : Sc.RdSch w w.heap.size f s) (h2 : Sc.RdSch w w.heap.size f2 s) :
    Calls Tryz.prog 24 #[.agg f.vals, .agg f2.vals] w fun e w' => e = .returned (.bool true) ∧ Below w.heap.size w w' := by
  have hbt := Below.refl w.heap.size w
  have eS : f2.nS = f.nS := by rw [← h2.slots.len (by omega), ← h.slots.len (by omega)]
  have kS := h2.slots
  rw [eS] at kS
  have mS : f.nS ≤ f.cS ∧ f.cS ≤ 9223372036854775807 := ⟨h.slots.le, h.slots.max⟩
  have nS : f.nS ≤ f2.cS ∧ f2.cS ≤ 9223372036854775807 := ⟨kS.le, kS.max⟩
  have HS := Lib.hid (h.slots.len (by omega))
  have eR : f2.nR = f.nR := by rw [← h2.rooms.len (by omega), ← h.rooms.len (by omega)]
  have kR := h2.rooms
  rw [eR] at kR
  have mR : f.nR ≤ f.cR ∧ f.cR ≤ 9223372036854775807 := ⟨h.rooms.le, h.rooms.max⟩
  have nR : f.nR ≤ f2.cR ∧ f2.cR ≤ 9223372036854775807 := ⟨kR.le, kR.max⟩
  have HR := Lib.hid (h.rooms.len (by omega))
  have eP : f2.nP = f.nP := by rw [← h2.people.len (by omega), ← h.people.len (by omega)]
  have kP := h2.people
  rw [eP] at kP
  have mP : f.nP ≤ f.cP ∧ f.cP ≤ 9223372036854775807 := ⟨h.people.le, h.people.max⟩
  have nP : f.nP ≤ f2.cP ∧ f2.cP ≤ 9223372036854775807 := ⟨kP.le, kP.max⟩
  have HP := Lib.hid (h.people.len (by omega))
  have eG : f2.nG = f.nG := by rw [← h2.groups.len (by omega), ← h.groups.len (by omega)]
  have kG := h2.groups
  rw [eG] at kG
  have mG : f.nG ≤ f.cG ∧ f.cG ≤ 9223372036854775807 := ⟨h.groups.le, h.groups.max⟩
  have nG : f.nG ≤ f2.cG ∧ f2.cG ≤ 9223372036854775807 := ⟨kG.le, kG.max⟩
  have HG := Lib.hid (h.groups.len (by omega))
  have eL : f2.nL = f.nL := by rw [← h2.lessons.len (by omega), ← h.lessons.len (by omega)]
  have kL := h2.lessons
  rw [eL] at kL
  have mL : f.nL ≤ f.cL ∧ f.cL ≤ 9223372036854775807 := ⟨h.lessons.le, h.lessons.max⟩
  have nL : f.nL ≤ f2.cL ∧ f2.cL ≤ 9223372036854775807 := ⟨kL.le, kL.max⟩
  have HL := Lib.hid (h.lessons.len (by omega))
  unfold Sc.Five.vals
  rw [eS, eR, eP, eG, eL]
  clear eS eR eP eG eL h2
  obtain ⟨V1, hV⟩ : ∃ V1, V1 = w.alloc (.cells #[.slice f.aS f.nS f.cS, .slice f.aR f.nR f.cR, .slice f.aP f.nP f.cP, .slice f.aG f.nG f.cG, .slice f.aL f.nL f.cL] 28) := ⟨_, rfl⟩
  have b0 := blk_new hV
  have hb := below_new hV
  replace hbt := hbt.trans (hb.mono hbt.size)
  clear hb
  have HSV1 : Hid (V1.heap.size = w.heap.size + 1) := by show V1.heap.size = _; rw [hV, World.size_alloc]
  have HVV1 := Lib.hid hV.symm
  clear hV
  obtain ⟨V2, hV⟩ : ∃ V2, V2 = V1.alloc (.cells #[.slice f2.aS f.nS f2.cS, .slice f2.aR f.nR f2.cR, .slice f2.aP f.nP f2.cP, .slice f2.aG f.nG f2.cG, .slice f2.aL f.nL f2.cL] 28) := ⟨_, rfl⟩
  have b1 := blk_new hV
  have hb := below_new hV
  replace b0 := blk_below b0 hb
  replace hbt := hbt.trans (hb.mono hbt.size)
  clear hb
  have HSV2 : Hid (V2.heap.size = V1.heap.size + 1) := by show V2.heap.size = _; rw [hV, World.size_alloc]
  have HVV2 := Lib.hid hV.symm
  clear hV
  rw [HSV1.out] at b1
  rw [← HVV1.out] at HVV2
  have c0 := blk_cell (j := 0) b0
  simp only [List.getElem?_toArray, List.getElem?_cons_zero, List.getElem?_cons_succ] at c0
  have c1 := blk_cell (j := 1) b0
  simp only [List.getElem?_toArray, List.getElem?_cons_zero, List.getElem?_cons_succ] at c1
  have c2 := blk_cell (j := 2) b0
  simp only [List.getElem?_toArray, List.getElem?_cons_zero, List.getElem?_cons_succ] at c2
  have c3 := blk_cell (j := 3) b0
  simp only [List.getElem?_toArray, List.getElem?_cons_zero, List.getElem?_cons_succ] at c3
  have c4 := blk_cell (j := 4) b0
  simp only [List.getElem?_toArray, List.getElem?_cons_zero, List.getElem?_cons_succ] at c4
  have d0 := blk_cell (j := 0) b1
  simp only [List.getElem?_toArray, List.getElem?_cons_zero, List.getElem?_cons_succ] at d0
  have d1 := blk_cell (j := 1) b1
  simp only [List.getElem?_toArray, List.getElem?_cons_zero, List.getElem?_cons_succ] at d1
  have d2 := blk_cell (j := 2) b1
  simp only [List.getElem?_toArray, List.getElem?_cons_zero, List.getElem?_cons_succ] at d2
  have d3 := blk_cell (j := 3) b1
  simp only [List.getElem?_toArray, List.getElem?_cons_zero, List.getElem?_cons_succ] at d3
  have d4 := blk_cell (j := 4) b1
  simp only [List.getElem?_toArray, List.getElem?_cons_zero, List.getElem?_cons_succ] at d4
  rw [← HVV2.out] at c0 c1 c2 c3 c4 d0 d1 d2 d3 d4
  go_enter Tryz.func24, Tryz.ntmps24
  go_wp2_with fail
  rw [HVV2.out]
  clear HVV2 HVV1 HSV1 HSV2 c0 c1 c2 c3 c4 d0 d1 d2 d3 d4
  go_loopw [5] (fun iv wr => ∃ j : Nat, j ≤ f.nS ∧ iv = .int .i64 j ∧ wr.heap[w.heap.size]? = some (.cells #[.slice f.aS f.nS f.cS, .slice f.aR f.nR f.cR, .slice f.aP f.nP f.cP, .slice f.aG f.nG f.cG, .slice f.aL f.nL f.cL] 28) ∧ wr.heap[w.heap.size + 1]? = some (.cells #[.slice f2.aS f.nS f2.cS, .slice f2.aR f.nR f2.cR, .slice f2.aP f.nP f2.cP, .slice f2.aG f.nG f2.cG, .slice f2.aL f.nL f2.cL] 28) ∧ Below w.heap.size w wr) (fun iv _ => f.nS - (intOf iv).toNat)
  case atStart => exact ⟨0, by omega, rfl, b0, b1, hbt⟩
  case round =>
    clear b0 b1 hbt
    obtain ⟨j, hj, rfl, b0, b1, hbt⟩ := hrel
    have c0 := blk_cell (j := 0) b0
    simp only [List.getElem?_toArray, List.getElem?_cons_zero, List.getElem?_cons_succ] at c0
    by_cases hjn : j < f.nS
    · have t1 : decide ((j : Int) < (f.nS : Int)) = true := by simp; omega
      have t2 : decide (j < f.nS) = true := by simp; omega
      have hjl : j < s.slots.length := by rw [HS.out]; exact hjn
      obtain ⟨ad, r, hA, hab, hr, hR, hc⟩ := RdS.at_ (by omega) (h.slots.below Sc.lasts_Slo hbt) hjn hjl
      obtain ⟨ad', r', hA', hab', hr', hR', hc'⟩ := RdS.at_ (by omega) (kS.below Sc.lasts_Slo hbt) hjn hjl
      have HAD := Lib.hid hA
      have HAD' := Lib.hid hA'
      clear hA hA' hr hr'
      obtain ⟨rfl, _, _, _⟩ := hR
      obtain ⟨rfl, _, _, _⟩ := hR'
      have x0 := hc 0 _ rfl
      have y0 := hc' 0 _ rfl
      have x1 := hc 1 _ rfl
      have y1 := hc' 1 _ rfl
      have x2 := hc 2 _ rfl
      have y2 := hc' 2 _ rfl
      rw [Nat.add_zero] at x0 y0
      replace x1 := cell_sub x1
      replace y1 := cell_sub y1
      replace x2 := cell_sub x2
      replace y2 := cell_sub y2
      clear hc hc'
      generalize s.slots[j] = z at *
      go_wp2_with fail
      clear c0
      refine wp_region_plan [([0, 1, 2, 3, 4, 5, 6, 7, 8, 9, 10], none)] (by kernel_rfl) (by kernel_rfl) ?_
      intro wd hsz hb
      clear hsz
      replace b0 := blk_below b0 hb
      replace b1 := blk_below b1 hb
      replace x0 := (hb.cell (World.block_lt_of_cell? _ _ x0)).trans x0
      replace x1 := (hb.cell (World.block_lt_of_cell? _ _ x1)).trans x1
      replace x2 := (hb.cell (World.block_lt_of_cell? _ _ x2)).trans x2
      replace y0 := (hb.cell (World.block_lt_of_cell? _ _ y0)).trans y0
      replace y1 := (hb.cell (World.block_lt_of_cell? _ _ y1)).trans y1
      replace y2 := (hb.cell (World.block_lt_of_cell? _ _ y2)).trans y2
      replace hbt := hbt.trans (hb.mono hbt.size)
      clear hb
      simp only [pickP, pick, List.map_cons, List.map_nil, Option.map_some, Option.map_none, List.getD_cons_zero, List.getD_cons_succ]
      have c0 : ∀ x : Ext wd.heap.size wd, x.val.cell? ⟨w.heap.size, 0, none⟩ = some (.slice f.aS f.nS f.cS) := fun x => ((x.cell (blk_lt b0)).trans (blk_cell b0)).trans rfl
      have d0 : ∀ x : Ext wd.heap.size wd, x.val.cell? ⟨w.heap.size + 1, 0, none⟩ = some (.slice f2.aS f.nS f2.cS) := fun x => ((x.cell (blk_lt b1)).trans (blk_cell b1)).trans rfl
      rw [HAD.out] at c0
      rw [HAD'.out] at d0
      have p0 := fun x : Ext wd.heap.size wd => (x.cell (World.block_lt_of_cell? _ _ x0)).trans x0
      have q0 := fun x : Ext wd.heap.size wd => (x.cell (World.block_lt_of_cell? _ _ y0)).trans y0
      have p1 := fun x : Ext wd.heap.size wd => (x.cell (World.block_lt_of_cell? _ _ x1)).trans x1
      have q1 := fun x : Ext wd.heap.size wd => (x.cell (World.block_lt_of_cell? _ _ y1)).trans y1
      have p2 := fun x : Ext wd.heap.size wd => (x.cell (World.block_lt_of_cell? _ _ x2)).trans x2
      have q2 := fun x : Ext wd.heap.size wd => (x.cell (World.block_lt_of_cell? _ _ y2)).trans y2
      refine plan_cons ?_
      (repeat (go_big_quiet_step (fail)))
      refine plan_nil ?_
      clear c0 d0 p0 q0 p1 q1 p2 q2
      refine plan_end ?_
      go_wp2_with fail
      go_roundw
      case rel => exact ⟨j + 1, by omega, by go_num, b0, b1, hbt⟩
      case measure => simp [intOf]; omega
    · obtain rfl : j = f.nS := by omega
      have t1 : decide ((f.nS : Int) < (f.nS : Int)) = false := by simp
      go_wp2_with fail
      clear c0 t1
      go_loopw [6] (fun iv wr => ∃ j : Nat, j ≤ f.nR ∧ iv = .int .i64 j ∧ wr.heap[w.heap.size]? = some (.cells #[.slice f.aS f.nS f.cS, .slice f.aR f.nR f.cR, .slice f.aP f.nP f.cP, .slice f.aG f.nG f.cG, .slice f.aL f.nL f.cL] 28) ∧ wr.heap[w.heap.size + 1]? = some (.cells #[.slice f2.aS f.nS f2.cS, .slice f2.aR f.nR f2.cR, .slice f2.aP f.nP f2.cP, .slice f2.aG f.nG f2.cG, .slice f2.aL f.nL f2.cL] 28) ∧ Below w.heap.size w wr) (fun iv _ => f.nR - (intOf iv).toNat)
      case atStart => exact ⟨0, by omega, rfl, b0, b1, hbt⟩
      case round =>
        clear b0 b1 hbt
        obtain ⟨j, hj, rfl, b0, b1, hbt⟩ := hrel
        have c1 := blk_cell (j := 1) b0
        simp only [List.getElem?_toArray, List.getElem?_cons_zero, List.getElem?_cons_succ] at c1
        by_cases hjn : j < f.nR
        · have t1 : decide ((j : Int) < (f.nR : Int)) = true := by simp; omega
          have t2 : decide (j < f.nR) = true := by simp; omega
          have hjl : j < s.rooms.length := by rw [HR.out]; exact hjn
          obtain ⟨ad, r, hA, hab, hr, hR, hc⟩ := RdS.at_ (by omega) (h.rooms.below Sc.lasts_Roo hbt) hjn hjl
          obtain ⟨ad', r', hA', hab', hr', hR', hc'⟩ := RdS.at_ (by omega) (kR.below Sc.lasts_Roo hbt) hjn hjl
          have HAD := Lib.hid hA
          have HAD' := Lib.hid hA'
          clear hA hA' hr hr'
          obtain ⟨A1, c1', rfl, hI1, _, _, _⟩ := hR
          obtain ⟨B1, d1', rfl, hJ1, _, _, _⟩ := hR'
          have x0 := hc 0 _ rfl
          have y0 := hc' 0 _ rfl
          have x1 := hc 1 _ rfl
          have y1 := hc' 1 _ rfl
          have x2 := hc 2 _ rfl
          have y2 := hc' 2 _ rfl
          have x3 := hc 3 _ rfl
          have y3 := hc' 3 _ rfl
          rw [Nat.add_zero] at x0 y0
          replace x1 := cell_sub x1
          replace y1 := cell_sub y1
          replace x2 := cell_sub x2
          replace y2 := cell_sub y2
          replace x3 := cell_sub x3
          replace y3 := cell_sub y3
          clear hc hc'
          generalize s.rooms[j] = z at *
          go_wp2_with fail
          clear c1
          replace hI1 := hI1.more hbt.size
          replace hJ1 := hJ1.more hbt.size
          refine wp_region_plan [([0, 1, 2, 3, 4, 5, 6, 7, 8, 9, 10, 11, 12, 13, 14, 15, 16, 17, 18, 19, 20, 21, 22, 23, 24, 25, 26, 27, 28, 29, 30, 31, 32, 33, 34, 35, 36, 37, 38, 39, 40, 41, 42, 43, 44, 45, 46, 47, 48, 49, 50, 51, 52, 53, 54, 55], some 56), ([57, 58], none)] (by kernel_rfl) (by kernel_rfl) ?_
          intro wd hsz hb
          clear hsz
          replace b0 := blk_below b0 hb
          replace b1 := blk_below b1 hb
          replace x0 := (hb.cell (World.block_lt_of_cell? _ _ x0)).trans x0
          replace x1 := (hb.cell (World.block_lt_of_cell? _ _ x1)).trans x1
          replace x2 := (hb.cell (World.block_lt_of_cell? _ _ x2)).trans x2
          replace x3 := (hb.cell (World.block_lt_of_cell? _ _ x3)).trans x3
          replace y0 := (hb.cell (World.block_lt_of_cell? _ _ y0)).trans y0
          replace y1 := (hb.cell (World.block_lt_of_cell? _ _ y1)).trans y1
          replace y2 := (hb.cell (World.block_lt_of_cell? _ _ y2)).trans y2
          replace y3 := (hb.cell (World.block_lt_of_cell? _ _ y3)).trans y3
          replace hI1 := (hI1.below hb).more hb.size
          replace hJ1 := (hJ1.below hb).more hb.size
          replace hbt := hbt.trans (hb.mono hbt.size)
          clear hb
          simp only [pickP, pick, List.map_cons, List.map_nil, Option.map_some, Option.map_none, List.getD_cons_zero, List.getD_cons_succ]
          have c1 : ∀ x : Ext wd.heap.size wd, x.val.cell? ⟨w.heap.size, 1, none⟩ = some (.slice f.aR f.nR f.cR) := fun x => ((x.cell (blk_lt b0)).trans (blk_cell b0)).trans rfl
          have d1 : ∀ x : Ext wd.heap.size wd, x.val.cell? ⟨w.heap.size + 1, 1, none⟩ = some (.slice f2.aR f.nR f2.cR) := fun x => ((x.cell (blk_lt b1)).trans (blk_cell b1)).trans rfl
          rw [HAD.out] at c1
          rw [HAD'.out] at d1
          have p0 := fun x : Ext wd.heap.size wd => (x.cell (World.block_lt_of_cell? _ _ x0)).trans x0
          have q0 := fun x : Ext wd.heap.size wd => (x.cell (World.block_lt_of_cell? _ _ y0)).trans y0
          have p1 := fun x : Ext wd.heap.size wd => (x.cell (World.block_lt_of_cell? _ _ x1)).trans x1
          have q1 := fun x : Ext wd.heap.size wd => (x.cell (World.block_lt_of_cell? _ _ y1)).trans y1
          have p2 := fun x : Ext wd.heap.size wd => (x.cell (World.block_lt_of_cell? _ _ x2)).trans x2
          have q2 := fun x : Ext wd.heap.size wd => (x.cell (World.block_lt_of_cell? _ _ y2)).trans y2
          have p3 := fun x : Ext wd.heap.size wd => (x.cell (World.block_lt_of_cell? _ _ x3)).trans x3
          have q3 := fun x : Ext wd.heap.size wd => (x.cell (World.block_lt_of_cell? _ _ y3)).trans y3
          refine plan_cons ?_
          (repeat (go_big_quiet_step (fail)))
          refine plan_nil ?_
          clear c1 d1 p0 q0 p1 q1 p2 q2 p3 q3
          refine plan_call (by kernel_rfl) (fun K hK => ?_)
          go_simp
          refine (rInts3_same A1 B1 _ c1' d1' z.shut wd hI1 hJ1).mono ?_
          rintro e v0 ⟨rfl, hb⟩
          refine hK.out _ _ hb ?_
          clear hK K
          (try simp only [Act.put, List.setIfInBounds_toArray, List.set_cons_zero, List.set_cons_succ])
          replace b0 := blk_below b0 hb
          replace b1 := blk_below b1 hb
          replace x0 := (hb.cell (World.block_lt_of_cell? _ _ x0)).trans x0
          replace x1 := (hb.cell (World.block_lt_of_cell? _ _ x1)).trans x1
          replace x2 := (hb.cell (World.block_lt_of_cell? _ _ x2)).trans x2
          replace x3 := (hb.cell (World.block_lt_of_cell? _ _ x3)).trans x3
          replace y0 := (hb.cell (World.block_lt_of_cell? _ _ y0)).trans y0
          replace y1 := (hb.cell (World.block_lt_of_cell? _ _ y1)).trans y1
          replace y2 := (hb.cell (World.block_lt_of_cell? _ _ y2)).trans y2
          replace y3 := (hb.cell (World.block_lt_of_cell? _ _ y3)).trans y3
          replace hI1 := (hI1.below hb).more hb.size
          replace hJ1 := (hJ1.below hb).more hb.size
          replace hbt := hbt.trans (hb.mono hbt.size)
          clear hb
          refine plan_cons ?_
          (repeat (go_big_quiet_step (fail)))
          refine plan_nil ?_
          refine plan_end ?_
          go_wp2_with fail
          go_roundw
          case rel => exact ⟨j + 1, by omega, by go_num, b0, b1, hbt⟩
          case measure => simp [intOf]; omega
        · obtain rfl : j = f.nR := by omega
          have t1 : decide ((f.nR : Int) < (f.nR : Int)) = false := by simp
          go_wp2_with fail
          clear c1 t1
          go_loopw [7] (fun iv wr => ∃ j : Nat, j ≤ f.nP ∧ iv = .int .i64 j ∧ wr.heap[w.heap.size]? = some (.cells #[.slice f.aS f.nS f.cS, .slice f.aR f.nR f.cR, .slice f.aP f.nP f.cP, .slice f.aG f.nG f.cG, .slice f.aL f.nL f.cL] 28) ∧ wr.heap[w.heap.size + 1]? = some (.cells #[.slice f2.aS f.nS f2.cS, .slice f2.aR f.nR f2.cR, .slice f2.aP f.nP f2.cP, .slice f2.aG f.nG f2.cG, .slice f2.aL f.nL f2.cL] 28) ∧ Below w.heap.size w wr) (fun iv _ => f.nP - (intOf iv).toNat)
          case atStart => exact ⟨0, by omega, rfl, b0, b1, hbt⟩
          case round =>
            clear b0 b1 hbt
            obtain ⟨j, hj, rfl, b0, b1, hbt⟩ := hrel
            have c2 := blk_cell (j := 2) b0
            simp only [List.getElem?_toArray, List.getElem?_cons_zero, List.getElem?_cons_succ] at c2
            by_cases hjn : j < f.nP
            · have t1 : decide ((j : Int) < (f.nP : Int)) = true := by simp; omega
              have t2 : decide (j < f.nP) = true := by simp; omega
              have hjl : j < s.people.length := by rw [HP.out]; exact hjn
              obtain ⟨ad, r, hA, hab, hr, hR, hc⟩ := RdS.at_ (by omega) (h.people.below Sc.lasts_Per hbt) hjn hjl
              obtain ⟨ad', r', hA', hab', hr', hR', hc'⟩ := RdS.at_ (by omega) (kP.below Sc.lasts_Per hbt) hjn hjl
              have HAD := Lib.hid hA
              have HAD' := Lib.hid hA'
              clear hA hA' hr hr'
              obtain ⟨A1, c1', rfl, hI1, _⟩ := hR
              obtain ⟨B1, d1', rfl, hJ1, _⟩ := hR'
              have x0 := hc 0 _ rfl
              have y0 := hc' 0 _ rfl
              have x1 := hc 1 _ rfl
              have y1 := hc' 1 _ rfl
              rw [Nat.add_zero] at x0 y0
              replace x1 := cell_sub x1
              replace y1 := cell_sub y1
              clear hc hc'
              generalize s.people[j] = z at *
              go_wp2_with fail
              clear c2
              replace hI1 := hI1.more hbt.size
              replace hJ1 := hJ1.more hbt.size
              refine wp_region_plan [([0, 1, 2, 3, 4, 5, 6, 7, 8, 9, 10, 11, 12, 13, 14, 15, 16, 17, 18, 19, 20, 21, 22, 23, 24, 25], some 26), ([27, 28], none)] (by kernel_rfl) (by kernel_rfl) ?_
              intro wd hsz hb
              clear hsz
              replace b0 := blk_below b0 hb
              replace b1 := blk_below b1 hb
              replace x0 := (hb.cell (World.block_lt_of_cell? _ _ x0)).trans x0
              replace x1 := (hb.cell (World.block_lt_of_cell? _ _ x1)).trans x1
              replace y0 := (hb.cell (World.block_lt_of_cell? _ _ y0)).trans y0
              replace y1 := (hb.cell (World.block_lt_of_cell? _ _ y1)).trans y1
              replace hI1 := (hI1.below hb).more hb.size
              replace hJ1 := (hJ1.below hb).more hb.size
              replace hbt := hbt.trans (hb.mono hbt.size)
              clear hb
              simp only [pickP, pick, List.map_cons, List.map_nil, Option.map_some, Option.map_none, List.getD_cons_zero, List.getD_cons_succ]
              have c2 : ∀ x : Ext wd.heap.size wd, x.val.cell? ⟨w.heap.size, 2, none⟩ = some (.slice f.aP f.nP f.cP) := fun x => ((x.cell (blk_lt b0)).trans (blk_cell b0)).trans rfl
              have d2 : ∀ x : Ext wd.heap.size wd, x.val.cell? ⟨w.heap.size + 1, 2, none⟩ = some (.slice f2.aP f.nP f2.cP) := fun x => ((x.cell (blk_lt b1)).trans (blk_cell b1)).trans rfl
              rw [HAD.out] at c2
              rw [HAD'.out] at d2
              have p0 := fun x : Ext wd.heap.size wd => (x.cell (World.block_lt_of_cell? _ _ x0)).trans x0
              have q0 := fun x : Ext wd.heap.size wd => (x.cell (World.block_lt_of_cell? _ _ y0)).trans y0
              have p1 := fun x : Ext wd.heap.size wd => (x.cell (World.block_lt_of_cell? _ _ x1)).trans x1
              have q1 := fun x : Ext wd.heap.size wd => (x.cell (World.block_lt_of_cell? _ _ y1)).trans y1
              refine plan_cons ?_
              (repeat (go_big_quiet_step (fail)))
              refine plan_nil ?_
              clear c2 d2 p0 q0 p1 q1
              refine plan_call (by kernel_rfl) (fun K hK => ?_)
              go_simp
              refine (rInts3_same A1 B1 _ c1' d1' z.away wd hI1 hJ1).mono ?_
              rintro e v0 ⟨rfl, hb⟩
              refine hK.out _ _ hb ?_
              clear hK K
              (try simp only [Act.put, List.setIfInBounds_toArray, List.set_cons_zero, List.set_cons_succ])
              replace b0 := blk_below b0 hb
              replace b1 := blk_below b1 hb
              replace x0 := (hb.cell (World.block_lt_of_cell? _ _ x0)).trans x0
              replace x1 := (hb.cell (World.block_lt_of_cell? _ _ x1)).trans x1
              replace y0 := (hb.cell (World.block_lt_of_cell? _ _ y0)).trans y0
              replace y1 := (hb.cell (World.block_lt_of_cell? _ _ y1)).trans y1
              replace hI1 := (hI1.below hb).more hb.size
              replace hJ1 := (hJ1.below hb).more hb.size
              replace hbt := hbt.trans (hb.mono hbt.size)
              clear hb
              refine plan_cons ?_
              (repeat (go_big_quiet_step (fail)))
              refine plan_nil ?_
              refine plan_end ?_
              go_wp2_with fail
              go_roundw
              case rel => exact ⟨j + 1, by omega, by go_num, b0, b1, hbt⟩
              case measure => simp [intOf]; omega
            · obtain rfl : j = f.nP := by omega
              have t1 : decide ((f.nP : Int) < (f.nP : Int)) = false := by simp
              go_wp2_with fail
              clear c2 t1
              go_loopw [8] (fun iv wr => ∃ j : Nat, j ≤ f.nG ∧ iv = .int .i64 j ∧ wr.heap[w.heap.size]? = some (.cells #[.slice f.aS f.nS f.cS, .slice f.aR f.nR f.cR, .slice f.aP f.nP f.cP, .slice f.aG f.nG f.cG, .slice f.aL f.nL f.cL] 28) ∧ wr.heap[w.heap.size + 1]? = some (.cells #[.slice f2.aS f.nS f2.cS, .slice f2.aR f.nR f2.cR, .slice f2.aP f.nP f2.cP, .slice f2.aG f.nG f2.cG, .slice f2.aL f.nL f2.cL] 28) ∧ Below w.heap.size w wr) (fun iv _ => f.nG - (intOf iv).toNat)
              case atStart => exact ⟨0, by omega, rfl, b0, b1, hbt⟩
              case round =>
                clear b0 b1 hbt
                obtain ⟨j, hj, rfl, b0, b1, hbt⟩ := hrel
                have c3 := blk_cell (j := 3) b0
                simp only [List.getElem?_toArray, List.getElem?_cons_zero, List.getElem?_cons_succ] at c3
                by_cases hjn : j < f.nG
                · have t1 : decide ((j : Int) < (f.nG : Int)) = true := by simp; omega
                  have t2 : decide (j < f.nG) = true := by simp; omega
                  have hjl : j < s.groups.length := by rw [HG.out]; exact hjn
                  obtain ⟨ad, r, hA, hab, hr, hR, hc⟩ := RdS.at_ (by omega) (h.groups.below Sc.lasts_Gro hbt) hjn hjl
                  obtain ⟨ad', r', hA', hab', hr', hR', hc'⟩ := RdS.at_ (by omega) (kG.below Sc.lasts_Gro hbt) hjn hjl
                  have HAD := Lib.hid hA
                  have HAD' := Lib.hid hA'
                  clear hA hA' hr hr'
                  obtain ⟨rfl, _, _⟩ := hR
                  obtain ⟨rfl, _, _⟩ := hR'
                  have x0 := hc 0 _ rfl
                  have y0 := hc' 0 _ rfl
                  have x1 := hc 1 _ rfl
                  have y1 := hc' 1 _ rfl
                  rw [Nat.add_zero] at x0 y0
                  replace x1 := cell_sub x1
                  replace y1 := cell_sub y1
                  clear hc hc'
                  generalize s.groups[j] = z at *
                  go_wp2_with fail
                  clear c3
                  refine wp_region_plan [([0, 1, 2, 3, 4, 5, 6, 7, 8, 9, 10], none)] (by kernel_rfl) (by kernel_rfl) ?_
                  intro wd hsz hb
                  clear hsz
                  replace b0 := blk_below b0 hb
                  replace b1 := blk_below b1 hb
                  replace x0 := (hb.cell (World.block_lt_of_cell? _ _ x0)).trans x0
                  replace x1 := (hb.cell (World.block_lt_of_cell? _ _ x1)).trans x1
                  replace y0 := (hb.cell (World.block_lt_of_cell? _ _ y0)).trans y0
                  replace y1 := (hb.cell (World.block_lt_of_cell? _ _ y1)).trans y1
                  replace hbt := hbt.trans (hb.mono hbt.size)
                  clear hb
                  simp only [pickP, pick, List.map_cons, List.map_nil, Option.map_some, Option.map_none, List.getD_cons_zero, List.getD_cons_succ]
                  have c3 : ∀ x : Ext wd.heap.size wd, x.val.cell? ⟨w.heap.size, 3, none⟩ = some (.slice f.aG f.nG f.cG) := fun x => ((x.cell (blk_lt b0)).trans (blk_cell b0)).trans rfl
                  have d3 : ∀ x : Ext wd.heap.size wd, x.val.cell? ⟨w.heap.size + 1, 3, none⟩ = some (.slice f2.aG f.nG f2.cG) := fun x => ((x.cell (blk_lt b1)).trans (blk_cell b1)).trans rfl
                  rw [HAD.out] at c3
                  rw [HAD'.out] at d3
                  have p0 := fun x : Ext wd.heap.size wd => (x.cell (World.block_lt_of_cell? _ _ x0)).trans x0
                  have q0 := fun x : Ext wd.heap.size wd => (x.cell (World.block_lt_of_cell? _ _ y0)).trans y0
                  have p1 := fun x : Ext wd.heap.size wd => (x.cell (World.block_lt_of_cell? _ _ x1)).trans x1
                  have q1 := fun x : Ext wd.heap.size wd => (x.cell (World.block_lt_of_cell? _ _ y1)).trans y1
                  refine plan_cons ?_
                  (repeat (go_big_quiet_step (fail)))
                  refine plan_nil ?_
                  clear c3 d3 p0 q0 p1 q1
                  refine plan_end ?_
                  go_wp2_with fail
                  go_roundw
                  case rel => exact ⟨j + 1, by omega, by go_num, b0, b1, hbt⟩
                  case measure => simp [intOf]; omega
                · obtain rfl : j = f.nG := by omega
                  have t1 : decide ((f.nG : Int) < (f.nG : Int)) = false := by simp
                  go_wp2_with fail
                  clear c3 t1
                  go_loopw [9] (fun iv wr => ∃ j : Nat, j ≤ f.nL ∧ iv = .int .i64 j ∧ wr.heap[w.heap.size]? = some (.cells #[.slice f.aS f.nS f.cS, .slice f.aR f.nR f.cR, .slice f.aP f.nP f.cP, .slice f.aG f.nG f.cG, .slice f.aL f.nL f.cL] 28) ∧ wr.heap[w.heap.size + 1]? = some (.cells #[.slice f2.aS f.nS f2.cS, .slice f2.aR f.nR f2.cR, .slice f2.aP f.nP f2.cP, .slice f2.aG f.nG f2.cG, .slice f2.aL f.nL f2.cL] 28) ∧ Below w.heap.size w wr) (fun iv _ => f.nL - (intOf iv).toNat)
                  case atStart => exact ⟨0, by omega, rfl, b0, b1, hbt⟩
                  case round =>
                    clear b0 b1 hbt
                    obtain ⟨j, hj, rfl, b0, b1, hbt⟩ := hrel
                    have c4 := blk_cell (j := 4) b0
                    simp only [List.getElem?_toArray, List.getElem?_cons_zero, List.getElem?_cons_succ] at c4
                    by_cases hjn : j < f.nL
                    · have t1 : decide ((j : Int) < (f.nL : Int)) = true := by simp; omega
                      have t2 : decide (j < f.nL) = true := by simp; omega
                      have hjl : j < s.lessons.length := by rw [HL.out]; exact hjn
                      obtain ⟨ad, r, hA, hab, hr, hR, hc⟩ := RdS.at_ (by omega) (h.lessons.below Sc.lasts_Les hbt) hjn hjl
                      obtain ⟨ad', r', hA', hab', hr', hR', hc'⟩ := RdS.at_ (by omega) (kL.below Sc.lasts_Les hbt) hjn hjl
                      have HAD := Lib.hid hA
                      have HAD' := Lib.hid hA'
                      clear hA hA' hr hr'
                      obtain ⟨A1, c1', A2, c2', rfl, hI1, hI2, _⟩ := hR
                      obtain ⟨B1, d1', B2, d2', rfl, hJ1, hJ2, _⟩ := hR'
                      have x0 := hc 0 _ rfl
                      have y0 := hc' 0 _ rfl
                      have x1 := hc 1 _ rfl
                      have y1 := hc' 1 _ rfl
                      have x2 := hc 2 _ rfl
                      have y2 := hc' 2 _ rfl
                      rw [Nat.add_zero] at x0 y0
                      replace x1 := cell_sub x1
                      replace y1 := cell_sub y1
                      replace x2 := cell_sub x2
                      replace y2 := cell_sub y2
                      clear hc hc'
                      generalize s.lessons[j] = z at *
                      go_wp2_with fail
                      clear c4
                      replace hI1 := hI1.more hbt.size
                      replace hJ1 := hJ1.more hbt.size
                      replace hI2 := hI2.more hbt.size
                      replace hJ2 := hJ2.more hbt.size
                      refine wp_region_plan [([0, 1, 2, 3, 4, 5, 6, 7, 8, 9, 10, 11, 12, 13, 14, 15, 16, 17, 18, 19, 20, 21, 22, 23, 24, 25], some 26), ([27, 28, 29, 30, 31, 32, 33, 34, 35, 36, 37, 38, 39, 40, 41], some 42), ([43, 44], none)] (by kernel_rfl) (by kernel_rfl) ?_
                      intro wd hsz hb
                      clear hsz
                      replace b0 := blk_below b0 hb
                      replace b1 := blk_below b1 hb
                      replace x0 := (hb.cell (World.block_lt_of_cell? _ _ x0)).trans x0
                      replace x1 := (hb.cell (World.block_lt_of_cell? _ _ x1)).trans x1
                      replace x2 := (hb.cell (World.block_lt_of_cell? _ _ x2)).trans x2
                      replace y0 := (hb.cell (World.block_lt_of_cell? _ _ y0)).trans y0
                      replace y1 := (hb.cell (World.block_lt_of_cell? _ _ y1)).trans y1
                      replace y2 := (hb.cell (World.block_lt_of_cell? _ _ y2)).trans y2
                      replace hI1 := (hI1.below hb).more hb.size
                      replace hJ1 := (hJ1.below hb).more hb.size
                      replace hI2 := (hI2.below hb).more hb.size
                      replace hJ2 := (hJ2.below hb).more hb.size
                      replace hbt := hbt.trans (hb.mono hbt.size)
                      clear hb
                      simp only [pickP, pick, List.map_cons, List.map_nil, Option.map_some, Option.map_none, List.getD_cons_zero, List.getD_cons_succ]
                      have c4 : ∀ x : Ext wd.heap.size wd, x.val.cell? ⟨w.heap.size, 4, none⟩ = some (.slice f.aL f.nL f.cL) := fun x => ((x.cell (blk_lt b0)).trans (blk_cell b0)).trans rfl
                      have d4 : ∀ x : Ext wd.heap.size wd, x.val.cell? ⟨w.heap.size + 1, 4, none⟩ = some (.slice f2.aL f.nL f2.cL) := fun x => ((x.cell (blk_lt b1)).trans (blk_cell b1)).trans rfl
                      rw [HAD.out] at c4
                      rw [HAD'.out] at d4
                      have p0 := fun x : Ext wd.heap.size wd => (x.cell (World.block_lt_of_cell? _ _ x0)).trans x0
                      have q0 := fun x : Ext wd.heap.size wd => (x.cell (World.block_lt_of_cell? _ _ y0)).trans y0
                      have p1 := fun x : Ext wd.heap.size wd => (x.cell (World.block_lt_of_cell? _ _ x1)).trans x1
                      have q1 := fun x : Ext wd.heap.size wd => (x.cell (World.block_lt_of_cell? _ _ y1)).trans y1
                      have p2 := fun x : Ext wd.heap.size wd => (x.cell (World.block_lt_of_cell? _ _ x2)).trans x2
                      have q2 := fun x : Ext wd.heap.size wd => (x.cell (World.block_lt_of_cell? _ _ y2)).trans y2
                      refine plan_cons ?_
                      (repeat (go_big_quiet_step (fail)))
                      refine plan_nil ?_
                      clear c4 d4 p0 q0 p1 q1 p2 q2
                      refine plan_call (by kernel_rfl) (fun K hK => ?_)
                      go_simp
                      refine (rInts3_same A1 B1 _ c1' d1' z.who wd hI1 hJ1).mono ?_
                      rintro e v0 ⟨rfl, hb⟩
                      refine hK.out _ _ hb ?_
                      clear hK K
                      (try simp only [Act.put, List.setIfInBounds_toArray, List.set_cons_zero, List.set_cons_succ])
                      replace b0 := blk_below b0 hb
                      replace b1 := blk_below b1 hb
                      replace x0 := (hb.cell (World.block_lt_of_cell? _ _ x0)).trans x0
                      replace x1 := (hb.cell (World.block_lt_of_cell? _ _ x1)).trans x1
                      replace x2 := (hb.cell (World.block_lt_of_cell? _ _ x2)).trans x2
                      replace y0 := (hb.cell (World.block_lt_of_cell? _ _ y0)).trans y0
                      replace y1 := (hb.cell (World.block_lt_of_cell? _ _ y1)).trans y1
                      replace y2 := (hb.cell (World.block_lt_of_cell? _ _ y2)).trans y2
                      replace hI1 := (hI1.below hb).more hb.size
                      replace hJ1 := (hJ1.below hb).more hb.size
                      replace hI2 := (hI2.below hb).more hb.size
                      replace hJ2 := (hJ2.below hb).more hb.size
                      replace hbt := hbt.trans (hb.mono hbt.size)
                      clear hb
                      have c4 : ∀ x : Ext v0.heap.size v0, x.val.cell? ⟨w.heap.size, 4, none⟩ = some (.slice f.aL f.nL f.cL) := fun x => ((x.cell (blk_lt b0)).trans (blk_cell b0)).trans rfl
                      have d4 : ∀ x : Ext v0.heap.size v0, x.val.cell? ⟨w.heap.size + 1, 4, none⟩ = some (.slice f2.aL f.nL f2.cL) := fun x => ((x.cell (blk_lt b1)).trans (blk_cell b1)).trans rfl
                      rw [HAD.out] at c4
                      rw [HAD'.out] at d4
                      have p0 := fun x : Ext v0.heap.size v0 => (x.cell (World.block_lt_of_cell? _ _ x0)).trans x0
                      have q0 := fun x : Ext v0.heap.size v0 => (x.cell (World.block_lt_of_cell? _ _ y0)).trans y0
                      have p1 := fun x : Ext v0.heap.size v0 => (x.cell (World.block_lt_of_cell? _ _ x1)).trans x1
                      have q1 := fun x : Ext v0.heap.size v0 => (x.cell (World.block_lt_of_cell? _ _ y1)).trans y1
                      have p2 := fun x : Ext v0.heap.size v0 => (x.cell (World.block_lt_of_cell? _ _ x2)).trans x2
                      have q2 := fun x : Ext v0.heap.size v0 => (x.cell (World.block_lt_of_cell? _ _ y2)).trans y2
                      refine plan_cons ?_
                      (repeat (go_big_quiet_step (fail)))
                      refine plan_nil ?_
                      clear c4 d4 p0 q0 p1 q1 p2 q2
                      refine plan_call (by kernel_rfl) (fun K hK => ?_)
                      go_simp
                      refine (rInts3_same A2 B2 _ c2' d2' z.groups v0 hI2 hJ2).mono ?_
                      rintro e v1 ⟨rfl, hb⟩
                      refine hK.out _ _ hb ?_
                      clear hK K
                      (try simp only [Act.put, List.setIfInBounds_toArray, List.set_cons_zero, List.set_cons_succ])
                      replace b0 := blk_below b0 hb
                      replace b1 := blk_below b1 hb
                      replace x0 := (hb.cell (World.block_lt_of_cell? _ _ x0)).trans x0
                      replace x1 := (hb.cell (World.block_lt_of_cell? _ _ x1)).trans x1
                      replace x2 := (hb.cell (World.block_lt_of_cell? _ _ x2)).trans x2
                      replace y0 := (hb.cell (World.block_lt_of_cell? _ _ y0)).trans y0
                      replace y1 := (hb.cell (World.block_lt_of_cell? _ _ y1)).trans y1
                      replace y2 := (hb.cell (World.block_lt_of_cell? _ _ y2)).trans y2
                      replace hI1 := (hI1.below hb).more hb.size
                      replace hJ1 := (hJ1.below hb).more hb.size
                      replace hI2 := (hI2.below hb).more hb.size
                      replace hJ2 := (hJ2.below hb).more hb.size
                      replace hbt := hbt.trans (hb.mono hbt.size)
                      clear hb
                      refine plan_cons ?_
                      (repeat (go_big_quiet_step (fail)))
                      refine plan_nil ?_
                      refine plan_end ?_
                      go_wp2_with fail
                      go_roundw
                      case rel => exact ⟨j + 1, by omega, by go_num, b0, b1, hbt⟩
                      case measure => simp [intOf]; omega
                    · obtain rfl : j = f.nL := by omega
                      have t1 : decide ((f.nL : Int) < (f.nL : Int)) = false := by simp
                      go_wp2_with fail
                      go_ret
                      exact ⟨rfl, hbt⟩

end Go.Proofs.YtfockoihmoljfaaGreatDoor
