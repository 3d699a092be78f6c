/-
  The walk of Get.
-/
import Derived.Test.YtfockoihmoljfaaGreatDoorGetA
import Derived.Test.YtfockoihmoljfaaGreatDoorGetW3
import Derived.Test.YtfockoihmoljfaaGreatDoorSChkW
namespace Go.Proofs.YtfockoihmoljfaaGreatDoor
open Go.RowKit Go.Shelf
set_option linter.unusedVariables false
set_option linter.unusedSimpArgs false

set_option maxRecDepth 100000 in
set_option maxHeartbeats 8000000 in
theorem sGet_any (A : Option Addr) (m c : Nat) (l : List UInt8) (mx : Int) (w : World) (h0 : RdB w w.heap.size A m c l) (hm : m ≤ 1073741824) (hmx : w.cell? ⟨0, 0, none⟩ = some (.int .i64 mx)) :
    Calls Tryz.prog 22 #[.slice A m c] w (GetPost (Sc.getR l) w) := by
  have hlen : l.length = m := h0.len
  have hl1 : l.length ≤ 1073741824 := by rw [hlen]; exact hm
  have hl2 := h0.le
  have hl3 := h0.max
  have hbt := Below.refl w.heap.size w
  obtain ⟨V1, hV⟩ : ∃ V1, V1 = w.alloc (.cells #[.slice none 0 0, .slice none 0 0, .slice none 0 0, .slice none 0 0, .slice none 0 0] 28) := ⟨_, rfl⟩
  have bq := blk_new hV
  have hb := below_new hV
  replace hbt := hbt.trans (hb.mono hbt.size)
  clear hb
  have HSV1 : Hid (V1.heap.size = w.heap.size + 1) := by show V1.heap.size = _; rw [hV, World.size_alloc]
  have HVV1 := Lib.hid hV.symm
  clear hV
  obtain ⟨V2, hV⟩ : ∃ V2, V2 = V1.alloc (.cells #[.slice A m c, .int .i64 0, .int .i64 0] 96) := ⟨_, rfl⟩
  have b := blk_new hV
  have hb := below_new hV
  replace bq := blk_below bq hb
  replace hbt := hbt.trans (hb.mono hbt.size)
  clear hb
  have HSV2 : Hid (V2.heap.size = V1.heap.size + 1) := by show V2.heap.size = _; rw [hV, World.size_alloc]
  have HVV2 := Lib.hid hV.symm
  clear hV
  rw [HSV1.out] at b
  rw [← HVV1.out] at HVV2
  rw [HSV1.out] at HSV2
  obtain ⟨V3, hV⟩ : ∃ V3, V3 = V2.alloc (.cells #[.pointer (some ⟨w.heap.size + 1, 0, none⟩)] 94) := ⟨_, rfl⟩
  have bp := blk_new hV
  have hb := below_new hV
  replace bq := blk_below bq hb
  replace b := blk_below b hb
  replace hbt := hbt.trans (hb.mono hbt.size)
  clear hb
  have HSV3 : Hid (V3.heap.size = V2.heap.size + 1) := by show V3.heap.size = _; rw [hV, World.size_alloc]
  have HVV3 := Lib.hid hV.symm
  clear hV
  rw [HSV2.out] at bp
  rw [← HVV2.out] at HVV3
  rw [HSV2.out] at HSV3
  obtain ⟨V4, hV⟩ : ∃ V4, V4 = V3.alloc (.cells #[.slice none 0 0, .slice none 0 0, .slice none 0 0, .slice none 0 0, .slice none 0 0] 28) := ⟨_, rfl⟩
  have bs := blk_new hV
  have hb := below_new hV
  replace bq := blk_below bq hb
  replace b := blk_below b hb
  replace bp := blk_below bp hb
  replace hbt := hbt.trans (hb.mono hbt.size)
  clear hb
  have HSV4 : Hid (V4.heap.size = V3.heap.size + 1) := by show V4.heap.size = _; rw [hV, World.size_alloc]
  have HVV4 := Lib.hid hV.symm
  clear hV
  rw [HSV3.out] at bs
  rw [← HVV3.out] at HVV4
  have p0 := blk_cell (j := 0) bp
  simp only [List.getElem?_toArray, List.getElem?_cons_zero, List.getElem?_cons_succ] at p0
  rw [← HVV4.out] at p0
  go_enter Tryz.func22, Tryz.ntmps22
  go_wp2_with fail
  rw [HVV4.out]
  clear HVV4 HVV3 HVV2 HVV1 HSV1 HSV2 HSV3 HSV4 p0
  have ha : okI (0 : Int) := by unfold okI; simp
  refine (gaS_any (w.heap.size + 1 + 1) (w.heap.size + 1) A m c l (0) (0) 50 V4 bp b w.heap.size (by omega) (h0.below hbt) ha hm (by omega)).mono ?_
  rintro e y0 ⟨v0, rfl, hL0, b', hg⟩
  have hE : Sc.rAll l 50 (Sc.rSlo l) (0, 0) = Sc.g1 l := rfl
  rw [hE] at hL0 b'
  clear hE
  have ok0 := Sc.rAll_all (l := l) (P := Sc.smSlo) (r := Sc.rSlo l) hl1 (fun s hs => Sc.elSlo_ok hl1 hs) (most := 50) (s := (0, 0)) ha
  rw [show Sc.rAll l 50 (Sc.rSlo l) (0, 0) = Sc.g1 l from rfl] at ok0
  obtain ⟨G0, hG0⟩ : ∃ G, G = Sc.g1 l := ⟨_, rfl⟩
  rw [← hG0] at hL0 b' ok0
  have HG1 := Lib.hid hG0
  clear hG0
  obtain ⟨L0, s1⟩ := G0
  dsimp only at hL0 b' ok0
  have ha := ok0.2
  have HOK0 := Lib.hid ok0.1
  clear ok0
  replace bq := blk_grown bq hg (fun e => by have e := Option.some.inj e; omega)
  replace bp := blk_grown bp hg (fun e => by have e := Option.some.inj e; omega)
  replace bs := blk_grown bs hg (fun e => by have e := Option.some.inj e; omega)
  clear b
  have b := b'
  clear b'
  replace hbt := hbt.grown hg hbt.size (fun g hgq => by cases hgq; omega)
  clear hg
  obtain ⟨A0, c0, rfl⟩ := hL0.slice
  have z0 := blk_cell (j := 0) bs
  simp only [List.getElem?_toArray, List.getElem?_cons_zero, List.getElem?_cons_succ] at z0
  have f0 := blk_frozen 0 bs
  have bpN := blk_other (p := ⟨w.heap.size + 1 + 1 + 1, 0, none⟩) (.slice A0 L0.length c0) bp (by dsimp only; omega)
  have bN := blk_other (p := ⟨w.heap.size + 1 + 1 + 1, 0, none⟩) (.slice A0 L0.length c0) b (by dsimp only; omega)
  have bqN := blk_other (p := ⟨w.heap.size + 1 + 1 + 1, 0, none⟩) (.slice A0 L0.length c0) bq (by dsimp only; omega)
  have bsN := blk_set (k := 0) (.slice A0 L0.length c0) bs
  simp only [List.setIfInBounds_toArray, List.set_cons_zero, List.set_cons_succ] at bsN
  have hbtN := hbt.setCell (p := ⟨w.heap.size + 1 + 1 + 1, 0, none⟩) (by dsimp only; omega) (.slice A0 L0.length c0)
  replace hL0 := OwnL.keeps (O := Sc.OSlo) (t := 69) Sc.olSlo hL0 (Keeps.set (p := ⟨w.heap.size + 1 + 1 + 1, 0, none⟩) (v := .slice A0 L0.length c0) bs (by decide)) (Keeps.set (p := ⟨w.heap.size + 1 + 1 + 1, 0, none⟩) (v := .slice A0 L0.length c0) bs (by decide))
  have p0 := blk_cell (j := 0) bpN
  simp only [List.getElem?_toArray, List.getElem?_cons_zero, List.getElem?_cons_succ] at p0
  go_wp2_with fail
  clear z0 f0 p0 b bp bs bq hbt
  generalize y0.setCell ⟨w.heap.size + 1 + 1 + 1, 0, none⟩ (.slice A0 L0.length c0) = X0 at *
  have b := bN
  have bp := bpN
  have bs := bsN
  have bq := bqN
  have hbt := hbtN
  clear bN bpN bsN bqN hbtN
  refine (gaR_any (w.heap.size + 1 + 1) (w.heap.size + 1) A m c l (s1.1) (s1.2) 32 X0 bp b w.heap.size (by omega) (h0.below hbt) ha hm (by omega)).mono ?_
  rintro e y1 ⟨v1, rfl, hL1, b', hg⟩
  have hE : Sc.rAll l 32 (Sc.rRoo l) (s1.1, s1.2) = Sc.g2 l := by unfold Sc.g2; rw [← HG1.out]
  rw [hE] at hL1 b'
  clear hE
  have ok1 := Sc.rAll_all (l := l) (P := Sc.smRoo) (r := Sc.rRoo l) hl1 (fun s hs => Sc.elRoo_ok hl1 hs) (most := 32) (s := (s1.1, s1.2)) ha
  rw [show Sc.rAll l 32 (Sc.rRoo l) (s1.1, s1.2) = Sc.g2 l by unfold Sc.g2; rw [← HG1.out]] at ok1
  obtain ⟨G1, hG1⟩ : ∃ G, G = Sc.g2 l := ⟨_, rfl⟩
  rw [← hG1] at hL1 b' ok1
  have HG2 := Lib.hid hG1
  clear hG1
  obtain ⟨L1, s2⟩ := G1
  dsimp only at hL1 b' ok1
  have ha := ok1.2
  have HOK1 := Lib.hid ok1.1
  clear ok1
  replace hL0 := OwnL.keeps (O := Sc.OSlo) (t := 69) Sc.olSlo hL0 (Keeps.grown hg b (by decide)) (Keeps.grown hg b (by decide))
  replace bq := blk_grown bq hg (fun e => by have e := Option.some.inj e; omega)
  replace bp := blk_grown bp hg (fun e => by have e := Option.some.inj e; omega)
  replace bs := blk_grown bs hg (fun e => by have e := Option.some.inj e; omega)
  clear b
  have b := b'
  clear b'
  replace hbt := hbt.grown hg hbt.size (fun g hgq => by cases hgq; omega)
  clear hg
  obtain ⟨A1, c1, rfl⟩ := hL1.slice
  have z0 := blk_cell (j := 1) bs
  simp only [List.getElem?_toArray, List.getElem?_cons_zero, List.getElem?_cons_succ] at z0
  have f0 := blk_frozen 1 bs
  have bpN := blk_other (p := ⟨w.heap.size + 1 + 1 + 1, 1, none⟩) (.slice A1 L1.length c1) bp (by dsimp only; omega)
  have bN := blk_other (p := ⟨w.heap.size + 1 + 1 + 1, 1, none⟩) (.slice A1 L1.length c1) b (by dsimp only; omega)
  have bqN := blk_other (p := ⟨w.heap.size + 1 + 1 + 1, 1, none⟩) (.slice A1 L1.length c1) bq (by dsimp only; omega)
  have bsN := blk_set (k := 1) (.slice A1 L1.length c1) bs
  simp only [List.setIfInBounds_toArray, List.set_cons_zero, List.set_cons_succ] at bsN
  have hbtN := hbt.setCell (p := ⟨w.heap.size + 1 + 1 + 1, 1, none⟩) (by dsimp only; omega) (.slice A1 L1.length c1)
  replace hL0 := OwnL.keeps (O := Sc.OSlo) (t := 69) Sc.olSlo hL0 (Keeps.set (p := ⟨w.heap.size + 1 + 1 + 1, 1, none⟩) (v := .slice A1 L1.length c1) bs (by decide)) (Keeps.set (p := ⟨w.heap.size + 1 + 1 + 1, 1, none⟩) (v := .slice A1 L1.length c1) bs (by decide))
  replace hL1 := OwnL.keeps (O := Sc.ORoo) (t := 53) Sc.olRoo hL1 (Keeps.set (p := ⟨w.heap.size + 1 + 1 + 1, 1, none⟩) (v := .slice A1 L1.length c1) bs (by decide)) (Keeps.set (p := ⟨w.heap.size + 1 + 1 + 1, 1, none⟩) (v := .slice A1 L1.length c1) bs (by decide))
  have p0 := blk_cell (j := 0) bpN
  simp only [List.getElem?_toArray, List.getElem?_cons_zero, List.getElem?_cons_succ] at p0
  go_wp2_with fail
  clear z0 f0 p0 b bp bs bq hbt
  generalize y1.setCell ⟨w.heap.size + 1 + 1 + 1, 1, none⟩ (.slice A1 L1.length c1) = X1 at *
  have b := bN
  have bp := bpN
  have bs := bsN
  have bq := bqN
  have hbt := hbtN
  clear bN bpN bsN bqN hbtN
  refine (gaP_any (w.heap.size + 1 + 1) (w.heap.size + 1) A m c l (s2.1) (s2.2) 64 X1 bp b w.heap.size (by omega) (h0.below hbt) ha hm (by omega)).mono ?_
  rintro e y2 ⟨v2, rfl, hL2, b', hg⟩
  have hE : Sc.rAll l 64 (Sc.rPer l) (s2.1, s2.2) = Sc.g3 l := by unfold Sc.g3; rw [← HG2.out]
  rw [hE] at hL2 b'
  clear hE
  have ok2 := Sc.rAll_all (l := l) (P := Sc.smPer) (r := Sc.rPer l) hl1 (fun s hs => Sc.elPer_ok hl1 hs) (most := 64) (s := (s2.1, s2.2)) ha
  rw [show Sc.rAll l 64 (Sc.rPer l) (s2.1, s2.2) = Sc.g3 l by unfold Sc.g3; rw [← HG2.out]] at ok2
  obtain ⟨G2, hG2⟩ : ∃ G, G = Sc.g3 l := ⟨_, rfl⟩
  rw [← hG2] at hL2 b' ok2
  have HG3 := Lib.hid hG2
  clear hG2
  obtain ⟨L2, s3⟩ := G2
  dsimp only at hL2 b' ok2
  have ha := ok2.2
  have HOK2 := Lib.hid ok2.1
  clear ok2
  replace hL0 := OwnL.keeps (O := Sc.OSlo) (t := 69) Sc.olSlo hL0 (Keeps.grown hg b (by decide)) (Keeps.grown hg b (by decide))
  replace hL1 := OwnL.keeps (O := Sc.ORoo) (t := 53) Sc.olRoo hL1 (Keeps.grown hg b (by decide)) (Keeps.grown hg b (by decide))
  replace bq := blk_grown bq hg (fun e => by have e := Option.some.inj e; omega)
  replace bp := blk_grown bp hg (fun e => by have e := Option.some.inj e; omega)
  replace bs := blk_grown bs hg (fun e => by have e := Option.some.inj e; omega)
  clear b
  have b := b'
  clear b'
  replace hbt := hbt.grown hg hbt.size (fun g hgq => by cases hgq; omega)
  clear hg
  obtain ⟨A2, c2, rfl⟩ := hL2.slice
  have z0 := blk_cell (j := 2) bs
  simp only [List.getElem?_toArray, List.getElem?_cons_zero, List.getElem?_cons_succ] at z0
  have f0 := blk_frozen 2 bs
  have bpN := blk_other (p := ⟨w.heap.size + 1 + 1 + 1, 2, none⟩) (.slice A2 L2.length c2) bp (by dsimp only; omega)
  have bN := blk_other (p := ⟨w.heap.size + 1 + 1 + 1, 2, none⟩) (.slice A2 L2.length c2) b (by dsimp only; omega)
  have bqN := blk_other (p := ⟨w.heap.size + 1 + 1 + 1, 2, none⟩) (.slice A2 L2.length c2) bq (by dsimp only; omega)
  have bsN := blk_set (k := 2) (.slice A2 L2.length c2) bs
  simp only [List.setIfInBounds_toArray, List.set_cons_zero, List.set_cons_succ] at bsN
  have hbtN := hbt.setCell (p := ⟨w.heap.size + 1 + 1 + 1, 2, none⟩) (by dsimp only; omega) (.slice A2 L2.length c2)
  replace hL0 := OwnL.keeps (O := Sc.OSlo) (t := 69) Sc.olSlo hL0 (Keeps.set (p := ⟨w.heap.size + 1 + 1 + 1, 2, none⟩) (v := .slice A2 L2.length c2) bs (by decide)) (Keeps.set (p := ⟨w.heap.size + 1 + 1 + 1, 2, none⟩) (v := .slice A2 L2.length c2) bs (by decide))
  replace hL1 := OwnL.keeps (O := Sc.ORoo) (t := 53) Sc.olRoo hL1 (Keeps.set (p := ⟨w.heap.size + 1 + 1 + 1, 2, none⟩) (v := .slice A2 L2.length c2) bs (by decide)) (Keeps.set (p := ⟨w.heap.size + 1 + 1 + 1, 2, none⟩) (v := .slice A2 L2.length c2) bs (by decide))
  replace hL2 := OwnL.keeps (O := Sc.OPer) (t := 57) Sc.olPer hL2 (Keeps.set (p := ⟨w.heap.size + 1 + 1 + 1, 2, none⟩) (v := .slice A2 L2.length c2) bs (by decide)) (Keeps.set (p := ⟨w.heap.size + 1 + 1 + 1, 2, none⟩) (v := .slice A2 L2.length c2) bs (by decide))
  have p0 := blk_cell (j := 0) bpN
  simp only [List.getElem?_toArray, List.getElem?_cons_zero, List.getElem?_cons_succ] at p0
  go_wp2_with fail
  clear z0 f0 p0 b bp bs bq hbt
  generalize y2.setCell ⟨w.heap.size + 1 + 1 + 1, 2, none⟩ (.slice A2 L2.length c2) = X2 at *
  have b := bN
  have bp := bpN
  have bs := bsN
  have bq := bqN
  have hbt := hbtN
  clear bN bpN bsN bqN hbtN
  refine (gaG_any (w.heap.size + 1 + 1) (w.heap.size + 1) A m c l (s3.1) (s3.2) 64 X2 bp b w.heap.size (by omega) (h0.below hbt) ha hm (by omega)).mono ?_
  rintro e y3 ⟨v3, rfl, hL3, b', hg⟩
  have hE : Sc.rAll l 64 (Sc.rGro l) (s3.1, s3.2) = Sc.g4 l := by unfold Sc.g4; rw [← HG3.out]
  rw [hE] at hL3 b'
  clear hE
  have ok3 := Sc.rAll_all (l := l) (P := Sc.smGro) (r := Sc.rGro l) hl1 (fun s hs => Sc.elGro_ok hl1 hs) (most := 64) (s := (s3.1, s3.2)) ha
  rw [show Sc.rAll l 64 (Sc.rGro l) (s3.1, s3.2) = Sc.g4 l by unfold Sc.g4; rw [← HG3.out]] at ok3
  obtain ⟨G3, hG3⟩ : ∃ G, G = Sc.g4 l := ⟨_, rfl⟩
  rw [← hG3] at hL3 b' ok3
  have HG4 := Lib.hid hG3
  clear hG3
  obtain ⟨L3, s4⟩ := G3
  dsimp only at hL3 b' ok3
  have ha := ok3.2
  have HOK3 := Lib.hid ok3.1
  clear ok3
  replace hL0 := OwnL.keeps (O := Sc.OSlo) (t := 69) Sc.olSlo hL0 (Keeps.grown hg b (by decide)) (Keeps.grown hg b (by decide))
  replace hL1 := OwnL.keeps (O := Sc.ORoo) (t := 53) Sc.olRoo hL1 (Keeps.grown hg b (by decide)) (Keeps.grown hg b (by decide))
  replace hL2 := OwnL.keeps (O := Sc.OPer) (t := 57) Sc.olPer hL2 (Keeps.grown hg b (by decide)) (Keeps.grown hg b (by decide))
  replace bq := blk_grown bq hg (fun e => by have e := Option.some.inj e; omega)
  replace bp := blk_grown bp hg (fun e => by have e := Option.some.inj e; omega)
  replace bs := blk_grown bs hg (fun e => by have e := Option.some.inj e; omega)
  clear b
  have b := b'
  clear b'
  replace hbt := hbt.grown hg hbt.size (fun g hgq => by cases hgq; omega)
  clear hg
  obtain ⟨A3, c3, rfl⟩ := hL3.slice
  have z0 := blk_cell (j := 3) bs
  simp only [List.getElem?_toArray, List.getElem?_cons_zero, List.getElem?_cons_succ] at z0
  have f0 := blk_frozen 3 bs
  have bpN := blk_other (p := ⟨w.heap.size + 1 + 1 + 1, 3, none⟩) (.slice A3 L3.length c3) bp (by dsimp only; omega)
  have bN := blk_other (p := ⟨w.heap.size + 1 + 1 + 1, 3, none⟩) (.slice A3 L3.length c3) b (by dsimp only; omega)
  have bqN := blk_other (p := ⟨w.heap.size + 1 + 1 + 1, 3, none⟩) (.slice A3 L3.length c3) bq (by dsimp only; omega)
  have bsN := blk_set (k := 3) (.slice A3 L3.length c3) bs
  simp only [List.setIfInBounds_toArray, List.set_cons_zero, List.set_cons_succ] at bsN
  have hbtN := hbt.setCell (p := ⟨w.heap.size + 1 + 1 + 1, 3, none⟩) (by dsimp only; omega) (.slice A3 L3.length c3)
  replace hL0 := OwnL.keeps (O := Sc.OSlo) (t := 69) Sc.olSlo hL0 (Keeps.set (p := ⟨w.heap.size + 1 + 1 + 1, 3, none⟩) (v := .slice A3 L3.length c3) bs (by decide)) (Keeps.set (p := ⟨w.heap.size + 1 + 1 + 1, 3, none⟩) (v := .slice A3 L3.length c3) bs (by decide))
  replace hL1 := OwnL.keeps (O := Sc.ORoo) (t := 53) Sc.olRoo hL1 (Keeps.set (p := ⟨w.heap.size + 1 + 1 + 1, 3, none⟩) (v := .slice A3 L3.length c3) bs (by decide)) (Keeps.set (p := ⟨w.heap.size + 1 + 1 + 1, 3, none⟩) (v := .slice A3 L3.length c3) bs (by decide))
  replace hL2 := OwnL.keeps (O := Sc.OPer) (t := 57) Sc.olPer hL2 (Keeps.set (p := ⟨w.heap.size + 1 + 1 + 1, 3, none⟩) (v := .slice A3 L3.length c3) bs (by decide)) (Keeps.set (p := ⟨w.heap.size + 1 + 1 + 1, 3, none⟩) (v := .slice A3 L3.length c3) bs (by decide))
  replace hL3 := OwnL.keeps (O := Sc.OGro) (t := 49) Sc.olGro hL3 (Keeps.set (p := ⟨w.heap.size + 1 + 1 + 1, 3, none⟩) (v := .slice A3 L3.length c3) bs (by decide)) (Keeps.set (p := ⟨w.heap.size + 1 + 1 + 1, 3, none⟩) (v := .slice A3 L3.length c3) bs (by decide))
  have p0 := blk_cell (j := 0) bpN
  simp only [List.getElem?_toArray, List.getElem?_cons_zero, List.getElem?_cons_succ] at p0
  go_wp2_with fail
  clear z0 f0 p0 b bp bs bq hbt
  generalize y3.setCell ⟨w.heap.size + 1 + 1 + 1, 3, none⟩ (.slice A3 L3.length c3) = X3 at *
  have b := bN
  have bp := bpN
  have bs := bsN
  have bq := bqN
  have hbt := hbtN
  clear bN bpN bsN bqN hbtN
  refine (gaL_any (w.heap.size + 1 + 1) (w.heap.size + 1) A m c l (s4.1) (s4.2) 64 X3 bp b w.heap.size (by omega) (h0.below hbt) ha hm (by omega)).mono ?_
  rintro e y4 ⟨v4, rfl, hL4, b', hg⟩
  have hE : Sc.rAll l 64 (Sc.rLes l) (s4.1, s4.2) = Sc.g5 l := by unfold Sc.g5; rw [← HG4.out]
  rw [hE] at hL4 b'
  clear hE
  have ok4 := Sc.rAll_all (l := l) (P := Sc.smLes) (r := Sc.rLes l) hl1 (fun s hs => Sc.elLes_ok hl1 hs) (most := 64) (s := (s4.1, s4.2)) ha
  rw [show Sc.rAll l 64 (Sc.rLes l) (s4.1, s4.2) = Sc.g5 l by unfold Sc.g5; rw [← HG4.out]] at ok4
  obtain ⟨G4, hG4⟩ : ∃ G, G = Sc.g5 l := ⟨_, rfl⟩
  rw [← hG4] at hL4 b' ok4
  have HG5 := Lib.hid hG4
  clear hG4
  obtain ⟨L4, s5⟩ := G4
  dsimp only at hL4 b' ok4
  have ha := ok4.2
  have HOK4 := Lib.hid ok4.1
  clear ok4
  replace hL0 := OwnL.keeps (O := Sc.OSlo) (t := 69) Sc.olSlo hL0 (Keeps.grown hg b (by decide)) (Keeps.grown hg b (by decide))
  replace hL1 := OwnL.keeps (O := Sc.ORoo) (t := 53) Sc.olRoo hL1 (Keeps.grown hg b (by decide)) (Keeps.grown hg b (by decide))
  replace hL2 := OwnL.keeps (O := Sc.OPer) (t := 57) Sc.olPer hL2 (Keeps.grown hg b (by decide)) (Keeps.grown hg b (by decide))
  replace hL3 := OwnL.keeps (O := Sc.OGro) (t := 49) Sc.olGro hL3 (Keeps.grown hg b (by decide)) (Keeps.grown hg b (by decide))
  replace bq := blk_grown bq hg (fun e => by have e := Option.some.inj e; omega)
  replace bp := blk_grown bp hg (fun e => by have e := Option.some.inj e; omega)
  replace bs := blk_grown bs hg (fun e => by have e := Option.some.inj e; omega)
  clear b
  have b := b'
  clear b'
  replace hbt := hbt.grown hg hbt.size (fun g hgq => by cases hgq; omega)
  clear hg
  obtain ⟨A4, c4, rfl⟩ := hL4.slice
  have z0 := blk_cell (j := 4) bs
  simp only [List.getElem?_toArray, List.getElem?_cons_zero, List.getElem?_cons_succ] at z0
  have f0 := blk_frozen 4 bs
  have bpN := blk_other (p := ⟨w.heap.size + 1 + 1 + 1, 4, none⟩) (.slice A4 L4.length c4) bp (by dsimp only; omega)
  have bN := blk_other (p := ⟨w.heap.size + 1 + 1 + 1, 4, none⟩) (.slice A4 L4.length c4) b (by dsimp only; omega)
  have bqN := blk_other (p := ⟨w.heap.size + 1 + 1 + 1, 4, none⟩) (.slice A4 L4.length c4) bq (by dsimp only; omega)
  have bsN := blk_set (k := 4) (.slice A4 L4.length c4) bs
  simp only [List.setIfInBounds_toArray, List.set_cons_zero, List.set_cons_succ] at bsN
  have hbtN := hbt.setCell (p := ⟨w.heap.size + 1 + 1 + 1, 4, none⟩) (by dsimp only; omega) (.slice A4 L4.length c4)
  replace hL0 := OwnL.keeps (O := Sc.OSlo) (t := 69) Sc.olSlo hL0 (Keeps.set (p := ⟨w.heap.size + 1 + 1 + 1, 4, none⟩) (v := .slice A4 L4.length c4) bs (by decide)) (Keeps.set (p := ⟨w.heap.size + 1 + 1 + 1, 4, none⟩) (v := .slice A4 L4.length c4) bs (by decide))
  replace hL1 := OwnL.keeps (O := Sc.ORoo) (t := 53) Sc.olRoo hL1 (Keeps.set (p := ⟨w.heap.size + 1 + 1 + 1, 4, none⟩) (v := .slice A4 L4.length c4) bs (by decide)) (Keeps.set (p := ⟨w.heap.size + 1 + 1 + 1, 4, none⟩) (v := .slice A4 L4.length c4) bs (by decide))
  replace hL2 := OwnL.keeps (O := Sc.OPer) (t := 57) Sc.olPer hL2 (Keeps.set (p := ⟨w.heap.size + 1 + 1 + 1, 4, none⟩) (v := .slice A4 L4.length c4) bs (by decide)) (Keeps.set (p := ⟨w.heap.size + 1 + 1 + 1, 4, none⟩) (v := .slice A4 L4.length c4) bs (by decide))
  replace hL3 := OwnL.keeps (O := Sc.OGro) (t := 49) Sc.olGro hL3 (Keeps.set (p := ⟨w.heap.size + 1 + 1 + 1, 4, none⟩) (v := .slice A4 L4.length c4) bs (by decide)) (Keeps.set (p := ⟨w.heap.size + 1 + 1 + 1, 4, none⟩) (v := .slice A4 L4.length c4) bs (by decide))
  replace hL4 := OwnL.keeps (O := Sc.OLes) (t := 59) Sc.olLes hL4 (Keeps.set (p := ⟨w.heap.size + 1 + 1 + 1, 4, none⟩) (v := .slice A4 L4.length c4) bs (by decide)) (Keeps.set (p := ⟨w.heap.size + 1 + 1 + 1, 4, none⟩) (v := .slice A4 L4.length c4) bs (by decide))
  have p0 := blk_cell (j := 0) bpN
  simp only [List.getElem?_toArray, List.getElem?_cons_zero, List.getElem?_cons_succ] at p0
  obtain ⟨sa, se⟩ := s5
  dsimp only at *
  have e1 := blk_cell (j := 1) bN
  simp only [List.getElem?_toArray, List.getElem?_cons_zero, List.getElem?_cons_succ] at e1
  have e2 := blk_cell (j := 2) bN
  simp only [List.getElem?_toArray, List.getElem?_cons_zero, List.getElem?_cons_succ] at e2
  have HGE : Hid (Sc.gE l = if se = 0 ∧ (sa < (m : Int) ∨ Sc.chk (Sc.gS l) ≠ 0) then 11 else se) := by
    show _ = _
    unfold Sc.gE
    rw [← HG5.out, hlen]
  have HGS : Hid (Sc.gS l = ⟨L0, L1, L2, L3, L4⟩) := by
    show _ = _
    unfold Sc.gS
    rw [← HG1.out, ← HG2.out, ← HG3.out, ← HG4.out, ← HG5.out]
  by_cases hs : se ≠ 0
  · have HC : Hid (Sc.getR l = (Sc.noSch, se)) := by
      have h1 : Sc.gE l = se := by rw [HGE.out, if_neg (fun hh => hs hh.1)]
      show _ = _
      unfold Sc.getR
      rw [h1, if_pos hs]
    have t1 : (se == 0) = false := by simp; omega
    have t2 : (se != 0) = true := by simp; omega
    go_wp2_with fail
    clear z0 f0 p0 e1 e2 b bp bs bq hbt
    generalize (y4.setCell ⟨w.heap.size + 1 + 1 + 1, 4, none⟩ (.slice A4 L4.length c4)) = W at *
    have b := bN
    have bp := bpN
    have bs := bsN
    have bq := bqN
    have hbt := hbtN
    clear bN bpN bsN bqN hbtN
    refine wp_region_fixX (fun q => q = w.heap.size) [0, 1] (.two [] 2 (.two [] 3 (.two [] 4 (.one [] 5 (.one [] 6 (.fin []))) 5 (.one [] 4 (.one [] 6 (.fin [])))) 5 (.one [] 3 (.one [] 4 (.one [] 6 (.fin []))))) 5 (.one [] 2 (.one [] 3 (.one [] 4 (.one [] 6 (.fin [])))))) (by kernel_rfl) (by kernel_rfl) ?_
    intro wd hszd hb
    clear hszd
    replace b := blk_below b hb
    replace bp := blk_below bp hb
    replace bq := blk_below bq hb
    replace hbt := hbt.trans (hb.mono hbt.size)
    clear hb
    have e0 : ∀ x : ExtX (fun q => q = w.heap.size) wd, x.val.cell? ⟨w.heap.size + 1 + 1, 0, none⟩ = some (.pointer (some ⟨w.heap.size + 1, 0, none⟩)) := fun x => (blk_cell (x.blk bp (by omega))).trans rfl
    simp only [pick, List.map_cons, List.map_nil, List.getD_cons_zero, List.getD_cons_succ]
    (repeat (go_big_quiet_step (fail)))
    refine quiet_end ?_
    clear e0
    have hD := KeepX.refl (fun q => q = w.heap.size) wd
    refine ⟨?_, ?_⟩
    · refine movX_call (by kernel_rfl) (fun K hK => ?_)
      have e2 := blk_cell (j := 0) b
      simp only [List.getElem?_toArray, List.getElem?_cons_zero, List.getElem?_cons_succ] at e2
      go_simp
      clear e2
      refine hK.out _ _ hD ?_
      clear hK K
      (try simp only [Act.put, List.setIfInBounds_toArray, List.set_cons_zero, List.set_cons_succ])
      refine ⟨?_, ?_⟩
      · refine movX_call (by kernel_rfl) (fun K hK => ?_)
        go_simp
        refine hK.out _ _ hD ?_
        clear hK K
        (try simp only [Act.put, List.setIfInBounds_toArray, List.set_cons_zero, List.set_cons_succ])
        refine ⟨?_, ?_⟩
        · refine movX_call (by kernel_rfl) (fun K hK => ?_)
          have e2 := blk_cell (j := 2) b
          simp only [List.getElem?_toArray, List.getElem?_cons_zero, List.getElem?_cons_succ] at e2
          go_simp
          clear e2
          refine hK.out _ _ hD ?_
          clear hK K
          (try simp only [Act.put, List.setIfInBounds_toArray, List.set_cons_zero, List.set_cons_succ])
          refine movX_call (by kernel_rfl) (fun K hK => ?_)
          have q0 := blk_cell (j := 0) bq
          simp only [List.getElem?_toArray, List.getElem?_cons_zero, List.getElem?_cons_succ] at q0
          have r0 := blk_frozen 0 bq
          have q1 := blk_cell (j := 1) bq
          simp only [List.getElem?_toArray, List.getElem?_cons_zero, List.getElem?_cons_succ] at q1
          have r1 := blk_frozen 1 bq
          have q2 := blk_cell (j := 2) bq
          simp only [List.getElem?_toArray, List.getElem?_cons_zero, List.getElem?_cons_succ] at q2
          have r2 := blk_frozen 2 bq
          have q3 := blk_cell (j := 3) bq
          simp only [List.getElem?_toArray, List.getElem?_cons_zero, List.getElem?_cons_succ] at q3
          have r3 := blk_frozen 3 bq
          have q4 := blk_cell (j := 4) bq
          simp only [List.getElem?_toArray, List.getElem?_cons_zero, List.getElem?_cons_succ] at q4
          have r4 := blk_frozen 4 bq
          go_simp
          replace hD := hD.set (p := ⟨w.heap.size, 0, none⟩) (v := .slice none 0 0) (.inr rfl)
          replace b := blk_other (p := ⟨w.heap.size, 0, none⟩) (.slice none 0 0) b (by dsimp only; omega)
          replace bq := blk_set (k := 0) (.slice none 0 0) bq
          simp only [List.setIfInBounds_toArray, List.set_cons_zero, List.set_cons_succ] at bq
          replace hbt := hbt.setCell (p := ⟨w.heap.size, 0, none⟩) (Nat.le_refl _) (.slice none 0 0)
          replace hD := hD.set (p := ⟨w.heap.size, 1, none⟩) (v := .slice none 0 0) (.inr rfl)
          replace b := blk_other (p := ⟨w.heap.size, 1, none⟩) (.slice none 0 0) b (by dsimp only; omega)
          replace bq := blk_set (k := 1) (.slice none 0 0) bq
          simp only [List.setIfInBounds_toArray, List.set_cons_zero, List.set_cons_succ] at bq
          replace hbt := hbt.setCell (p := ⟨w.heap.size, 1, none⟩) (Nat.le_refl _) (.slice none 0 0)
          replace hD := hD.set (p := ⟨w.heap.size, 2, none⟩) (v := .slice none 0 0) (.inr rfl)
          replace b := blk_other (p := ⟨w.heap.size, 2, none⟩) (.slice none 0 0) b (by dsimp only; omega)
          replace bq := blk_set (k := 2) (.slice none 0 0) bq
          simp only [List.setIfInBounds_toArray, List.set_cons_zero, List.set_cons_succ] at bq
          replace hbt := hbt.setCell (p := ⟨w.heap.size, 2, none⟩) (Nat.le_refl _) (.slice none 0 0)
          replace hD := hD.set (p := ⟨w.heap.size, 3, none⟩) (v := .slice none 0 0) (.inr rfl)
          replace b := blk_other (p := ⟨w.heap.size, 3, none⟩) (.slice none 0 0) b (by dsimp only; omega)
          replace bq := blk_set (k := 3) (.slice none 0 0) bq
          simp only [List.setIfInBounds_toArray, List.set_cons_zero, List.set_cons_succ] at bq
          replace hbt := hbt.setCell (p := ⟨w.heap.size, 3, none⟩) (Nat.le_refl _) (.slice none 0 0)
          replace hD := hD.set (p := ⟨w.heap.size, 4, none⟩) (v := .slice none 0 0) (.inr rfl)
          replace b := blk_other (p := ⟨w.heap.size, 4, none⟩) (.slice none 0 0) b (by dsimp only; omega)
          replace bq := blk_set (k := 4) (.slice none 0 0) bq
          simp only [List.setIfInBounds_toArray, List.set_cons_zero, List.set_cons_succ] at bq
          replace hbt := hbt.setCell (p := ⟨w.heap.size, 4, none⟩) (Nat.le_refl _) (.slice none 0 0)
          clear q0 r0 q1 r1 q2 r2 q3 r3 q4 r4
          refine hK.out _ _ hD ?_
          clear hK K
          (try simp only [Act.put, List.setIfInBounds_toArray, List.set_cons_zero, List.set_cons_succ])
          generalize hXW : World.setCell (World.setCell (World.setCell (World.setCell (World.setCell (wd) ⟨w.heap.size, 0, none⟩ (.slice none 0 0)) ⟨w.heap.size, 1, none⟩ (.slice none 0 0)) ⟨w.heap.size, 2, none⟩ (.slice none 0 0)) ⟨w.heap.size, 3, none⟩ (.slice none 0 0)) ⟨w.heap.size, 4, none⟩ (.slice none 0 0) = XW at *
          clear hXW
          refine movX_call (by kernel_rfl) (fun K hK => ?_)
          go_simp
          refine hK.out _ _ hD ?_
          clear hK K
          (try simp only [Act.put, List.setIfInBounds_toArray, List.set_cons_zero, List.set_cons_succ])
          refine fixX_fin ?_
          go_wp2_with fail
          refine bodyPost_ret (results_cell_row2 Tryz.results22 _ _ (w.heap.size) 28 #[.slice none 0 0, .slice none 0 0, .slice none 0 0, .slice none 0 0, .slice none 0 0] (0, 0) _ rfl bq Tryz.underlying28 rfl infoSch) rfl ?_
          exact getpost_err HC.out hbt
        · refine movX_call (by kernel_rfl) (fun K hK => ?_)
          have q0 := blk_cell (j := 0) bq
          simp only [List.getElem?_toArray, List.getElem?_cons_zero, List.getElem?_cons_succ] at q0
          have r0 := blk_frozen 0 bq
          have q1 := blk_cell (j := 1) bq
          simp only [List.getElem?_toArray, List.getElem?_cons_zero, List.getElem?_cons_succ] at q1
          have r1 := blk_frozen 1 bq
          have q2 := blk_cell (j := 2) bq
          simp only [List.getElem?_toArray, List.getElem?_cons_zero, List.getElem?_cons_succ] at q2
          have r2 := blk_frozen 2 bq
          have q3 := blk_cell (j := 3) bq
          simp only [List.getElem?_toArray, List.getElem?_cons_zero, List.getElem?_cons_succ] at q3
          have r3 := blk_frozen 3 bq
          have q4 := blk_cell (j := 4) bq
          simp only [List.getElem?_toArray, List.getElem?_cons_zero, List.getElem?_cons_succ] at q4
          have r4 := blk_frozen 4 bq
          go_simp
          replace hD := hD.set (p := ⟨w.heap.size, 0, none⟩) (v := .slice none 0 0) (.inr rfl)
          replace b := blk_other (p := ⟨w.heap.size, 0, none⟩) (.slice none 0 0) b (by dsimp only; omega)
          replace bq := blk_set (k := 0) (.slice none 0 0) bq
          simp only [List.setIfInBounds_toArray, List.set_cons_zero, List.set_cons_succ] at bq
          replace hbt := hbt.setCell (p := ⟨w.heap.size, 0, none⟩) (Nat.le_refl _) (.slice none 0 0)
          replace hD := hD.set (p := ⟨w.heap.size, 1, none⟩) (v := .slice none 0 0) (.inr rfl)
          replace b := blk_other (p := ⟨w.heap.size, 1, none⟩) (.slice none 0 0) b (by dsimp only; omega)
          replace bq := blk_set (k := 1) (.slice none 0 0) bq
          simp only [List.setIfInBounds_toArray, List.set_cons_zero, List.set_cons_succ] at bq
          replace hbt := hbt.setCell (p := ⟨w.heap.size, 1, none⟩) (Nat.le_refl _) (.slice none 0 0)
          replace hD := hD.set (p := ⟨w.heap.size, 2, none⟩) (v := .slice none 0 0) (.inr rfl)
          replace b := blk_other (p := ⟨w.heap.size, 2, none⟩) (.slice none 0 0) b (by dsimp only; omega)
          replace bq := blk_set (k := 2) (.slice none 0 0) bq
          simp only [List.setIfInBounds_toArray, List.set_cons_zero, List.set_cons_succ] at bq
          replace hbt := hbt.setCell (p := ⟨w.heap.size, 2, none⟩) (Nat.le_refl _) (.slice none 0 0)
          replace hD := hD.set (p := ⟨w.heap.size, 3, none⟩) (v := .slice none 0 0) (.inr rfl)
          replace b := blk_other (p := ⟨w.heap.size, 3, none⟩) (.slice none 0 0) b (by dsimp only; omega)
          replace bq := blk_set (k := 3) (.slice none 0 0) bq
          simp only [List.setIfInBounds_toArray, List.set_cons_zero, List.set_cons_succ] at bq
          replace hbt := hbt.setCell (p := ⟨w.heap.size, 3, none⟩) (Nat.le_refl _) (.slice none 0 0)
          replace hD := hD.set (p := ⟨w.heap.size, 4, none⟩) (v := .slice none 0 0) (.inr rfl)
          replace b := blk_other (p := ⟨w.heap.size, 4, none⟩) (.slice none 0 0) b (by dsimp only; omega)
          replace bq := blk_set (k := 4) (.slice none 0 0) bq
          simp only [List.setIfInBounds_toArray, List.set_cons_zero, List.set_cons_succ] at bq
          replace hbt := hbt.setCell (p := ⟨w.heap.size, 4, none⟩) (Nat.le_refl _) (.slice none 0 0)
          clear q0 r0 q1 r1 q2 r2 q3 r3 q4 r4
          refine hK.out _ _ hD ?_
          clear hK K
          (try simp only [Act.put, List.setIfInBounds_toArray, List.set_cons_zero, List.set_cons_succ])
          generalize hXW : World.setCell (World.setCell (World.setCell (World.setCell (World.setCell (wd) ⟨w.heap.size, 0, none⟩ (.slice none 0 0)) ⟨w.heap.size, 1, none⟩ (.slice none 0 0)) ⟨w.heap.size, 2, none⟩ (.slice none 0 0)) ⟨w.heap.size, 3, none⟩ (.slice none 0 0)) ⟨w.heap.size, 4, none⟩ (.slice none 0 0) = XW at *
          clear hXW
          refine movX_call (by kernel_rfl) (fun K hK => ?_)
          have e2 := blk_cell (j := 2) b
          simp only [List.getElem?_toArray, List.getElem?_cons_zero, List.getElem?_cons_succ] at e2
          go_simp
          clear e2
          refine hK.out _ _ hD ?_
          clear hK K
          (try simp only [Act.put, List.setIfInBounds_toArray, List.set_cons_zero, List.set_cons_succ])
          refine movX_call (by kernel_rfl) (fun K hK => ?_)
          go_simp
          refine hK.out _ _ hD ?_
          clear hK K
          (try simp only [Act.put, List.setIfInBounds_toArray, List.set_cons_zero, List.set_cons_succ])
          refine fixX_fin ?_
          go_wp2_with fail
          refine bodyPost_ret (results_cell_row2 Tryz.results22 _ _ (w.heap.size) 28 #[.slice none 0 0, .slice none 0 0, .slice none 0 0, .slice none 0 0, .slice none 0 0] (0, 0) _ rfl bq Tryz.underlying28 rfl infoSch) rfl ?_
          exact getpost_err HC.out hbt
      · refine movX_call (by kernel_rfl) (fun K hK => ?_)
        have q0 := blk_cell (j := 0) bq
        simp only [List.getElem?_toArray, List.getElem?_cons_zero, List.getElem?_cons_succ] at q0
        have r0 := blk_frozen 0 bq
        have q1 := blk_cell (j := 1) bq
        simp only [List.getElem?_toArray, List.getElem?_cons_zero, List.getElem?_cons_succ] at q1
        have r1 := blk_frozen 1 bq
        have q2 := blk_cell (j := 2) bq
        simp only [List.getElem?_toArray, List.getElem?_cons_zero, List.getElem?_cons_succ] at q2
        have r2 := blk_frozen 2 bq
        have q3 := blk_cell (j := 3) bq
        simp only [List.getElem?_toArray, List.getElem?_cons_zero, List.getElem?_cons_succ] at q3
        have r3 := blk_frozen 3 bq
        have q4 := blk_cell (j := 4) bq
        simp only [List.getElem?_toArray, List.getElem?_cons_zero, List.getElem?_cons_succ] at q4
        have r4 := blk_frozen 4 bq
        go_simp
        replace hD := hD.set (p := ⟨w.heap.size, 0, none⟩) (v := .slice none 0 0) (.inr rfl)
        replace b := blk_other (p := ⟨w.heap.size, 0, none⟩) (.slice none 0 0) b (by dsimp only; omega)
        replace bq := blk_set (k := 0) (.slice none 0 0) bq
        simp only [List.setIfInBounds_toArray, List.set_cons_zero, List.set_cons_succ] at bq
        replace hbt := hbt.setCell (p := ⟨w.heap.size, 0, none⟩) (Nat.le_refl _) (.slice none 0 0)
        replace hD := hD.set (p := ⟨w.heap.size, 1, none⟩) (v := .slice none 0 0) (.inr rfl)
        replace b := blk_other (p := ⟨w.heap.size, 1, none⟩) (.slice none 0 0) b (by dsimp only; omega)
        replace bq := blk_set (k := 1) (.slice none 0 0) bq
        simp only [List.setIfInBounds_toArray, List.set_cons_zero, List.set_cons_succ] at bq
        replace hbt := hbt.setCell (p := ⟨w.heap.size, 1, none⟩) (Nat.le_refl _) (.slice none 0 0)
        replace hD := hD.set (p := ⟨w.heap.size, 2, none⟩) (v := .slice none 0 0) (.inr rfl)
        replace b := blk_other (p := ⟨w.heap.size, 2, none⟩) (.slice none 0 0) b (by dsimp only; omega)
        replace bq := blk_set (k := 2) (.slice none 0 0) bq
        simp only [List.setIfInBounds_toArray, List.set_cons_zero, List.set_cons_succ] at bq
        replace hbt := hbt.setCell (p := ⟨w.heap.size, 2, none⟩) (Nat.le_refl _) (.slice none 0 0)
        replace hD := hD.set (p := ⟨w.heap.size, 3, none⟩) (v := .slice none 0 0) (.inr rfl)
        replace b := blk_other (p := ⟨w.heap.size, 3, none⟩) (.slice none 0 0) b (by dsimp only; omega)
        replace bq := blk_set (k := 3) (.slice none 0 0) bq
        simp only [List.setIfInBounds_toArray, List.set_cons_zero, List.set_cons_succ] at bq
        replace hbt := hbt.setCell (p := ⟨w.heap.size, 3, none⟩) (Nat.le_refl _) (.slice none 0 0)
        replace hD := hD.set (p := ⟨w.heap.size, 4, none⟩) (v := .slice none 0 0) (.inr rfl)
        replace b := blk_other (p := ⟨w.heap.size, 4, none⟩) (.slice none 0 0) b (by dsimp only; omega)
        replace bq := blk_set (k := 4) (.slice none 0 0) bq
        simp only [List.setIfInBounds_toArray, List.set_cons_zero, List.set_cons_succ] at bq
        replace hbt := hbt.setCell (p := ⟨w.heap.size, 4, none⟩) (Nat.le_refl _) (.slice none 0 0)
        clear q0 r0 q1 r1 q2 r2 q3 r3 q4 r4
        refine hK.out _ _ hD ?_
        clear hK K
        (try simp only [Act.put, List.setIfInBounds_toArray, List.set_cons_zero, List.set_cons_succ])
        generalize hXW : World.setCell (World.setCell (World.setCell (World.setCell (World.setCell (wd) ⟨w.heap.size, 0, none⟩ (.slice none 0 0)) ⟨w.heap.size, 1, none⟩ (.slice none 0 0)) ⟨w.heap.size, 2, none⟩ (.slice none 0 0)) ⟨w.heap.size, 3, none⟩ (.slice none 0 0)) ⟨w.heap.size, 4, none⟩ (.slice none 0 0) = XW at *
        clear hXW
        refine movX_call (by kernel_rfl) (fun K hK => ?_)
        go_simp
        refine hK.out _ _ hD ?_
        clear hK K
        (try simp only [Act.put, List.setIfInBounds_toArray, List.set_cons_zero, List.set_cons_succ])
        refine movX_call (by kernel_rfl) (fun K hK => ?_)
        have e2 := blk_cell (j := 2) b
        simp only [List.getElem?_toArray, List.getElem?_cons_zero, List.getElem?_cons_succ] at e2
        go_simp
        clear e2
        refine hK.out _ _ hD ?_
        clear hK K
        (try simp only [Act.put, List.setIfInBounds_toArray, List.set_cons_zero, List.set_cons_succ])
        refine movX_call (by kernel_rfl) (fun K hK => ?_)
        go_simp
        refine hK.out _ _ hD ?_
        clear hK K
        (try simp only [Act.put, List.setIfInBounds_toArray, List.set_cons_zero, List.set_cons_succ])
        refine fixX_fin ?_
        go_wp2_with fail
        refine bodyPost_ret (results_cell_row2 Tryz.results22 _ _ (w.heap.size) 28 #[.slice none 0 0, .slice none 0 0, .slice none 0 0, .slice none 0 0, .slice none 0 0] (0, 0) _ rfl bq Tryz.underlying28 rfl infoSch) rfl ?_
        exact getpost_err HC.out hbt
    · refine movX_call (by kernel_rfl) (fun K hK => ?_)
      have q0 := blk_cell (j := 0) bq
      simp only [List.getElem?_toArray, List.getElem?_cons_zero, List.getElem?_cons_succ] at q0
      have r0 := blk_frozen 0 bq
      have q1 := blk_cell (j := 1) bq
      simp only [List.getElem?_toArray, List.getElem?_cons_zero, List.getElem?_cons_succ] at q1
      have r1 := blk_frozen 1 bq
      have q2 := blk_cell (j := 2) bq
      simp only [List.getElem?_toArray, List.getElem?_cons_zero, List.getElem?_cons_succ] at q2
      have r2 := blk_frozen 2 bq
      have q3 := blk_cell (j := 3) bq
      simp only [List.getElem?_toArray, List.getElem?_cons_zero, List.getElem?_cons_succ] at q3
      have r3 := blk_frozen 3 bq
      have q4 := blk_cell (j := 4) bq
      simp only [List.getElem?_toArray, List.getElem?_cons_zero, List.getElem?_cons_succ] at q4
      have r4 := blk_frozen 4 bq
      go_simp
      replace hD := hD.set (p := ⟨w.heap.size, 0, none⟩) (v := .slice none 0 0) (.inr rfl)
      replace b := blk_other (p := ⟨w.heap.size, 0, none⟩) (.slice none 0 0) b (by dsimp only; omega)
      replace bq := blk_set (k := 0) (.slice none 0 0) bq
      simp only [List.setIfInBounds_toArray, List.set_cons_zero, List.set_cons_succ] at bq
      replace hbt := hbt.setCell (p := ⟨w.heap.size, 0, none⟩) (Nat.le_refl _) (.slice none 0 0)
      replace hD := hD.set (p := ⟨w.heap.size, 1, none⟩) (v := .slice none 0 0) (.inr rfl)
      replace b := blk_other (p := ⟨w.heap.size, 1, none⟩) (.slice none 0 0) b (by dsimp only; omega)
      replace bq := blk_set (k := 1) (.slice none 0 0) bq
      simp only [List.setIfInBounds_toArray, List.set_cons_zero, List.set_cons_succ] at bq
      replace hbt := hbt.setCell (p := ⟨w.heap.size, 1, none⟩) (Nat.le_refl _) (.slice none 0 0)
      replace hD := hD.set (p := ⟨w.heap.size, 2, none⟩) (v := .slice none 0 0) (.inr rfl)
      replace b := blk_other (p := ⟨w.heap.size, 2, none⟩) (.slice none 0 0) b (by dsimp only; omega)
      replace bq := blk_set (k := 2) (.slice none 0 0) bq
      simp only [List.setIfInBounds_toArray, List.set_cons_zero, List.set_cons_succ] at bq
      replace hbt := hbt.setCell (p := ⟨w.heap.size, 2, none⟩) (Nat.le_refl _) (.slice none 0 0)
      replace hD := hD.set (p := ⟨w.heap.size, 3, none⟩) (v := .slice none 0 0) (.inr rfl)
      replace b := blk_other (p := ⟨w.heap.size, 3, none⟩) (.slice none 0 0) b (by dsimp only; omega)
      replace bq := blk_set (k := 3) (.slice none 0 0) bq
      simp only [List.setIfInBounds_toArray, List.set_cons_zero, List.set_cons_succ] at bq
      replace hbt := hbt.setCell (p := ⟨w.heap.size, 3, none⟩) (Nat.le_refl _) (.slice none 0 0)
      replace hD := hD.set (p := ⟨w.heap.size, 4, none⟩) (v := .slice none 0 0) (.inr rfl)
      replace b := blk_other (p := ⟨w.heap.size, 4, none⟩) (.slice none 0 0) b (by dsimp only; omega)
      replace bq := blk_set (k := 4) (.slice none 0 0) bq
      simp only [List.setIfInBounds_toArray, List.set_cons_zero, List.set_cons_succ] at bq
      replace hbt := hbt.setCell (p := ⟨w.heap.size, 4, none⟩) (Nat.le_refl _) (.slice none 0 0)
      clear q0 r0 q1 r1 q2 r2 q3 r3 q4 r4
      refine hK.out _ _ hD ?_
      clear hK K
      (try simp only [Act.put, List.setIfInBounds_toArray, List.set_cons_zero, List.set_cons_succ])
      generalize hXW : World.setCell (World.setCell (World.setCell (World.setCell (World.setCell (wd) ⟨w.heap.size, 0, none⟩ (.slice none 0 0)) ⟨w.heap.size, 1, none⟩ (.slice none 0 0)) ⟨w.heap.size, 2, none⟩ (.slice none 0 0)) ⟨w.heap.size, 3, none⟩ (.slice none 0 0)) ⟨w.heap.size, 4, none⟩ (.slice none 0 0) = XW at *
      clear hXW
      refine movX_call (by kernel_rfl) (fun K hK => ?_)
      have e2 := blk_cell (j := 0) b
      simp only [List.getElem?_toArray, List.getElem?_cons_zero, List.getElem?_cons_succ] at e2
      go_simp
      clear e2
      refine hK.out _ _ hD ?_
      clear hK K
      (try simp only [Act.put, List.setIfInBounds_toArray, List.set_cons_zero, List.set_cons_succ])
      refine movX_call (by kernel_rfl) (fun K hK => ?_)
      go_simp
      refine hK.out _ _ hD ?_
      clear hK K
      (try simp only [Act.put, List.setIfInBounds_toArray, List.set_cons_zero, List.set_cons_succ])
      refine movX_call (by kernel_rfl) (fun K hK => ?_)
      have e2 := blk_cell (j := 2) b
      simp only [List.getElem?_toArray, List.getElem?_cons_zero, List.getElem?_cons_succ] at e2
      go_simp
      clear e2
      refine hK.out _ _ hD ?_
      clear hK K
      (try simp only [Act.put, List.setIfInBounds_toArray, List.set_cons_zero, List.set_cons_succ])
      refine movX_call (by kernel_rfl) (fun K hK => ?_)
      go_simp
      refine hK.out _ _ hD ?_
      clear hK K
      (try simp only [Act.put, List.setIfInBounds_toArray, List.set_cons_zero, List.set_cons_succ])
      refine fixX_fin ?_
      go_wp2_with fail
      refine bodyPost_ret (results_cell_row2 Tryz.results22 _ _ (w.heap.size) 28 #[.slice none 0 0, .slice none 0 0, .slice none 0 0, .slice none 0 0, .slice none 0 0] (0, 0) _ rfl bq Tryz.underlying28 rfl infoSch) rfl ?_
      exact getpost_err HC.out hbt
  · have hs : se = 0 := Classical.not_not.1 hs
    subst hs
    by_cases hsh : sa < (m : Int)
    · have t1 : decide (sa < (m : Int)) = true := by simp; omega
      have HC : Hid (Sc.getR l = (Sc.noSch, 11)) := by
        have h1 : Sc.gE l = 11 := by rw [HGE.out, if_pos ⟨by simp, .inl hsh⟩]
        show _ = _
        unfold Sc.getR
        rw [h1, if_pos (by simp)]
      have f2 := blk_frozen 2 bN
      go_wp2_with fail
      clear f2
      have bT := blk_set (k := 2) (.int .i64 11) bN
      simp only [List.setIfInBounds_toArray, List.set_cons_zero, List.set_cons_succ] at bT
      have bpT := blk_other (p := ⟨w.heap.size + 1, 2, none⟩) (.int .i64 11) bpN (by dsimp only; omega)
      have bqT := blk_other (p := ⟨w.heap.size + 1, 2, none⟩) (.int .i64 11) bqN (by dsimp only; omega)
      have hbtT := hbtN.setCell (p := ⟨w.heap.size + 1, 2, none⟩) (by dsimp only; omega) (.int .i64 11)
      clear z0 f0 p0 e1 e2 b bp bs bq hbt bN bpN bsN bqN hbtN
      clear hL0 hL1 hL2 hL3 hL4
      generalize World.setCell (y4.setCell ⟨w.heap.size + 1 + 1 + 1, 4, none⟩ (.slice A4 L4.length c4)) ⟨w.heap.size + 1, 2, none⟩ (.int .i64 11) = W at *
      have b := bT
      have bp := bpT
      have bq := bqT
      have hbt := hbtT
      clear bT bpT bqT hbtT
      refine wp_region_fixX (fun q => q = w.heap.size) [0, 1] (.two [] 2 (.two [] 3 (.two [] 4 (.one [] 5 (.one [] 6 (.fin []))) 5 (.one [] 4 (.one [] 6 (.fin [])))) 5 (.one [] 3 (.one [] 4 (.one [] 6 (.fin []))))) 5 (.one [] 2 (.one [] 3 (.one [] 4 (.one [] 6 (.fin [])))))) (by kernel_rfl) (by kernel_rfl) ?_
      intro wd hszd hb
      clear hszd
      replace b := blk_below b hb
      replace bp := blk_below bp hb
      replace bq := blk_below bq hb
      replace hbt := hbt.trans (hb.mono hbt.size)
      clear hb
      have e0 : ∀ x : ExtX (fun q => q = w.heap.size) wd, x.val.cell? ⟨w.heap.size + 1 + 1, 0, none⟩ = some (.pointer (some ⟨w.heap.size + 1, 0, none⟩)) := fun x => (blk_cell (x.blk bp (by omega))).trans rfl
      simp only [pick, List.map_cons, List.map_nil, List.getD_cons_zero, List.getD_cons_succ]
      (repeat (go_big_quiet_step (fail)))
      refine quiet_end ?_
      clear e0
      have hD := KeepX.refl (fun q => q = w.heap.size) wd
      refine ⟨?_, ?_⟩
      · refine movX_call (by kernel_rfl) (fun K hK => ?_)
        have e2 := blk_cell (j := 0) b
        simp only [List.getElem?_toArray, List.getElem?_cons_zero, List.getElem?_cons_succ] at e2
        go_simp
        clear e2
        refine hK.out _ _ hD ?_
        clear hK K
        (try simp only [Act.put, List.setIfInBounds_toArray, List.set_cons_zero, List.set_cons_succ])
        refine ⟨?_, ?_⟩
        · refine movX_call (by kernel_rfl) (fun K hK => ?_)
          go_simp
          refine hK.out _ _ hD ?_
          clear hK K
          (try simp only [Act.put, List.setIfInBounds_toArray, List.set_cons_zero, List.set_cons_succ])
          refine ⟨?_, ?_⟩
          · refine movX_call (by kernel_rfl) (fun K hK => ?_)
            have e2 := blk_cell (j := 2) b
            simp only [List.getElem?_toArray, List.getElem?_cons_zero, List.getElem?_cons_succ] at e2
            go_simp
            clear e2
            refine hK.out _ _ hD ?_
            clear hK K
            (try simp only [Act.put, List.setIfInBounds_toArray, List.set_cons_zero, List.set_cons_succ])
            refine movX_call (by kernel_rfl) (fun K hK => ?_)
            have q0 := blk_cell (j := 0) bq
            simp only [List.getElem?_toArray, List.getElem?_cons_zero, List.getElem?_cons_succ] at q0
            have r0 := blk_frozen 0 bq
            have q1 := blk_cell (j := 1) bq
            simp only [List.getElem?_toArray, List.getElem?_cons_zero, List.getElem?_cons_succ] at q1
            have r1 := blk_frozen 1 bq
            have q2 := blk_cell (j := 2) bq
            simp only [List.getElem?_toArray, List.getElem?_cons_zero, List.getElem?_cons_succ] at q2
            have r2 := blk_frozen 2 bq
            have q3 := blk_cell (j := 3) bq
            simp only [List.getElem?_toArray, List.getElem?_cons_zero, List.getElem?_cons_succ] at q3
            have r3 := blk_frozen 3 bq
            have q4 := blk_cell (j := 4) bq
            simp only [List.getElem?_toArray, List.getElem?_cons_zero, List.getElem?_cons_succ] at q4
            have r4 := blk_frozen 4 bq
            go_simp
            replace hD := hD.set (p := ⟨w.heap.size, 0, none⟩) (v := .slice none 0 0) (.inr rfl)
            replace b := blk_other (p := ⟨w.heap.size, 0, none⟩) (.slice none 0 0) b (by dsimp only; omega)
            replace bq := blk_set (k := 0) (.slice none 0 0) bq
            simp only [List.setIfInBounds_toArray, List.set_cons_zero, List.set_cons_succ] at bq
            replace hbt := hbt.setCell (p := ⟨w.heap.size, 0, none⟩) (Nat.le_refl _) (.slice none 0 0)
            replace hD := hD.set (p := ⟨w.heap.size, 1, none⟩) (v := .slice none 0 0) (.inr rfl)
            replace b := blk_other (p := ⟨w.heap.size, 1, none⟩) (.slice none 0 0) b (by dsimp only; omega)
            replace bq := blk_set (k := 1) (.slice none 0 0) bq
            simp only [List.setIfInBounds_toArray, List.set_cons_zero, List.set_cons_succ] at bq
            replace hbt := hbt.setCell (p := ⟨w.heap.size, 1, none⟩) (Nat.le_refl _) (.slice none 0 0)
            replace hD := hD.set (p := ⟨w.heap.size, 2, none⟩) (v := .slice none 0 0) (.inr rfl)
            replace b := blk_other (p := ⟨w.heap.size, 2, none⟩) (.slice none 0 0) b (by dsimp only; omega)
            replace bq := blk_set (k := 2) (.slice none 0 0) bq
            simp only [List.setIfInBounds_toArray, List.set_cons_zero, List.set_cons_succ] at bq
            replace hbt := hbt.setCell (p := ⟨w.heap.size, 2, none⟩) (Nat.le_refl _) (.slice none 0 0)
            replace hD := hD.set (p := ⟨w.heap.size, 3, none⟩) (v := .slice none 0 0) (.inr rfl)
            replace b := blk_other (p := ⟨w.heap.size, 3, none⟩) (.slice none 0 0) b (by dsimp only; omega)
            replace bq := blk_set (k := 3) (.slice none 0 0) bq
            simp only [List.setIfInBounds_toArray, List.set_cons_zero, List.set_cons_succ] at bq
            replace hbt := hbt.setCell (p := ⟨w.heap.size, 3, none⟩) (Nat.le_refl _) (.slice none 0 0)
            replace hD := hD.set (p := ⟨w.heap.size, 4, none⟩) (v := .slice none 0 0) (.inr rfl)
            replace b := blk_other (p := ⟨w.heap.size, 4, none⟩) (.slice none 0 0) b (by dsimp only; omega)
            replace bq := blk_set (k := 4) (.slice none 0 0) bq
            simp only [List.setIfInBounds_toArray, List.set_cons_zero, List.set_cons_succ] at bq
            replace hbt := hbt.setCell (p := ⟨w.heap.size, 4, none⟩) (Nat.le_refl _) (.slice none 0 0)
            clear q0 r0 q1 r1 q2 r2 q3 r3 q4 r4
            refine hK.out _ _ hD ?_
            clear hK K
            (try simp only [Act.put, List.setIfInBounds_toArray, List.set_cons_zero, List.set_cons_succ])
            generalize hXW : World.setCell (World.setCell (World.setCell (World.setCell (World.setCell (wd) ⟨w.heap.size, 0, none⟩ (.slice none 0 0)) ⟨w.heap.size, 1, none⟩ (.slice none 0 0)) ⟨w.heap.size, 2, none⟩ (.slice none 0 0)) ⟨w.heap.size, 3, none⟩ (.slice none 0 0)) ⟨w.heap.size, 4, none⟩ (.slice none 0 0) = XW at *
            clear hXW
            refine movX_call (by kernel_rfl) (fun K hK => ?_)
            go_simp
            refine hK.out _ _ hD ?_
            clear hK K
            (try simp only [Act.put, List.setIfInBounds_toArray, List.set_cons_zero, List.set_cons_succ])
            refine fixX_fin ?_
            go_wp2_with fail
            refine bodyPost_ret (results_cell_row2 Tryz.results22 _ _ (w.heap.size) 28 #[.slice none 0 0, .slice none 0 0, .slice none 0 0, .slice none 0 0, .slice none 0 0] (0, 0) _ rfl bq Tryz.underlying28 rfl infoSch) rfl ?_
            exact getpost_err HC.out hbt
          · refine movX_call (by kernel_rfl) (fun K hK => ?_)
            have q0 := blk_cell (j := 0) bq
            simp only [List.getElem?_toArray, List.getElem?_cons_zero, List.getElem?_cons_succ] at q0
            have r0 := blk_frozen 0 bq
            have q1 := blk_cell (j := 1) bq
            simp only [List.getElem?_toArray, List.getElem?_cons_zero, List.getElem?_cons_succ] at q1
            have r1 := blk_frozen 1 bq
            have q2 := blk_cell (j := 2) bq
            simp only [List.getElem?_toArray, List.getElem?_cons_zero, List.getElem?_cons_succ] at q2
            have r2 := blk_frozen 2 bq
            have q3 := blk_cell (j := 3) bq
            simp only [List.getElem?_toArray, List.getElem?_cons_zero, List.getElem?_cons_succ] at q3
            have r3 := blk_frozen 3 bq
            have q4 := blk_cell (j := 4) bq
            simp only [List.getElem?_toArray, List.getElem?_cons_zero, List.getElem?_cons_succ] at q4
            have r4 := blk_frozen 4 bq
            go_simp
            replace hD := hD.set (p := ⟨w.heap.size, 0, none⟩) (v := .slice none 0 0) (.inr rfl)
            replace b := blk_other (p := ⟨w.heap.size, 0, none⟩) (.slice none 0 0) b (by dsimp only; omega)
            replace bq := blk_set (k := 0) (.slice none 0 0) bq
            simp only [List.setIfInBounds_toArray, List.set_cons_zero, List.set_cons_succ] at bq
            replace hbt := hbt.setCell (p := ⟨w.heap.size, 0, none⟩) (Nat.le_refl _) (.slice none 0 0)
            replace hD := hD.set (p := ⟨w.heap.size, 1, none⟩) (v := .slice none 0 0) (.inr rfl)
            replace b := blk_other (p := ⟨w.heap.size, 1, none⟩) (.slice none 0 0) b (by dsimp only; omega)
            replace bq := blk_set (k := 1) (.slice none 0 0) bq
            simp only [List.setIfInBounds_toArray, List.set_cons_zero, List.set_cons_succ] at bq
            replace hbt := hbt.setCell (p := ⟨w.heap.size, 1, none⟩) (Nat.le_refl _) (.slice none 0 0)
            replace hD := hD.set (p := ⟨w.heap.size, 2, none⟩) (v := .slice none 0 0) (.inr rfl)
            replace b := blk_other (p := ⟨w.heap.size, 2, none⟩) (.slice none 0 0) b (by dsimp only; omega)
            replace bq := blk_set (k := 2) (.slice none 0 0) bq
            simp only [List.setIfInBounds_toArray, List.set_cons_zero, List.set_cons_succ] at bq
            replace hbt := hbt.setCell (p := ⟨w.heap.size, 2, none⟩) (Nat.le_refl _) (.slice none 0 0)
            replace hD := hD.set (p := ⟨w.heap.size, 3, none⟩) (v := .slice none 0 0) (.inr rfl)
            replace b := blk_other (p := ⟨w.heap.size, 3, none⟩) (.slice none 0 0) b (by dsimp only; omega)
            replace bq := blk_set (k := 3) (.slice none 0 0) bq
            simp only [List.setIfInBounds_toArray, List.set_cons_zero, List.set_cons_succ] at bq
            replace hbt := hbt.setCell (p := ⟨w.heap.size, 3, none⟩) (Nat.le_refl _) (.slice none 0 0)
            replace hD := hD.set (p := ⟨w.heap.size, 4, none⟩) (v := .slice none 0 0) (.inr rfl)
            replace b := blk_other (p := ⟨w.heap.size, 4, none⟩) (.slice none 0 0) b (by dsimp only; omega)
            replace bq := blk_set (k := 4) (.slice none 0 0) bq
            simp only [List.setIfInBounds_toArray, List.set_cons_zero, List.set_cons_succ] at bq
            replace hbt := hbt.setCell (p := ⟨w.heap.size, 4, none⟩) (Nat.le_refl _) (.slice none 0 0)
            clear q0 r0 q1 r1 q2 r2 q3 r3 q4 r4
            refine hK.out _ _ hD ?_
            clear hK K
            (try simp only [Act.put, List.setIfInBounds_toArray, List.set_cons_zero, List.set_cons_succ])
            generalize hXW : World.setCell (World.setCell (World.setCell (World.setCell (World.setCell (wd) ⟨w.heap.size, 0, none⟩ (.slice none 0 0)) ⟨w.heap.size, 1, none⟩ (.slice none 0 0)) ⟨w.heap.size, 2, none⟩ (.slice none 0 0)) ⟨w.heap.size, 3, none⟩ (.slice none 0 0)) ⟨w.heap.size, 4, none⟩ (.slice none 0 0) = XW at *
            clear hXW
            refine movX_call (by kernel_rfl) (fun K hK => ?_)
            have e2 := blk_cell (j := 2) b
            simp only [List.getElem?_toArray, List.getElem?_cons_zero, List.getElem?_cons_succ] at e2
            go_simp
            clear e2
            refine hK.out _ _ hD ?_
            clear hK K
            (try simp only [Act.put, List.setIfInBounds_toArray, List.set_cons_zero, List.set_cons_succ])
            refine movX_call (by kernel_rfl) (fun K hK => ?_)
            go_simp
            refine hK.out _ _ hD ?_
            clear hK K
            (try simp only [Act.put, List.setIfInBounds_toArray, List.set_cons_zero, List.set_cons_succ])
            refine fixX_fin ?_
            go_wp2_with fail
            refine bodyPost_ret (results_cell_row2 Tryz.results22 _ _ (w.heap.size) 28 #[.slice none 0 0, .slice none 0 0, .slice none 0 0, .slice none 0 0, .slice none 0 0] (0, 0) _ rfl bq Tryz.underlying28 rfl infoSch) rfl ?_
            exact getpost_err HC.out hbt
        · refine movX_call (by kernel_rfl) (fun K hK => ?_)
          have q0 := blk_cell (j := 0) bq
          simp only [List.getElem?_toArray, List.getElem?_cons_zero, List.getElem?_cons_succ] at q0
          have r0 := blk_frozen 0 bq
          have q1 := blk_cell (j := 1) bq
          simp only [List.getElem?_toArray, List.getElem?_cons_zero, List.getElem?_cons_succ] at q1
          have r1 := blk_frozen 1 bq
          have q2 := blk_cell (j := 2) bq
          simp only [List.getElem?_toArray, List.getElem?_cons_zero, List.getElem?_cons_succ] at q2
          have r2 := blk_frozen 2 bq
          have q3 := blk_cell (j := 3) bq
          simp only [List.getElem?_toArray, List.getElem?_cons_zero, List.getElem?_cons_succ] at q3
          have r3 := blk_frozen 3 bq
          have q4 := blk_cell (j := 4) bq
          simp only [List.getElem?_toArray, List.getElem?_cons_zero, List.getElem?_cons_succ] at q4
          have r4 := blk_frozen 4 bq
          go_simp
          replace hD := hD.set (p := ⟨w.heap.size, 0, none⟩) (v := .slice none 0 0) (.inr rfl)
          replace b := blk_other (p := ⟨w.heap.size, 0, none⟩) (.slice none 0 0) b (by dsimp only; omega)
          replace bq := blk_set (k := 0) (.slice none 0 0) bq
          simp only [List.setIfInBounds_toArray, List.set_cons_zero, List.set_cons_succ] at bq
          replace hbt := hbt.setCell (p := ⟨w.heap.size, 0, none⟩) (Nat.le_refl _) (.slice none 0 0)
          replace hD := hD.set (p := ⟨w.heap.size, 1, none⟩) (v := .slice none 0 0) (.inr rfl)
          replace b := blk_other (p := ⟨w.heap.size, 1, none⟩) (.slice none 0 0) b (by dsimp only; omega)
          replace bq := blk_set (k := 1) (.slice none 0 0) bq
          simp only [List.setIfInBounds_toArray, List.set_cons_zero, List.set_cons_succ] at bq
          replace hbt := hbt.setCell (p := ⟨w.heap.size, 1, none⟩) (Nat.le_refl _) (.slice none 0 0)
          replace hD := hD.set (p := ⟨w.heap.size, 2, none⟩) (v := .slice none 0 0) (.inr rfl)
          replace b := blk_other (p := ⟨w.heap.size, 2, none⟩) (.slice none 0 0) b (by dsimp only; omega)
          replace bq := blk_set (k := 2) (.slice none 0 0) bq
          simp only [List.setIfInBounds_toArray, List.set_cons_zero, List.set_cons_succ] at bq
          replace hbt := hbt.setCell (p := ⟨w.heap.size, 2, none⟩) (Nat.le_refl _) (.slice none 0 0)
          replace hD := hD.set (p := ⟨w.heap.size, 3, none⟩) (v := .slice none 0 0) (.inr rfl)
          replace b := blk_other (p := ⟨w.heap.size, 3, none⟩) (.slice none 0 0) b (by dsimp only; omega)
          replace bq := blk_set (k := 3) (.slice none 0 0) bq
          simp only [List.setIfInBounds_toArray, List.set_cons_zero, List.set_cons_succ] at bq
          replace hbt := hbt.setCell (p := ⟨w.heap.size, 3, none⟩) (Nat.le_refl _) (.slice none 0 0)
          replace hD := hD.set (p := ⟨w.heap.size, 4, none⟩) (v := .slice none 0 0) (.inr rfl)
          replace b := blk_other (p := ⟨w.heap.size, 4, none⟩) (.slice none 0 0) b (by dsimp only; omega)
          replace bq := blk_set (k := 4) (.slice none 0 0) bq
          simp only [List.setIfInBounds_toArray, List.set_cons_zero, List.set_cons_succ] at bq
          replace hbt := hbt.setCell (p := ⟨w.heap.size, 4, none⟩) (Nat.le_refl _) (.slice none 0 0)
          clear q0 r0 q1 r1 q2 r2 q3 r3 q4 r4
          refine hK.out _ _ hD ?_
          clear hK K
          (try simp only [Act.put, List.setIfInBounds_toArray, List.set_cons_zero, List.set_cons_succ])
          generalize hXW : World.setCell (World.setCell (World.setCell (World.setCell (World.setCell (wd) ⟨w.heap.size, 0, none⟩ (.slice none 0 0)) ⟨w.heap.size, 1, none⟩ (.slice none 0 0)) ⟨w.heap.size, 2, none⟩ (.slice none 0 0)) ⟨w.heap.size, 3, none⟩ (.slice none 0 0)) ⟨w.heap.size, 4, none⟩ (.slice none 0 0) = XW at *
          clear hXW
          refine movX_call (by kernel_rfl) (fun K hK => ?_)
          go_simp
          refine hK.out _ _ hD ?_
          clear hK K
          (try simp only [Act.put, List.setIfInBounds_toArray, List.set_cons_zero, List.set_cons_succ])
          refine movX_call (by kernel_rfl) (fun K hK => ?_)
          have e2 := blk_cell (j := 2) b
          simp only [List.getElem?_toArray, List.getElem?_cons_zero, List.getElem?_cons_succ] at e2
          go_simp
          clear e2
          refine hK.out _ _ hD ?_
          clear hK K
          (try simp only [Act.put, List.setIfInBounds_toArray, List.set_cons_zero, List.set_cons_succ])
          refine movX_call (by kernel_rfl) (fun K hK => ?_)
          go_simp
          refine hK.out _ _ hD ?_
          clear hK K
          (try simp only [Act.put, List.setIfInBounds_toArray, List.set_cons_zero, List.set_cons_succ])
          refine fixX_fin ?_
          go_wp2_with fail
          refine bodyPost_ret (results_cell_row2 Tryz.results22 _ _ (w.heap.size) 28 #[.slice none 0 0, .slice none 0 0, .slice none 0 0, .slice none 0 0, .slice none 0 0] (0, 0) _ rfl bq Tryz.underlying28 rfl infoSch) rfl ?_
          exact getpost_err HC.out hbt
      · refine movX_call (by kernel_rfl) (fun K hK => ?_)
        have q0 := blk_cell (j := 0) bq
        simp only [List.getElem?_toArray, List.getElem?_cons_zero, List.getElem?_cons_succ] at q0
        have r0 := blk_frozen 0 bq
        have q1 := blk_cell (j := 1) bq
        simp only [List.getElem?_toArray, List.getElem?_cons_zero, List.getElem?_cons_succ] at q1
        have r1 := blk_frozen 1 bq
        have q2 := blk_cell (j := 2) bq
        simp only [List.getElem?_toArray, List.getElem?_cons_zero, List.getElem?_cons_succ] at q2
        have r2 := blk_frozen 2 bq
        have q3 := blk_cell (j := 3) bq
        simp only [List.getElem?_toArray, List.getElem?_cons_zero, List.getElem?_cons_succ] at q3
        have r3 := blk_frozen 3 bq
        have q4 := blk_cell (j := 4) bq
        simp only [List.getElem?_toArray, List.getElem?_cons_zero, List.getElem?_cons_succ] at q4
        have r4 := blk_frozen 4 bq
        go_simp
        replace hD := hD.set (p := ⟨w.heap.size, 0, none⟩) (v := .slice none 0 0) (.inr rfl)
        replace b := blk_other (p := ⟨w.heap.size, 0, none⟩) (.slice none 0 0) b (by dsimp only; omega)
        replace bq := blk_set (k := 0) (.slice none 0 0) bq
        simp only [List.setIfInBounds_toArray, List.set_cons_zero, List.set_cons_succ] at bq
        replace hbt := hbt.setCell (p := ⟨w.heap.size, 0, none⟩) (Nat.le_refl _) (.slice none 0 0)
        replace hD := hD.set (p := ⟨w.heap.size, 1, none⟩) (v := .slice none 0 0) (.inr rfl)
        replace b := blk_other (p := ⟨w.heap.size, 1, none⟩) (.slice none 0 0) b (by dsimp only; omega)
        replace bq := blk_set (k := 1) (.slice none 0 0) bq
        simp only [List.setIfInBounds_toArray, List.set_cons_zero, List.set_cons_succ] at bq
        replace hbt := hbt.setCell (p := ⟨w.heap.size, 1, none⟩) (Nat.le_refl _) (.slice none 0 0)
        replace hD := hD.set (p := ⟨w.heap.size, 2, none⟩) (v := .slice none 0 0) (.inr rfl)
        replace b := blk_other (p := ⟨w.heap.size, 2, none⟩) (.slice none 0 0) b (by dsimp only; omega)
        replace bq := blk_set (k := 2) (.slice none 0 0) bq
        simp only [List.setIfInBounds_toArray, List.set_cons_zero, List.set_cons_succ] at bq
        replace hbt := hbt.setCell (p := ⟨w.heap.size, 2, none⟩) (Nat.le_refl _) (.slice none 0 0)
        replace hD := hD.set (p := ⟨w.heap.size, 3, none⟩) (v := .slice none 0 0) (.inr rfl)
        replace b := blk_other (p := ⟨w.heap.size, 3, none⟩) (.slice none 0 0) b (by dsimp only; omega)
        replace bq := blk_set (k := 3) (.slice none 0 0) bq
        simp only [List.setIfInBounds_toArray, List.set_cons_zero, List.set_cons_succ] at bq
        replace hbt := hbt.setCell (p := ⟨w.heap.size, 3, none⟩) (Nat.le_refl _) (.slice none 0 0)
        replace hD := hD.set (p := ⟨w.heap.size, 4, none⟩) (v := .slice none 0 0) (.inr rfl)
        replace b := blk_other (p := ⟨w.heap.size, 4, none⟩) (.slice none 0 0) b (by dsimp only; omega)
        replace bq := blk_set (k := 4) (.slice none 0 0) bq
        simp only [List.setIfInBounds_toArray, List.set_cons_zero, List.set_cons_succ] at bq
        replace hbt := hbt.setCell (p := ⟨w.heap.size, 4, none⟩) (Nat.le_refl _) (.slice none 0 0)
        clear q0 r0 q1 r1 q2 r2 q3 r3 q4 r4
        refine hK.out _ _ hD ?_
        clear hK K
        (try simp only [Act.put, List.setIfInBounds_toArray, List.set_cons_zero, List.set_cons_succ])
        generalize hXW : World.setCell (World.setCell (World.setCell (World.setCell (World.setCell (wd) ⟨w.heap.size, 0, none⟩ (.slice none 0 0)) ⟨w.heap.size, 1, none⟩ (.slice none 0 0)) ⟨w.heap.size, 2, none⟩ (.slice none 0 0)) ⟨w.heap.size, 3, none⟩ (.slice none 0 0)) ⟨w.heap.size, 4, none⟩ (.slice none 0 0) = XW at *
        clear hXW
        refine movX_call (by kernel_rfl) (fun K hK => ?_)
        have e2 := blk_cell (j := 0) b
        simp only [List.getElem?_toArray, List.getElem?_cons_zero, List.getElem?_cons_succ] at e2
        go_simp
        clear e2
        refine hK.out _ _ hD ?_
        clear hK K
        (try simp only [Act.put, List.setIfInBounds_toArray, List.set_cons_zero, List.set_cons_succ])
        refine movX_call (by kernel_rfl) (fun K hK => ?_)
        go_simp
        refine hK.out _ _ hD ?_
        clear hK K
        (try simp only [Act.put, List.setIfInBounds_toArray, List.set_cons_zero, List.set_cons_succ])
        refine movX_call (by kernel_rfl) (fun K hK => ?_)
        have e2 := blk_cell (j := 2) b
        simp only [List.getElem?_toArray, List.getElem?_cons_zero, List.getElem?_cons_succ] at e2
        go_simp
        clear e2
        refine hK.out _ _ hD ?_
        clear hK K
        (try simp only [Act.put, List.setIfInBounds_toArray, List.set_cons_zero, List.set_cons_succ])
        refine movX_call (by kernel_rfl) (fun K hK => ?_)
        go_simp
        refine hK.out _ _ hD ?_
        clear hK K
        (try simp only [Act.put, List.setIfInBounds_toArray, List.set_cons_zero, List.set_cons_succ])
        refine fixX_fin ?_
        go_wp2_with fail
        refine bodyPost_ret (results_cell_row2 Tryz.results22 _ _ (w.heap.size) 28 #[.slice none 0 0, .slice none 0 0, .slice none 0 0, .slice none 0 0, .slice none 0 0] (0, 0) _ rfl bq Tryz.underlying28 rfl infoSch) rfl ?_
        exact getpost_err HC.out hbt
    · have t1 : decide (sa < (m : Int)) = false := by simp; omega
      have w0 := blk_cell (j := 0) bsN
      simp only [List.getElem?_toArray, List.getElem?_cons_zero, List.getElem?_cons_succ] at w0
      have w1 := blk_cell (j := 1) bsN
      simp only [List.getElem?_toArray, List.getElem?_cons_zero, List.getElem?_cons_succ] at w1
      have w2 := blk_cell (j := 2) bsN
      simp only [List.getElem?_toArray, List.getElem?_cons_zero, List.getElem?_cons_succ] at w2
      have w3 := blk_cell (j := 3) bsN
      simp only [List.getElem?_toArray, List.getElem?_cons_zero, List.getElem?_cons_succ] at w3
      have w4 := blk_cell (j := 4) bsN
      simp only [List.getElem?_toArray, List.getElem?_cons_zero, List.getElem?_cons_succ] at w4
      go_wp2_with fail
      clear w0 w1 w2 w3 w4
      clear z0 f0 p0 e1 e2 b bp bs bq hbt
      have hX : (y4.setCell ⟨w.heap.size + 1 + 1 + 1, 4, none⟩ (.slice A4 L4.length c4)).heap.size = (y4.setCell ⟨w.heap.size + 1 + 1 + 1, 4, none⟩ (.slice A4 L4.length c4)).heap.size := rfl
      clear hX
      generalize (y4.setCell ⟨w.heap.size + 1 + 1 + 1, 4, none⟩ (.slice A4 L4.length c4)) = X4 at *
      have b := bN
      have bp := bpN
      have bs := bsN
      have bq := bqN
      have hbt := hbtN
      clear bN bpN bsN bqN hbtN
      obtain ⟨Aq0, cq0, eq0, hr0⟩ := OwnL.rd (R := Sc.RSlo) hL0 (fun x r hx h => Sc.rdSlo (HOK0.out x hx) h)
      injection eq0 with eqa0 _ eqb0
      subst eqa0 eqb0
      obtain ⟨Aq1, cq1, eq1, hr1⟩ := OwnL.rd (R := Sc.RRoo) hL1 (fun x r hx h => Sc.rdRoo (HOK1.out x hx) h)
      injection eq1 with eqa1 _ eqb1
      subst eqa1 eqb1
      obtain ⟨Aq2, cq2, eq2, hr2⟩ := OwnL.rd (R := Sc.RPer) hL2 (fun x r hx h => Sc.rdPer (HOK2.out x hx) h)
      injection eq2 with eqa2 _ eqb2
      subst eqa2 eqb2
      obtain ⟨Aq3, cq3, eq3, hr3⟩ := OwnL.rd (R := Sc.RGro) hL3 (fun x r hx h => Sc.rdGro (HOK3.out x hx) h)
      injection eq3 with eqa3 _ eqb3
      subst eqa3 eqb3
      obtain ⟨Aq4, cq4, eq4, hr4⟩ := OwnL.rd (R := Sc.RLes) hL4 (fun x r hx h => Sc.rdLes (HOK4.out x hx) h)
      injection eq4 with eqa4 _ eqb4
      subst eqa4 eqb4
      have hS : Sc.RdSch X4 (World.heap X4).size ⟨A0, L0.length, c0, A1, L1.length, c1, A2, L2.length, c2, A3, L3.length, c3, A4, L4.length, c4⟩ ⟨L0, L1, L2, L3, L4⟩ := ⟨hr0, hr1, hr2, hr3, hr4⟩
      clear hr0 hr1 hr2 hr3 hr4
      have hm2 : X4.cell? ⟨0, 0, none⟩ = some (.int .i64 mx) := (hbt.cell (World.block_lt_of_cell? _ _ hmx)).trans hmx
      refine (sCheck_any ⟨A0, L0.length, c0, A1, L1.length, c1, A2, L2.length, c2, A3, L3.length, c3, A4, L4.length, c4⟩ ⟨L0, L1, L2, L3, L4⟩ mx X4 hS hm2).mono ?_
      rintro e wc ⟨rfl, hb⟩
      clear hS hm2
      replace hL0 := OwnL.keeps (O := Sc.OSlo) (t := 69) Sc.olSlo hL0 (Keeps.below hb) (Keeps.below hb)
      replace hL1 := OwnL.keeps (O := Sc.ORoo) (t := 53) Sc.olRoo hL1 (Keeps.below hb) (Keeps.below hb)
      replace hL2 := OwnL.keeps (O := Sc.OPer) (t := 57) Sc.olPer hL2 (Keeps.below hb) (Keeps.below hb)
      replace hL3 := OwnL.keeps (O := Sc.OGro) (t := 49) Sc.olGro hL3 (Keeps.below hb) (Keeps.below hb)
      replace hL4 := OwnL.keeps (O := Sc.OLes) (t := 59) Sc.olLes hL4 (Keeps.below hb) (Keeps.below hb)
      replace b := blk_below b hb
      replace bp := blk_below bp hb
      replace bs := blk_below bs hb
      replace bq := blk_below bq hb
      replace hbt := hbt.trans (hb.mono hbt.size)
      clear hb
      have p0 := blk_cell (j := 0) bp
      simp only [List.getElem?_toArray, List.getElem?_cons_zero, List.getElem?_cons_succ] at p0
      have e2 := blk_cell (j := 2) b
      simp only [List.getElem?_toArray, List.getElem?_cons_zero, List.getElem?_cons_succ] at e2
      have f2 := blk_frozen 2 b
      by_cases hck : Sc.chk (⟨L0, L1, L2, L3, L4⟩ : Sc.Sch) ≠ 0
      · have HC : Hid (Sc.getR l = (Sc.noSch, 11)) := by
          have h1 : Sc.gE l = 11 := by rw [HGE.out, if_pos ⟨by simp, .inr (by rw [HGS.out]; exact hck)⟩]
          show _ = _
          unfold Sc.getR
          rw [h1, if_pos (by simp)]
        generalize Sc.chk (⟨L0, L1, L2, L3, L4⟩ : Sc.Sch) = ck at *
        have t2 : (ck != 0) = true := by simp; omega
        go_wp2_with fail
        clear p0 e2 f2
        have bT := blk_set (k := 2) (.int .i64 11) b
        simp only [List.setIfInBounds_toArray, List.set_cons_zero, List.set_cons_succ] at bT
        have bpT := blk_other (p := ⟨w.heap.size + 1, 2, none⟩) (.int .i64 11) bp (by dsimp only; omega)
        have bqT := blk_other (p := ⟨w.heap.size + 1, 2, none⟩) (.int .i64 11) bq (by dsimp only; omega)
        have hbtT := hbt.setCell (p := ⟨w.heap.size + 1, 2, none⟩) (by dsimp only; omega) (.int .i64 11)
        clear b bp bs bq hbt
        clear hL0 hL1 hL2 hL3 hL4
        generalize World.setCell wc ⟨w.heap.size + 1, 2, none⟩ (.int .i64 11) = W at *
        have b := bT
        have bp := bpT
        have bq := bqT
        have hbt := hbtT
        clear bT bpT bqT hbtT
        refine wp_region_fixX (fun q => q = w.heap.size) [0, 1] (.two [] 2 (.two [] 3 (.two [] 4 (.one [] 5 (.one [] 6 (.fin []))) 5 (.one [] 4 (.one [] 6 (.fin [])))) 5 (.one [] 3 (.one [] 4 (.one [] 6 (.fin []))))) 5 (.one [] 2 (.one [] 3 (.one [] 4 (.one [] 6 (.fin [])))))) (by kernel_rfl) (by kernel_rfl) ?_
        intro wd hszd hb
        clear hszd
        replace b := blk_below b hb
        replace bp := blk_below bp hb
        replace bq := blk_below bq hb
        replace hbt := hbt.trans (hb.mono hbt.size)
        clear hb
        have e0 : ∀ x : ExtX (fun q => q = w.heap.size) wd, x.val.cell? ⟨w.heap.size + 1 + 1, 0, none⟩ = some (.pointer (some ⟨w.heap.size + 1, 0, none⟩)) := fun x => (blk_cell (x.blk bp (by omega))).trans rfl
        simp only [pick, List.map_cons, List.map_nil, List.getD_cons_zero, List.getD_cons_succ]
        (repeat (go_big_quiet_step (fail)))
        refine quiet_end ?_
        clear e0
        have hD := KeepX.refl (fun q => q = w.heap.size) wd
        refine ⟨?_, ?_⟩
        · refine movX_call (by kernel_rfl) (fun K hK => ?_)
          have e2 := blk_cell (j := 0) b
          simp only [List.getElem?_toArray, List.getElem?_cons_zero, List.getElem?_cons_succ] at e2
          go_simp
          clear e2
          refine hK.out _ _ hD ?_
          clear hK K
          (try simp only [Act.put, List.setIfInBounds_toArray, List.set_cons_zero, List.set_cons_succ])
          refine ⟨?_, ?_⟩
          · refine movX_call (by kernel_rfl) (fun K hK => ?_)
            go_simp
            refine hK.out _ _ hD ?_
            clear hK K
            (try simp only [Act.put, List.setIfInBounds_toArray, List.set_cons_zero, List.set_cons_succ])
            refine ⟨?_, ?_⟩
            · refine movX_call (by kernel_rfl) (fun K hK => ?_)
              have e2 := blk_cell (j := 2) b
              simp only [List.getElem?_toArray, List.getElem?_cons_zero, List.getElem?_cons_succ] at e2
              go_simp
              clear e2
              refine hK.out _ _ hD ?_
              clear hK K
              (try simp only [Act.put, List.setIfInBounds_toArray, List.set_cons_zero, List.set_cons_succ])
              refine movX_call (by kernel_rfl) (fun K hK => ?_)
              have q0 := blk_cell (j := 0) bq
              simp only [List.getElem?_toArray, List.getElem?_cons_zero, List.getElem?_cons_succ] at q0
              have r0 := blk_frozen 0 bq
              have q1 := blk_cell (j := 1) bq
              simp only [List.getElem?_toArray, List.getElem?_cons_zero, List.getElem?_cons_succ] at q1
              have r1 := blk_frozen 1 bq
              have q2 := blk_cell (j := 2) bq
              simp only [List.getElem?_toArray, List.getElem?_cons_zero, List.getElem?_cons_succ] at q2
              have r2 := blk_frozen 2 bq
              have q3 := blk_cell (j := 3) bq
              simp only [List.getElem?_toArray, List.getElem?_cons_zero, List.getElem?_cons_succ] at q3
              have r3 := blk_frozen 3 bq
              have q4 := blk_cell (j := 4) bq
              simp only [List.getElem?_toArray, List.getElem?_cons_zero, List.getElem?_cons_succ] at q4
              have r4 := blk_frozen 4 bq
              go_simp
              replace hD := hD.set (p := ⟨w.heap.size, 0, none⟩) (v := .slice none 0 0) (.inr rfl)
              replace b := blk_other (p := ⟨w.heap.size, 0, none⟩) (.slice none 0 0) b (by dsimp only; omega)
              replace bq := blk_set (k := 0) (.slice none 0 0) bq
              simp only [List.setIfInBounds_toArray, List.set_cons_zero, List.set_cons_succ] at bq
              replace hbt := hbt.setCell (p := ⟨w.heap.size, 0, none⟩) (Nat.le_refl _) (.slice none 0 0)
              replace hD := hD.set (p := ⟨w.heap.size, 1, none⟩) (v := .slice none 0 0) (.inr rfl)
              replace b := blk_other (p := ⟨w.heap.size, 1, none⟩) (.slice none 0 0) b (by dsimp only; omega)
              replace bq := blk_set (k := 1) (.slice none 0 0) bq
              simp only [List.setIfInBounds_toArray, List.set_cons_zero, List.set_cons_succ] at bq
              replace hbt := hbt.setCell (p := ⟨w.heap.size, 1, none⟩) (Nat.le_refl _) (.slice none 0 0)
              replace hD := hD.set (p := ⟨w.heap.size, 2, none⟩) (v := .slice none 0 0) (.inr rfl)
              replace b := blk_other (p := ⟨w.heap.size, 2, none⟩) (.slice none 0 0) b (by dsimp only; omega)
              replace bq := blk_set (k := 2) (.slice none 0 0) bq
              simp only [List.setIfInBounds_toArray, List.set_cons_zero, List.set_cons_succ] at bq
              replace hbt := hbt.setCell (p := ⟨w.heap.size, 2, none⟩) (Nat.le_refl _) (.slice none 0 0)
              replace hD := hD.set (p := ⟨w.heap.size, 3, none⟩) (v := .slice none 0 0) (.inr rfl)
              replace b := blk_other (p := ⟨w.heap.size, 3, none⟩) (.slice none 0 0) b (by dsimp only; omega)
              replace bq := blk_set (k := 3) (.slice none 0 0) bq
              simp only [List.setIfInBounds_toArray, List.set_cons_zero, List.set_cons_succ] at bq
              replace hbt := hbt.setCell (p := ⟨w.heap.size, 3, none⟩) (Nat.le_refl _) (.slice none 0 0)
              replace hD := hD.set (p := ⟨w.heap.size, 4, none⟩) (v := .slice none 0 0) (.inr rfl)
              replace b := blk_other (p := ⟨w.heap.size, 4, none⟩) (.slice none 0 0) b (by dsimp only; omega)
              replace bq := blk_set (k := 4) (.slice none 0 0) bq
              simp only [List.setIfInBounds_toArray, List.set_cons_zero, List.set_cons_succ] at bq
              replace hbt := hbt.setCell (p := ⟨w.heap.size, 4, none⟩) (Nat.le_refl _) (.slice none 0 0)
              clear q0 r0 q1 r1 q2 r2 q3 r3 q4 r4
              refine hK.out _ _ hD ?_
              clear hK K
              (try simp only [Act.put, List.setIfInBounds_toArray, List.set_cons_zero, List.set_cons_succ])
              generalize hXW : World.setCell (World.setCell (World.setCell (World.setCell (World.setCell (wd) ⟨w.heap.size, 0, none⟩ (.slice none 0 0)) ⟨w.heap.size, 1, none⟩ (.slice none 0 0)) ⟨w.heap.size, 2, none⟩ (.slice none 0 0)) ⟨w.heap.size, 3, none⟩ (.slice none 0 0)) ⟨w.heap.size, 4, none⟩ (.slice none 0 0) = XW at *
              clear hXW
              refine movX_call (by kernel_rfl) (fun K hK => ?_)
              go_simp
              refine hK.out _ _ hD ?_
              clear hK K
              (try simp only [Act.put, List.setIfInBounds_toArray, List.set_cons_zero, List.set_cons_succ])
              refine fixX_fin ?_
              go_wp2_with fail
              refine bodyPost_ret (results_cell_row2 Tryz.results22 _ _ (w.heap.size) 28 #[.slice none 0 0, .slice none 0 0, .slice none 0 0, .slice none 0 0, .slice none 0 0] (0, 0) _ rfl bq Tryz.underlying28 rfl infoSch) rfl ?_
              exact getpost_err HC.out hbt
            · refine movX_call (by kernel_rfl) (fun K hK => ?_)
              have q0 := blk_cell (j := 0) bq
              simp only [List.getElem?_toArray, List.getElem?_cons_zero, List.getElem?_cons_succ] at q0
              have r0 := blk_frozen 0 bq
              have q1 := blk_cell (j := 1) bq
              simp only [List.getElem?_toArray, List.getElem?_cons_zero, List.getElem?_cons_succ] at q1
              have r1 := blk_frozen 1 bq
              have q2 := blk_cell (j := 2) bq
              simp only [List.getElem?_toArray, List.getElem?_cons_zero, List.getElem?_cons_succ] at q2
              have r2 := blk_frozen 2 bq
              have q3 := blk_cell (j := 3) bq
              simp only [List.getElem?_toArray, List.getElem?_cons_zero, List.getElem?_cons_succ] at q3
              have r3 := blk_frozen 3 bq
              have q4 := blk_cell (j := 4) bq
              simp only [List.getElem?_toArray, List.getElem?_cons_zero, List.getElem?_cons_succ] at q4
              have r4 := blk_frozen 4 bq
              go_simp
              replace hD := hD.set (p := ⟨w.heap.size, 0, none⟩) (v := .slice none 0 0) (.inr rfl)
              replace b := blk_other (p := ⟨w.heap.size, 0, none⟩) (.slice none 0 0) b (by dsimp only; omega)
              replace bq := blk_set (k := 0) (.slice none 0 0) bq
              simp only [List.setIfInBounds_toArray, List.set_cons_zero, List.set_cons_succ] at bq
              replace hbt := hbt.setCell (p := ⟨w.heap.size, 0, none⟩) (Nat.le_refl _) (.slice none 0 0)
              replace hD := hD.set (p := ⟨w.heap.size, 1, none⟩) (v := .slice none 0 0) (.inr rfl)
              replace b := blk_other (p := ⟨w.heap.size, 1, none⟩) (.slice none 0 0) b (by dsimp only; omega)
              replace bq := blk_set (k := 1) (.slice none 0 0) bq
              simp only [List.setIfInBounds_toArray, List.set_cons_zero, List.set_cons_succ] at bq
              replace hbt := hbt.setCell (p := ⟨w.heap.size, 1, none⟩) (Nat.le_refl _) (.slice none 0 0)
              replace hD := hD.set (p := ⟨w.heap.size, 2, none⟩) (v := .slice none 0 0) (.inr rfl)
              replace b := blk_other (p := ⟨w.heap.size, 2, none⟩) (.slice none 0 0) b (by dsimp only; omega)
              replace bq := blk_set (k := 2) (.slice none 0 0) bq
              simp only [List.setIfInBounds_toArray, List.set_cons_zero, List.set_cons_succ] at bq
              replace hbt := hbt.setCell (p := ⟨w.heap.size, 2, none⟩) (Nat.le_refl _) (.slice none 0 0)
              replace hD := hD.set (p := ⟨w.heap.size, 3, none⟩) (v := .slice none 0 0) (.inr rfl)
              replace b := blk_other (p := ⟨w.heap.size, 3, none⟩) (.slice none 0 0) b (by dsimp only; omega)
              replace bq := blk_set (k := 3) (.slice none 0 0) bq
              simp only [List.setIfInBounds_toArray, List.set_cons_zero, List.set_cons_succ] at bq
              replace hbt := hbt.setCell (p := ⟨w.heap.size, 3, none⟩) (Nat.le_refl _) (.slice none 0 0)
              replace hD := hD.set (p := ⟨w.heap.size, 4, none⟩) (v := .slice none 0 0) (.inr rfl)
              replace b := blk_other (p := ⟨w.heap.size, 4, none⟩) (.slice none 0 0) b (by dsimp only; omega)
              replace bq := blk_set (k := 4) (.slice none 0 0) bq
              simp only [List.setIfInBounds_toArray, List.set_cons_zero, List.set_cons_succ] at bq
              replace hbt := hbt.setCell (p := ⟨w.heap.size, 4, none⟩) (Nat.le_refl _) (.slice none 0 0)
              clear q0 r0 q1 r1 q2 r2 q3 r3 q4 r4
              refine hK.out _ _ hD ?_
              clear hK K
              (try simp only [Act.put, List.setIfInBounds_toArray, List.set_cons_zero, List.set_cons_succ])
              generalize hXW : World.setCell (World.setCell (World.setCell (World.setCell (World.setCell (wd) ⟨w.heap.size, 0, none⟩ (.slice none 0 0)) ⟨w.heap.size, 1, none⟩ (.slice none 0 0)) ⟨w.heap.size, 2, none⟩ (.slice none 0 0)) ⟨w.heap.size, 3, none⟩ (.slice none 0 0)) ⟨w.heap.size, 4, none⟩ (.slice none 0 0) = XW at *
              clear hXW
              refine movX_call (by kernel_rfl) (fun K hK => ?_)
              have e2 := blk_cell (j := 2) b
              simp only [List.getElem?_toArray, List.getElem?_cons_zero, List.getElem?_cons_succ] at e2
              go_simp
              clear e2
              refine hK.out _ _ hD ?_
              clear hK K
              (try simp only [Act.put, List.setIfInBounds_toArray, List.set_cons_zero, List.set_cons_succ])
              refine movX_call (by kernel_rfl) (fun K hK => ?_)
              go_simp
              refine hK.out _ _ hD ?_
              clear hK K
              (try simp only [Act.put, List.setIfInBounds_toArray, List.set_cons_zero, List.set_cons_succ])
              refine fixX_fin ?_
              go_wp2_with fail
              refine bodyPost_ret (results_cell_row2 Tryz.results22 _ _ (w.heap.size) 28 #[.slice none 0 0, .slice none 0 0, .slice none 0 0, .slice none 0 0, .slice none 0 0] (0, 0) _ rfl bq Tryz.underlying28 rfl infoSch) rfl ?_
              exact getpost_err HC.out hbt
          · refine movX_call (by kernel_rfl) (fun K hK => ?_)
            have q0 := blk_cell (j := 0) bq
            simp only [List.getElem?_toArray, List.getElem?_cons_zero, List.getElem?_cons_succ] at q0
            have r0 := blk_frozen 0 bq
            have q1 := blk_cell (j := 1) bq
            simp only [List.getElem?_toArray, List.getElem?_cons_zero, List.getElem?_cons_succ] at q1
            have r1 := blk_frozen 1 bq
            have q2 := blk_cell (j := 2) bq
            simp only [List.getElem?_toArray, List.getElem?_cons_zero, List.getElem?_cons_succ] at q2
            have r2 := blk_frozen 2 bq
            have q3 := blk_cell (j := 3) bq
            simp only [List.getElem?_toArray, List.getElem?_cons_zero, List.getElem?_cons_succ] at q3
            have r3 := blk_frozen 3 bq
            have q4 := blk_cell (j := 4) bq
            simp only [List.getElem?_toArray, List.getElem?_cons_zero, List.getElem?_cons_succ] at q4
            have r4 := blk_frozen 4 bq
            go_simp
            replace hD := hD.set (p := ⟨w.heap.size, 0, none⟩) (v := .slice none 0 0) (.inr rfl)
            replace b := blk_other (p := ⟨w.heap.size, 0, none⟩) (.slice none 0 0) b (by dsimp only; omega)
            replace bq := blk_set (k := 0) (.slice none 0 0) bq
            simp only [List.setIfInBounds_toArray, List.set_cons_zero, List.set_cons_succ] at bq
            replace hbt := hbt.setCell (p := ⟨w.heap.size, 0, none⟩) (Nat.le_refl _) (.slice none 0 0)
            replace hD := hD.set (p := ⟨w.heap.size, 1, none⟩) (v := .slice none 0 0) (.inr rfl)
            replace b := blk_other (p := ⟨w.heap.size, 1, none⟩) (.slice none 0 0) b (by dsimp only; omega)
            replace bq := blk_set (k := 1) (.slice none 0 0) bq
            simp only [List.setIfInBounds_toArray, List.set_cons_zero, List.set_cons_succ] at bq
            replace hbt := hbt.setCell (p := ⟨w.heap.size, 1, none⟩) (Nat.le_refl _) (.slice none 0 0)
            replace hD := hD.set (p := ⟨w.heap.size, 2, none⟩) (v := .slice none 0 0) (.inr rfl)
            replace b := blk_other (p := ⟨w.heap.size, 2, none⟩) (.slice none 0 0) b (by dsimp only; omega)
            replace bq := blk_set (k := 2) (.slice none 0 0) bq
            simp only [List.setIfInBounds_toArray, List.set_cons_zero, List.set_cons_succ] at bq
            replace hbt := hbt.setCell (p := ⟨w.heap.size, 2, none⟩) (Nat.le_refl _) (.slice none 0 0)
            replace hD := hD.set (p := ⟨w.heap.size, 3, none⟩) (v := .slice none 0 0) (.inr rfl)
            replace b := blk_other (p := ⟨w.heap.size, 3, none⟩) (.slice none 0 0) b (by dsimp only; omega)
            replace bq := blk_set (k := 3) (.slice none 0 0) bq
            simp only [List.setIfInBounds_toArray, List.set_cons_zero, List.set_cons_succ] at bq
            replace hbt := hbt.setCell (p := ⟨w.heap.size, 3, none⟩) (Nat.le_refl _) (.slice none 0 0)
            replace hD := hD.set (p := ⟨w.heap.size, 4, none⟩) (v := .slice none 0 0) (.inr rfl)
            replace b := blk_other (p := ⟨w.heap.size, 4, none⟩) (.slice none 0 0) b (by dsimp only; omega)
            replace bq := blk_set (k := 4) (.slice none 0 0) bq
            simp only [List.setIfInBounds_toArray, List.set_cons_zero, List.set_cons_succ] at bq
            replace hbt := hbt.setCell (p := ⟨w.heap.size, 4, none⟩) (Nat.le_refl _) (.slice none 0 0)
            clear q0 r0 q1 r1 q2 r2 q3 r3 q4 r4
            refine hK.out _ _ hD ?_
            clear hK K
            (try simp only [Act.put, List.setIfInBounds_toArray, List.set_cons_zero, List.set_cons_succ])
            generalize hXW : World.setCell (World.setCell (World.setCell (World.setCell (World.setCell (wd) ⟨w.heap.size, 0, none⟩ (.slice none 0 0)) ⟨w.heap.size, 1, none⟩ (.slice none 0 0)) ⟨w.heap.size, 2, none⟩ (.slice none 0 0)) ⟨w.heap.size, 3, none⟩ (.slice none 0 0)) ⟨w.heap.size, 4, none⟩ (.slice none 0 0) = XW at *
            clear hXW
            refine movX_call (by kernel_rfl) (fun K hK => ?_)
            go_simp
            refine hK.out _ _ hD ?_
            clear hK K
            (try simp only [Act.put, List.setIfInBounds_toArray, List.set_cons_zero, List.set_cons_succ])
            refine movX_call (by kernel_rfl) (fun K hK => ?_)
            have e2 := blk_cell (j := 2) b
            simp only [List.getElem?_toArray, List.getElem?_cons_zero, List.getElem?_cons_succ] at e2
            go_simp
            clear e2
            refine hK.out _ _ hD ?_
            clear hK K
            (try simp only [Act.put, List.setIfInBounds_toArray, List.set_cons_zero, List.set_cons_succ])
            refine movX_call (by kernel_rfl) (fun K hK => ?_)
            go_simp
            refine hK.out _ _ hD ?_
            clear hK K
            (try simp only [Act.put, List.setIfInBounds_toArray, List.set_cons_zero, List.set_cons_succ])
            refine fixX_fin ?_
            go_wp2_with fail
            refine bodyPost_ret (results_cell_row2 Tryz.results22 _ _ (w.heap.size) 28 #[.slice none 0 0, .slice none 0 0, .slice none 0 0, .slice none 0 0, .slice none 0 0] (0, 0) _ rfl bq Tryz.underlying28 rfl infoSch) rfl ?_
            exact getpost_err HC.out hbt
        · refine movX_call (by kernel_rfl) (fun K hK => ?_)
          have q0 := blk_cell (j := 0) bq
          simp only [List.getElem?_toArray, List.getElem?_cons_zero, List.getElem?_cons_succ] at q0
          have r0 := blk_frozen 0 bq
          have q1 := blk_cell (j := 1) bq
          simp only [List.getElem?_toArray, List.getElem?_cons_zero, List.getElem?_cons_succ] at q1
          have r1 := blk_frozen 1 bq
          have q2 := blk_cell (j := 2) bq
          simp only [List.getElem?_toArray, List.getElem?_cons_zero, List.getElem?_cons_succ] at q2
          have r2 := blk_frozen 2 bq
          have q3 := blk_cell (j := 3) bq
          simp only [List.getElem?_toArray, List.getElem?_cons_zero, List.getElem?_cons_succ] at q3
          have r3 := blk_frozen 3 bq
          have q4 := blk_cell (j := 4) bq
          simp only [List.getElem?_toArray, List.getElem?_cons_zero, List.getElem?_cons_succ] at q4
          have r4 := blk_frozen 4 bq
          go_simp
          replace hD := hD.set (p := ⟨w.heap.size, 0, none⟩) (v := .slice none 0 0) (.inr rfl)
          replace b := blk_other (p := ⟨w.heap.size, 0, none⟩) (.slice none 0 0) b (by dsimp only; omega)
          replace bq := blk_set (k := 0) (.slice none 0 0) bq
          simp only [List.setIfInBounds_toArray, List.set_cons_zero, List.set_cons_succ] at bq
          replace hbt := hbt.setCell (p := ⟨w.heap.size, 0, none⟩) (Nat.le_refl _) (.slice none 0 0)
          replace hD := hD.set (p := ⟨w.heap.size, 1, none⟩) (v := .slice none 0 0) (.inr rfl)
          replace b := blk_other (p := ⟨w.heap.size, 1, none⟩) (.slice none 0 0) b (by dsimp only; omega)
          replace bq := blk_set (k := 1) (.slice none 0 0) bq
          simp only [List.setIfInBounds_toArray, List.set_cons_zero, List.set_cons_succ] at bq
          replace hbt := hbt.setCell (p := ⟨w.heap.size, 1, none⟩) (Nat.le_refl _) (.slice none 0 0)
          replace hD := hD.set (p := ⟨w.heap.size, 2, none⟩) (v := .slice none 0 0) (.inr rfl)
          replace b := blk_other (p := ⟨w.heap.size, 2, none⟩) (.slice none 0 0) b (by dsimp only; omega)
          replace bq := blk_set (k := 2) (.slice none 0 0) bq
          simp only [List.setIfInBounds_toArray, List.set_cons_zero, List.set_cons_succ] at bq
          replace hbt := hbt.setCell (p := ⟨w.heap.size, 2, none⟩) (Nat.le_refl _) (.slice none 0 0)
          replace hD := hD.set (p := ⟨w.heap.size, 3, none⟩) (v := .slice none 0 0) (.inr rfl)
          replace b := blk_other (p := ⟨w.heap.size, 3, none⟩) (.slice none 0 0) b (by dsimp only; omega)
          replace bq := blk_set (k := 3) (.slice none 0 0) bq
          simp only [List.setIfInBounds_toArray, List.set_cons_zero, List.set_cons_succ] at bq
          replace hbt := hbt.setCell (p := ⟨w.heap.size, 3, none⟩) (Nat.le_refl _) (.slice none 0 0)
          replace hD := hD.set (p := ⟨w.heap.size, 4, none⟩) (v := .slice none 0 0) (.inr rfl)
          replace b := blk_other (p := ⟨w.heap.size, 4, none⟩) (.slice none 0 0) b (by dsimp only; omega)
          replace bq := blk_set (k := 4) (.slice none 0 0) bq
          simp only [List.setIfInBounds_toArray, List.set_cons_zero, List.set_cons_succ] at bq
          replace hbt := hbt.setCell (p := ⟨w.heap.size, 4, none⟩) (Nat.le_refl _) (.slice none 0 0)
          clear q0 r0 q1 r1 q2 r2 q3 r3 q4 r4
          refine hK.out _ _ hD ?_
          clear hK K
          (try simp only [Act.put, List.setIfInBounds_toArray, List.set_cons_zero, List.set_cons_succ])
          generalize hXW : World.setCell (World.setCell (World.setCell (World.setCell (World.setCell (wd) ⟨w.heap.size, 0, none⟩ (.slice none 0 0)) ⟨w.heap.size, 1, none⟩ (.slice none 0 0)) ⟨w.heap.size, 2, none⟩ (.slice none 0 0)) ⟨w.heap.size, 3, none⟩ (.slice none 0 0)) ⟨w.heap.size, 4, none⟩ (.slice none 0 0) = XW at *
          clear hXW
          refine movX_call (by kernel_rfl) (fun K hK => ?_)
          have e2 := blk_cell (j := 0) b
          simp only [List.getElem?_toArray, List.getElem?_cons_zero, List.getElem?_cons_succ] at e2
          go_simp
          clear e2
          refine hK.out _ _ hD ?_
          clear hK K
          (try simp only [Act.put, List.setIfInBounds_toArray, List.set_cons_zero, List.set_cons_succ])
          refine movX_call (by kernel_rfl) (fun K hK => ?_)
          go_simp
          refine hK.out _ _ hD ?_
          clear hK K
          (try simp only [Act.put, List.setIfInBounds_toArray, List.set_cons_zero, List.set_cons_succ])
          refine movX_call (by kernel_rfl) (fun K hK => ?_)
          have e2 := blk_cell (j := 2) b
          simp only [List.getElem?_toArray, List.getElem?_cons_zero, List.getElem?_cons_succ] at e2
          go_simp
          clear e2
          refine hK.out _ _ hD ?_
          clear hK K
          (try simp only [Act.put, List.setIfInBounds_toArray, List.set_cons_zero, List.set_cons_succ])
          refine movX_call (by kernel_rfl) (fun K hK => ?_)
          go_simp
          refine hK.out _ _ hD ?_
          clear hK K
          (try simp only [Act.put, List.setIfInBounds_toArray, List.set_cons_zero, List.set_cons_succ])
          refine fixX_fin ?_
          go_wp2_with fail
          refine bodyPost_ret (results_cell_row2 Tryz.results22 _ _ (w.heap.size) 28 #[.slice none 0 0, .slice none 0 0, .slice none 0 0, .slice none 0 0, .slice none 0 0] (0, 0) _ rfl bq Tryz.underlying28 rfl infoSch) rfl ?_
          exact getpost_err HC.out hbt
      · have hck : Sc.chk (⟨L0, L1, L2, L3, L4⟩ : Sc.Sch) = 0 := Classical.not_not.1 hck
        have HC : Hid (Sc.getR l = (⟨L0, L1, L2, L3, L4⟩, 0)) := by
          have h1 : Sc.gE l = 0 := by rw [HGE.out, if_neg (fun hh => hh.2.elim (fun h1 => by omega) (fun h2 => h2 (by rw [HGS.out]; exact hck)))]
          show _ = _
          unfold Sc.getR
          rw [h1, if_neg (by simp), HGS.out]
        rw [hck]
        clear hck
        have w0 := blk_cell (j := 0) bs
        simp only [List.getElem?_toArray, List.getElem?_cons_zero, List.getElem?_cons_succ] at w0
        have q0 := blk_cell (j := 0) bq
        simp only [List.getElem?_toArray, List.getElem?_cons_zero, List.getElem?_cons_succ] at q0
        have r0 := blk_frozen 0 bq
        have w1 := blk_cell (j := 1) bs
        simp only [List.getElem?_toArray, List.getElem?_cons_zero, List.getElem?_cons_succ] at w1
        have q1 := blk_cell (j := 1) bq
        simp only [List.getElem?_toArray, List.getElem?_cons_zero, List.getElem?_cons_succ] at q1
        have r1 := blk_frozen 1 bq
        have w2 := blk_cell (j := 2) bs
        simp only [List.getElem?_toArray, List.getElem?_cons_zero, List.getElem?_cons_succ] at w2
        have q2 := blk_cell (j := 2) bq
        simp only [List.getElem?_toArray, List.getElem?_cons_zero, List.getElem?_cons_succ] at q2
        have r2 := blk_frozen 2 bq
        have w3 := blk_cell (j := 3) bs
        simp only [List.getElem?_toArray, List.getElem?_cons_zero, List.getElem?_cons_succ] at w3
        have q3 := blk_cell (j := 3) bq
        simp only [List.getElem?_toArray, List.getElem?_cons_zero, List.getElem?_cons_succ] at q3
        have r3 := blk_frozen 3 bq
        have w4 := blk_cell (j := 4) bs
        simp only [List.getElem?_toArray, List.getElem?_cons_zero, List.getElem?_cons_succ] at w4
        have q4 := blk_cell (j := 4) bq
        simp only [List.getElem?_toArray, List.getElem?_cons_zero, List.getElem?_cons_succ] at q4
        have r4 := blk_frozen 4 bq
        go_wp2_with fail
        clear w0 q0 r0 w1 q1 r1 w2 q2 r2 w3 q3 r3 w4 q4 r4
        replace hL0 := OwnL.keeps (O := Sc.OSlo) (t := 69) Sc.olSlo hL0 (Keeps.set (p := ⟨w.heap.size, 0, none⟩) (v := .slice A0 L0.length c0) bq (by decide)) (Keeps.set (p := ⟨w.heap.size, 0, none⟩) (v := .slice A0 L0.length c0) bq (by decide))
        replace hL1 := OwnL.keeps (O := Sc.ORoo) (t := 53) Sc.olRoo hL1 (Keeps.set (p := ⟨w.heap.size, 0, none⟩) (v := .slice A0 L0.length c0) bq (by decide)) (Keeps.set (p := ⟨w.heap.size, 0, none⟩) (v := .slice A0 L0.length c0) bq (by decide))
        replace hL2 := OwnL.keeps (O := Sc.OPer) (t := 57) Sc.olPer hL2 (Keeps.set (p := ⟨w.heap.size, 0, none⟩) (v := .slice A0 L0.length c0) bq (by decide)) (Keeps.set (p := ⟨w.heap.size, 0, none⟩) (v := .slice A0 L0.length c0) bq (by decide))
        replace hL3 := OwnL.keeps (O := Sc.OGro) (t := 49) Sc.olGro hL3 (Keeps.set (p := ⟨w.heap.size, 0, none⟩) (v := .slice A0 L0.length c0) bq (by decide)) (Keeps.set (p := ⟨w.heap.size, 0, none⟩) (v := .slice A0 L0.length c0) bq (by decide))
        replace hL4 := OwnL.keeps (O := Sc.OLes) (t := 59) Sc.olLes hL4 (Keeps.set (p := ⟨w.heap.size, 0, none⟩) (v := .slice A0 L0.length c0) bq (by decide)) (Keeps.set (p := ⟨w.heap.size, 0, none⟩) (v := .slice A0 L0.length c0) bq (by decide))
        replace bq := blk_set (k := 0) (.slice A0 L0.length c0) bq
        simp only [List.setIfInBounds_toArray, List.set_cons_zero, List.set_cons_succ] at bq
        replace hbt := hbt.setCell (p := ⟨w.heap.size, 0, none⟩) (Nat.le_refl _) (.slice A0 L0.length c0)
        replace hL0 := OwnL.keeps (O := Sc.OSlo) (t := 69) Sc.olSlo hL0 (Keeps.set (p := ⟨w.heap.size, 1, none⟩) (v := .slice A1 L1.length c1) bq (by decide)) (Keeps.set (p := ⟨w.heap.size, 1, none⟩) (v := .slice A1 L1.length c1) bq (by decide))
        replace hL1 := OwnL.keeps (O := Sc.ORoo) (t := 53) Sc.olRoo hL1 (Keeps.set (p := ⟨w.heap.size, 1, none⟩) (v := .slice A1 L1.length c1) bq (by decide)) (Keeps.set (p := ⟨w.heap.size, 1, none⟩) (v := .slice A1 L1.length c1) bq (by decide))
        replace hL2 := OwnL.keeps (O := Sc.OPer) (t := 57) Sc.olPer hL2 (Keeps.set (p := ⟨w.heap.size, 1, none⟩) (v := .slice A1 L1.length c1) bq (by decide)) (Keeps.set (p := ⟨w.heap.size, 1, none⟩) (v := .slice A1 L1.length c1) bq (by decide))
        replace hL3 := OwnL.keeps (O := Sc.OGro) (t := 49) Sc.olGro hL3 (Keeps.set (p := ⟨w.heap.size, 1, none⟩) (v := .slice A1 L1.length c1) bq (by decide)) (Keeps.set (p := ⟨w.heap.size, 1, none⟩) (v := .slice A1 L1.length c1) bq (by decide))
        replace hL4 := OwnL.keeps (O := Sc.OLes) (t := 59) Sc.olLes hL4 (Keeps.set (p := ⟨w.heap.size, 1, none⟩) (v := .slice A1 L1.length c1) bq (by decide)) (Keeps.set (p := ⟨w.heap.size, 1, none⟩) (v := .slice A1 L1.length c1) bq (by decide))
        replace bq := blk_set (k := 1) (.slice A1 L1.length c1) bq
        simp only [List.setIfInBounds_toArray, List.set_cons_zero, List.set_cons_succ] at bq
        replace hbt := hbt.setCell (p := ⟨w.heap.size, 1, none⟩) (Nat.le_refl _) (.slice A1 L1.length c1)
        replace hL0 := OwnL.keeps (O := Sc.OSlo) (t := 69) Sc.olSlo hL0 (Keeps.set (p := ⟨w.heap.size, 2, none⟩) (v := .slice A2 L2.length c2) bq (by decide)) (Keeps.set (p := ⟨w.heap.size, 2, none⟩) (v := .slice A2 L2.length c2) bq (by decide))
        replace hL1 := OwnL.keeps (O := Sc.ORoo) (t := 53) Sc.olRoo hL1 (Keeps.set (p := ⟨w.heap.size, 2, none⟩) (v := .slice A2 L2.length c2) bq (by decide)) (Keeps.set (p := ⟨w.heap.size, 2, none⟩) (v := .slice A2 L2.length c2) bq (by decide))
        replace hL2 := OwnL.keeps (O := Sc.OPer) (t := 57) Sc.olPer hL2 (Keeps.set (p := ⟨w.heap.size, 2, none⟩) (v := .slice A2 L2.length c2) bq (by decide)) (Keeps.set (p := ⟨w.heap.size, 2, none⟩) (v := .slice A2 L2.length c2) bq (by decide))
        replace hL3 := OwnL.keeps (O := Sc.OGro) (t := 49) Sc.olGro hL3 (Keeps.set (p := ⟨w.heap.size, 2, none⟩) (v := .slice A2 L2.length c2) bq (by decide)) (Keeps.set (p := ⟨w.heap.size, 2, none⟩) (v := .slice A2 L2.length c2) bq (by decide))
        replace hL4 := OwnL.keeps (O := Sc.OLes) (t := 59) Sc.olLes hL4 (Keeps.set (p := ⟨w.heap.size, 2, none⟩) (v := .slice A2 L2.length c2) bq (by decide)) (Keeps.set (p := ⟨w.heap.size, 2, none⟩) (v := .slice A2 L2.length c2) bq (by decide))
        replace bq := blk_set (k := 2) (.slice A2 L2.length c2) bq
        simp only [List.setIfInBounds_toArray, List.set_cons_zero, List.set_cons_succ] at bq
        replace hbt := hbt.setCell (p := ⟨w.heap.size, 2, none⟩) (Nat.le_refl _) (.slice A2 L2.length c2)
        replace hL0 := OwnL.keeps (O := Sc.OSlo) (t := 69) Sc.olSlo hL0 (Keeps.set (p := ⟨w.heap.size, 3, none⟩) (v := .slice A3 L3.length c3) bq (by decide)) (Keeps.set (p := ⟨w.heap.size, 3, none⟩) (v := .slice A3 L3.length c3) bq (by decide))
        replace hL1 := OwnL.keeps (O := Sc.ORoo) (t := 53) Sc.olRoo hL1 (Keeps.set (p := ⟨w.heap.size, 3, none⟩) (v := .slice A3 L3.length c3) bq (by decide)) (Keeps.set (p := ⟨w.heap.size, 3, none⟩) (v := .slice A3 L3.length c3) bq (by decide))
        replace hL2 := OwnL.keeps (O := Sc.OPer) (t := 57) Sc.olPer hL2 (Keeps.set (p := ⟨w.heap.size, 3, none⟩) (v := .slice A3 L3.length c3) bq (by decide)) (Keeps.set (p := ⟨w.heap.size, 3, none⟩) (v := .slice A3 L3.length c3) bq (by decide))
        replace hL3 := OwnL.keeps (O := Sc.OGro) (t := 49) Sc.olGro hL3 (Keeps.set (p := ⟨w.heap.size, 3, none⟩) (v := .slice A3 L3.length c3) bq (by decide)) (Keeps.set (p := ⟨w.heap.size, 3, none⟩) (v := .slice A3 L3.length c3) bq (by decide))
        replace hL4 := OwnL.keeps (O := Sc.OLes) (t := 59) Sc.olLes hL4 (Keeps.set (p := ⟨w.heap.size, 3, none⟩) (v := .slice A3 L3.length c3) bq (by decide)) (Keeps.set (p := ⟨w.heap.size, 3, none⟩) (v := .slice A3 L3.length c3) bq (by decide))
        replace bq := blk_set (k := 3) (.slice A3 L3.length c3) bq
        simp only [List.setIfInBounds_toArray, List.set_cons_zero, List.set_cons_succ] at bq
        replace hbt := hbt.setCell (p := ⟨w.heap.size, 3, none⟩) (Nat.le_refl _) (.slice A3 L3.length c3)
        replace hL0 := OwnL.keeps (O := Sc.OSlo) (t := 69) Sc.olSlo hL0 (Keeps.set (p := ⟨w.heap.size, 4, none⟩) (v := .slice A4 L4.length c4) bq (by decide)) (Keeps.set (p := ⟨w.heap.size, 4, none⟩) (v := .slice A4 L4.length c4) bq (by decide))
        replace hL1 := OwnL.keeps (O := Sc.ORoo) (t := 53) Sc.olRoo hL1 (Keeps.set (p := ⟨w.heap.size, 4, none⟩) (v := .slice A4 L4.length c4) bq (by decide)) (Keeps.set (p := ⟨w.heap.size, 4, none⟩) (v := .slice A4 L4.length c4) bq (by decide))
        replace hL2 := OwnL.keeps (O := Sc.OPer) (t := 57) Sc.olPer hL2 (Keeps.set (p := ⟨w.heap.size, 4, none⟩) (v := .slice A4 L4.length c4) bq (by decide)) (Keeps.set (p := ⟨w.heap.size, 4, none⟩) (v := .slice A4 L4.length c4) bq (by decide))
        replace hL3 := OwnL.keeps (O := Sc.OGro) (t := 49) Sc.olGro hL3 (Keeps.set (p := ⟨w.heap.size, 4, none⟩) (v := .slice A4 L4.length c4) bq (by decide)) (Keeps.set (p := ⟨w.heap.size, 4, none⟩) (v := .slice A4 L4.length c4) bq (by decide))
        replace hL4 := OwnL.keeps (O := Sc.OLes) (t := 59) Sc.olLes hL4 (Keeps.set (p := ⟨w.heap.size, 4, none⟩) (v := .slice A4 L4.length c4) bq (by decide)) (Keeps.set (p := ⟨w.heap.size, 4, none⟩) (v := .slice A4 L4.length c4) bq (by decide))
        replace bq := blk_set (k := 4) (.slice A4 L4.length c4) bq
        simp only [List.setIfInBounds_toArray, List.set_cons_zero, List.set_cons_succ] at bq
        replace hbt := hbt.setCell (p := ⟨w.heap.size, 4, none⟩) (Nat.le_refl _) (.slice A4 L4.length c4)
        obtain ⟨Aq0, cq0, eq0, hr0⟩ := OwnL.rd (R := Sc.RSlo) hL0 (fun x r hx h => Sc.rdSlo (HOK0.out x hx) h)
        injection eq0 with eqa0 _ eqb0
        subst eqa0 eqb0
        obtain ⟨Aq1, cq1, eq1, hr1⟩ := OwnL.rd (R := Sc.RRoo) hL1 (fun x r hx h => Sc.rdRoo (HOK1.out x hx) h)
        injection eq1 with eqa1 _ eqb1
        subst eqa1 eqb1
        obtain ⟨Aq2, cq2, eq2, hr2⟩ := OwnL.rd (R := Sc.RPer) hL2 (fun x r hx h => Sc.rdPer (HOK2.out x hx) h)
        injection eq2 with eqa2 _ eqb2
        subst eqa2 eqb2
        obtain ⟨Aq3, cq3, eq3, hr3⟩ := OwnL.rd (R := Sc.RGro) hL3 (fun x r hx h => Sc.rdGro (HOK3.out x hx) h)
        injection eq3 with eqa3 _ eqb3
        subst eqa3 eqb3
        obtain ⟨Aq4, cq4, eq4, hr4⟩ := OwnL.rd (R := Sc.RLes) hL4 (fun x r hx h => Sc.rdLes (HOK4.out x hx) h)
        injection eq4 with eqa4 _ eqb4
        subst eqa4 eqb4
        have hS : Sc.RdSch _ _ ⟨A0, L0.length, c0, A1, L1.length, c1, A2, L2.length, c2, A3, L3.length, c3, A4, L4.length, c4⟩ ⟨L0, L1, L2, L3, L4⟩ := ⟨hr0, hr1, hr2, hr3, hr4⟩
        clear hr0 hr1 hr2 hr3 hr4
        refine bodyPost_ret (results_cell_row2 Tryz.results22 _ _ (w.heap.size) 28 #[.slice A0 L0.length c0, .slice A1 L1.length c1, .slice A2 L2.length c2, .slice A3 L3.length c3, .slice A4 L4.length c4] (0, 0) _ rfl bq Tryz.underlying28 rfl infoSch) rfl ?_
        rw [HC.out]
        exact ⟨⟨A0, L0.length, c0, A1, L1.length, c1, A2, L2.length, c2, A3, L3.length, c3, A4, L4.length, c4⟩, rfl, hS, hbt⟩

end Go.Proofs.YtfockoihmoljfaaGreatDoor
