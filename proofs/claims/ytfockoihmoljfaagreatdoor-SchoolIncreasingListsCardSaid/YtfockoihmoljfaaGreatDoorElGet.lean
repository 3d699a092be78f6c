/-
  The walks of the closures that decode one element.
-/
import Derived.Test.YtfockoihmoljfaaGreatDoorTake3
import Derived.Test.YtfockoihmoljfaaGreatDoorLotC
import Derived.Test.YtfockoihmoljfaaGreatDoorLotA
namespace Go.Proofs.YtfockoihmoljfaaGreatDoor
open Go.RowKit Go.Shelf
set_option linter.unusedVariables false
set_option linter.unusedSimpArgs false

theorem infoSlo : (Tryz.prog.info? 69).map (·.size) = some 3 := by kernel_rfl
theorem infoRoo : (Tryz.prog.info? 53).map (·.size) = some 4 := by kernel_rfl
theorem infoPer : (Tryz.prog.info? 57).map (·.size) = some 2 := by kernel_rfl
theorem infoGro : (Tryz.prog.info? 49).map (·.size) = some 2 := by kernel_rfl
theorem infoLes : (Tryz.prog.info? 59).map (·.size) = some 3 := by kernel_rfl

set_option maxRecDepth 100000 in
set_option maxHeartbeats 4000000 in
theorem sGet1_any (bP bR : Nat) (A : Option Addr) (m c : Nat) (l : List UInt8) (at_ er : Int) (w : World) (bp : w.heap[bP]? = some (.cells #[.pointer (some ⟨bR, 0, none⟩)] 94)) (b : w.heap[bR]? = some (.cells #[.slice A m c, .int .i64 at_, .int .i64 er] 96)) (B0 : Nat) (hB : B0 ≤ bR) (h : RdB w B0 A m c l) (ha : okI at_) (hm : m ≤ 1073741824) :
    Calls Tryz.prog 62 #[.pointer (some ⟨bP, 0, none⟩)] w fun e w' => e = .returned (.agg #[.string (strOf (Sc.rSlo l (at_, er)).1.name), .int .i64 (Sc.rSlo l (at_, er)).1.day, .int .i64 (Sc.rSlo l (at_, er)).1.hour]) ∧ w'.heap[bR]? = some (.cells #[.slice A m c, .int .i64 (Sc.rSlo l (at_, er)).2.1, .int .i64 (Sc.rSlo l (at_, er)).2.2] 96) ∧ w.grownBy w' (some bR) := by
  have hlen : l.length ≤ 1073741824 := by rw [h.len]; exact hm
  have hbR := blk_lt b
  have hbP := blk_lt bp
  have hne : bP ≠ bR := fun e => by rw [e, b] at bp; cases bp
  have hg := World.grownBy.refl w (some bR)
  obtain ⟨V1, hV⟩ : ∃ V1, V1 = w.alloc (.cells #[.string ⟨#[]⟩, .int .i64 0, .int .i64 0] 69) := ⟨_, rfl⟩
  have bq := blk_new hV
  have hb := below_new hV
  have HV := Lib.hid hV.symm
  clear hV
  replace bp := blk_below bp hb
  replace b := blk_below b hb
  replace h := h.below (hb.mono (by omega))
  replace hg : w.grownBy V1 (some bR) := grown_of_below hb
  have hsz := hb.size
  clear hb
  go_enter Tryz.func62, Tryz.ntmps62
  go_wp2_with fail
  rw [HV.out]
  clear HV
  have hX : ¬ (bP = bR ∨ bP = w.heap.size) := by omega
  refine wp_region_fixX (fun q => q = bR ∨ q = w.heap.size) [0, 2, 4] (.one [] 1 (.one [] 3 (.one [] 5 (.one [] 6 (.one [] 7 (.fin [])))))) (by kernel_rfl) (by kernel_rfl) ?_
  intro wd hszd hb
  clear hszd
  replace bp := blk_below bp hb
  replace b := blk_below b hb
  replace bq := blk_below bq hb
  replace h := h.below (hb.mono (by omega))
  replace hg : w.grownBy wd (some bR) := grown_trans hg (grown_of_below hb)
  replace hsz := Nat.le_trans hsz hb.size
  clear hb
  have e0 : ∀ x : ExtX (fun q => q = bR ∨ q = w.heap.size) wd, x.val.cell? ⟨bP, 0, none⟩ = some (.pointer (some ⟨bR, 0, none⟩)) := fun x => (blk_cell (x.blk bp hX)).trans rfl
  simp only [pick, List.map_cons, List.map_nil, List.getD_cons_zero, List.getD_cons_succ]
  (repeat (go_big_quiet_step (fail)))
  refine quiet_end ?_
  clear e0
  have hD := KeepX.refl (fun q => q = bR ∨ q = w.heap.size) wd
  clear bp hX hbP hne
  obtain ⟨s0, hs0⟩ : ∃ s0 : Sc.St, s0 = (at_, er) := ⟨_, rfl⟩
  have HS0 := Lib.hid hs0
  rw [show at_ = s0.1 by rw [hs0], show er = s0.2 by rw [hs0]] at b
  replace ha : okI s0.1 := by rw [hs0]; exact ha
  clear hs0
  refine movX_call (by kernel_rfl) (fun K hK => ?_)
  go_simp
  refine (rdText_any bR A m c l s0.1 s0.2 wd b (h.more (by omega)) ha hm).mono ?_
  rintro e y0 ⟨rfl, b', hg'⟩
  have ok0 := Sc.rText_ok (l := l) (s := s0) hlen ha
  obtain ⟨R0, hR0⟩ : ∃ R, R = Sc.rText l s0 := ⟨_, rfl⟩
  rw [← hR0] at ok0
  have hE0 : Sc.rText l (s0.1, s0.2) = R0 := hR0.symm
  rw [hE0] at b' ⊢
  clear hE0
  have HR0 := Lib.hid hR0
  clear hR0
  obtain ⟨r0, s1⟩ := R0
  dsimp only at *
  replace ha := ok0.2
  replace hD := hD.grown hg' (fun g hgq => .inr (.inl (Option.some.inj hgq).symm))
  replace bq := blk_grown bq hg' (fun e => by have e := Option.some.inj e; omega)
  replace h := h.grown hg' (by omega) (fun g hgq => by cases hgq; exact hB)
  replace b := b'
  replace hsz := Nat.le_trans hsz hg'.size
  replace hg := grown_trans hg hg'
  clear b' hg'
  refine hK.out _ _ hD ?_
  clear hK K
  (try simp only [Act.put, List.setIfInBounds_toArray, List.set_cons_zero, List.set_cons_succ])
  refine movX_call (by kernel_rfl) (fun K hK => ?_)
  go_simp
  refine (rdNum_any bR A m c l s1.1 s1.2 y0 b (h.more (by omega)) ha hm).mono ?_
  rintro e y1 ⟨rfl, b', hg'⟩
  have ok1 := Sc.rNum_ok (l := l) (s := s1) hlen ha
  obtain ⟨R1, hR1⟩ : ∃ R, R = Sc.rNum l s1 := ⟨_, rfl⟩
  rw [← hR1] at ok1
  have hE1 : Sc.rNum l (s1.1, s1.2) = R1 := hR1.symm
  rw [hE1] at b' ⊢
  clear hE1
  have HR1 := Lib.hid hR1
  clear hR1
  obtain ⟨r1, s2⟩ := R1
  dsimp only at *
  replace ha := ok1.2
  replace hD := hD.grown hg' (fun g hgq => .inr (.inl (Option.some.inj hgq).symm))
  replace bq := blk_grown bq hg' (fun e => by have e := Option.some.inj e; omega)
  replace h := h.grown hg' (by omega) (fun g hgq => by cases hgq; exact hB)
  replace b := b'
  replace hsz := Nat.le_trans hsz hg'.size
  replace hg := grown_trans hg hg'
  clear b' hg'
  refine hK.out _ _ hD ?_
  clear hK K
  (try simp only [Act.put, List.setIfInBounds_toArray, List.set_cons_zero, List.set_cons_succ])
  refine movX_call (by kernel_rfl) (fun K hK => ?_)
  go_simp
  refine (rdNum_any bR A m c l s2.1 s2.2 y1 b (h.more (by omega)) ha hm).mono ?_
  rintro e y2 ⟨rfl, b', hg'⟩
  have ok2 := Sc.rNum_ok (l := l) (s := s2) hlen ha
  obtain ⟨R2, hR2⟩ : ∃ R, R = Sc.rNum l s2 := ⟨_, rfl⟩
  rw [← hR2] at ok2
  have hE2 : Sc.rNum l (s2.1, s2.2) = R2 := hR2.symm
  rw [hE2] at b' ⊢
  clear hE2
  have HR2 := Lib.hid hR2
  clear hR2
  obtain ⟨r2, s3⟩ := R2
  dsimp only at *
  replace ha := ok2.2
  replace hD := hD.grown hg' (fun g hgq => .inr (.inl (Option.some.inj hgq).symm))
  replace bq := blk_grown bq hg' (fun e => by have e := Option.some.inj e; omega)
  replace h := h.grown hg' (by omega) (fun g hgq => by cases hgq; exact hB)
  replace b := b'
  replace hsz := Nat.le_trans hsz hg'.size
  replace hg := grown_trans hg hg'
  clear b' hg'
  refine hK.out _ _ hD ?_
  clear hK K
  (try simp only [Act.put, List.setIfInBounds_toArray, List.set_cons_zero, List.set_cons_succ])
  refine movX_call (by kernel_rfl) (fun K hK => ?_)
  go_simp
  refine hK.out _ _ hD ?_
  clear hK K
  (try simp only [Act.put, List.setIfInBounds_toArray, List.set_cons_zero, List.set_cons_succ])
  have HX : Hid (Sc.rSlo l (at_, er) = (⟨r0, r1, r2⟩, s3)) := by
    show _ = _
    unfold Sc.rSlo
    rw [← HS0.out]
    rw [← HR0.out]
    rw [← HR1.out]
    rw [← HR2.out]
  have z0 := blk_cell (j := 0) bq
  simp only [List.getElem?_toArray, List.getElem?_cons_zero, List.getElem?_cons_succ] at z0
  have f0 := blk_frozen 0 bq
  have z1 := blk_cell (j := 1) bq
  simp only [List.getElem?_toArray, List.getElem?_cons_zero, List.getElem?_cons_succ] at z1
  have f1 := blk_frozen 1 bq
  have z2 := blk_cell (j := 2) bq
  simp only [List.getElem?_toArray, List.getElem?_cons_zero, List.getElem?_cons_succ] at z2
  have f2 := blk_frozen 2 bq
  refine movX_call (by kernel_rfl) (fun K hK => ?_)
  go_simp
  replace hD := hD.set (p := ⟨w.heap.size, 0, none⟩) (v := .string (strOf r0)) (.inr (.inr rfl))
  replace b := blk_other (p := ⟨w.heap.size, 0, none⟩) (.string (strOf r0)) b (by dsimp only; omega)
  replace bq := blk_set (k := 0) (.string (strOf r0)) bq
  simp only [List.setIfInBounds_toArray, List.set_cons_zero, List.set_cons_succ] at bq
  replace hg := grown_set_new (p := ⟨w.heap.size, 0, none⟩) (v := .string (strOf r0)) hg (Nat.le_refl _)
  replace hD := hD.set (p := ⟨w.heap.size, 1, none⟩) (v := .int .i64 r1) (.inr (.inr rfl))
  replace b := blk_other (p := ⟨w.heap.size, 1, none⟩) (.int .i64 r1) b (by dsimp only; omega)
  replace bq := blk_set (k := 1) (.int .i64 r1) bq
  simp only [List.setIfInBounds_toArray, List.set_cons_zero, List.set_cons_succ] at bq
  replace hg := grown_set_new (p := ⟨w.heap.size, 1, none⟩) (v := .int .i64 r1) hg (Nat.le_refl _)
  replace hD := hD.set (p := ⟨w.heap.size, 2, none⟩) (v := .int .i64 r2) (.inr (.inr rfl))
  replace b := blk_other (p := ⟨w.heap.size, 2, none⟩) (.int .i64 r2) b (by dsimp only; omega)
  replace bq := blk_set (k := 2) (.int .i64 r2) bq
  simp only [List.setIfInBounds_toArray, List.set_cons_zero, List.set_cons_succ] at bq
  replace hg := grown_set_new (p := ⟨w.heap.size, 2, none⟩) (v := .int .i64 r2) hg (Nat.le_refl _)
  clear z0 f0 z1 f1 z2 f2
  refine hK.out _ _ hD ?_
  clear hK K hD
  (try simp only [Act.put, List.setIfInBounds_toArray, List.set_cons_zero, List.set_cons_succ])
  refine fixX_fin ?_
  generalize hXW : World.setCell (World.setCell (World.setCell (y2) ⟨w.heap.size, 0, none⟩ (.string (strOf r0))) ⟨w.heap.size, 1, none⟩ (.int .i64 r1)) ⟨w.heap.size, 2, none⟩ (.int .i64 r2) = XW at *
  clear hXW
  have z0 := blk_cell (j := 0) bq
  simp only [List.getElem?_toArray, List.getElem?_cons_zero, List.getElem?_cons_succ] at z0
  have z1 := blk_cell (j := 1) bq
  simp only [List.getElem?_toArray, List.getElem?_cons_zero, List.getElem?_cons_succ] at z1
  have z2 := blk_cell (j := 2) bq
  simp only [List.getElem?_toArray, List.getElem?_cons_zero, List.getElem?_cons_succ] at z2
  go_wp2_with fail
  refine bodyPost_ret (results_cell_row rfl _ _ w.heap.size 69 #[.string (strOf r0), .int .i64 r1, .int .i64 r2] (0, 0) _ rfl bq Tryz.underlying69 rfl infoSlo) rfl ?_
  rw [HX.out]
  exact ⟨rfl, b, hg⟩

set_option maxRecDepth 100000 in
set_option maxHeartbeats 4000000 in
theorem sGet2_any (bP bR : Nat) (A : Option Addr) (m c : Nat) (l : List UInt8) (at_ er : Int) (w : World) (bp : w.heap[bP]? = some (.cells #[.pointer (some ⟨bR, 0, none⟩)] 94)) (b : w.heap[bR]? = some (.cells #[.slice A m c, .int .i64 at_, .int .i64 er] 96)) (B0 : Nat) (hB : B0 ≤ bR) (h : RdB w B0 A m c l) (ha : okI at_) (hm : m ≤ 1073741824) :
    Calls Tryz.prog 66 #[.pointer (some ⟨bP, 0, none⟩)] w fun e w' => ∃ u3, e = .returned (.agg #[.string (strOf (Sc.rRoo l (at_, er)).1.name), .int .i64 (Sc.rRoo l (at_, er)).1.house, .int .i64 (Sc.rRoo l (at_, er)).1.seats, u3]) ∧ w'.ownsRow w.heap.size 3 1 u3 (Sc.rRoo l (at_, er)).1.shut.length (iv (Sc.rRoo l (at_, er)).1.shut) ∧ w'.heap[bR]? = some (.cells #[.slice A m c, .int .i64 (Sc.rRoo l (at_, er)).2.1, .int .i64 (Sc.rRoo l (at_, er)).2.2] 96) ∧ w.grownBy w' (some bR) := by
  have hlen : l.length ≤ 1073741824 := by rw [h.len]; exact hm
  have hbR := blk_lt b
  have hbP := blk_lt bp
  have hne : bP ≠ bR := fun e => by rw [e, b] at bp; cases bp
  have hg := World.grownBy.refl w (some bR)
  obtain ⟨V1, hV⟩ : ∃ V1, V1 = w.alloc (.cells #[.string ⟨#[]⟩, .int .i64 0, .int .i64 0, .slice none 0 0] 53) := ⟨_, rfl⟩
  have bq := blk_new hV
  have hb := below_new hV
  have HV := Lib.hid hV.symm
  clear hV
  replace bp := blk_below bp hb
  replace b := blk_below b hb
  replace h := h.below (hb.mono (by omega))
  replace hg : w.grownBy V1 (some bR) := grown_of_below hb
  have hsz := hb.size
  clear hb
  go_enter Tryz.func66, Tryz.ntmps66
  go_wp2_with fail
  rw [HV.out]
  clear HV
  have hX : ¬ (bP = bR ∨ bP = w.heap.size) := by omega
  refine wp_region_fixX (fun q => q = bR ∨ q = w.heap.size) [0, 2, 4, 6] (.one [] 1 (.one [] 3 (.one [] 5 (.one [] 7 (.one [] 8 (.one [] 9 (.fin []))))))) (by kernel_rfl) (by kernel_rfl) ?_
  intro wd hszd hb
  clear hszd
  replace bp := blk_below bp hb
  replace b := blk_below b hb
  replace bq := blk_below bq hb
  replace h := h.below (hb.mono (by omega))
  replace hg : w.grownBy wd (some bR) := grown_trans hg (grown_of_below hb)
  replace hsz := Nat.le_trans hsz hb.size
  clear hb
  have e0 : ∀ x : ExtX (fun q => q = bR ∨ q = w.heap.size) wd, x.val.cell? ⟨bP, 0, none⟩ = some (.pointer (some ⟨bR, 0, none⟩)) := fun x => (blk_cell (x.blk bp hX)).trans rfl
  simp only [pick, List.map_cons, List.map_nil, List.getD_cons_zero, List.getD_cons_succ]
  (repeat (go_big_quiet_step (fail)))
  refine quiet_end ?_
  clear e0
  have hD := KeepX.refl (fun q => q = bR ∨ q = w.heap.size) wd
  clear bp hX hbP hne
  obtain ⟨s0, hs0⟩ : ∃ s0 : Sc.St, s0 = (at_, er) := ⟨_, rfl⟩
  have HS0 := Lib.hid hs0
  rw [show at_ = s0.1 by rw [hs0], show er = s0.2 by rw [hs0]] at b
  replace ha : okI s0.1 := by rw [hs0]; exact ha
  clear hs0
  refine movX_call (by kernel_rfl) (fun K hK => ?_)
  go_simp
  refine (rdText_any bR A m c l s0.1 s0.2 wd b (h.more (by omega)) ha hm).mono ?_
  rintro e y0 ⟨rfl, b', hg'⟩
  have ok0 := Sc.rText_ok (l := l) (s := s0) hlen ha
  obtain ⟨R0, hR0⟩ : ∃ R, R = Sc.rText l s0 := ⟨_, rfl⟩
  rw [← hR0] at ok0
  have hE0 : Sc.rText l (s0.1, s0.2) = R0 := hR0.symm
  rw [hE0] at b' ⊢
  clear hE0
  have HR0 := Lib.hid hR0
  clear hR0
  obtain ⟨r0, s1⟩ := R0
  dsimp only at *
  replace ha := ok0.2
  replace hD := hD.grown hg' (fun g hgq => .inr (.inl (Option.some.inj hgq).symm))
  replace bq := blk_grown bq hg' (fun e => by have e := Option.some.inj e; omega)
  replace h := h.grown hg' (by omega) (fun g hgq => by cases hgq; exact hB)
  replace b := b'
  replace hsz := Nat.le_trans hsz hg'.size
  replace hg := grown_trans hg hg'
  clear b' hg'
  refine hK.out _ _ hD ?_
  clear hK K
  (try simp only [Act.put, List.setIfInBounds_toArray, List.set_cons_zero, List.set_cons_succ])
  refine movX_call (by kernel_rfl) (fun K hK => ?_)
  go_simp
  refine (rdNum_any bR A m c l s1.1 s1.2 y0 b (h.more (by omega)) ha hm).mono ?_
  rintro e y1 ⟨rfl, b', hg'⟩
  have ok1 := Sc.rNum_ok (l := l) (s := s1) hlen ha
  obtain ⟨R1, hR1⟩ : ∃ R, R = Sc.rNum l s1 := ⟨_, rfl⟩
  rw [← hR1] at ok1
  have hE1 : Sc.rNum l (s1.1, s1.2) = R1 := hR1.symm
  rw [hE1] at b' ⊢
  clear hE1
  have HR1 := Lib.hid hR1
  clear hR1
  obtain ⟨r1, s2⟩ := R1
  dsimp only at *
  replace ha := ok1.2
  replace hD := hD.grown hg' (fun g hgq => .inr (.inl (Option.some.inj hgq).symm))
  replace bq := blk_grown bq hg' (fun e => by have e := Option.some.inj e; omega)
  replace h := h.grown hg' (by omega) (fun g hgq => by cases hgq; exact hB)
  replace b := b'
  replace hsz := Nat.le_trans hsz hg'.size
  replace hg := grown_trans hg hg'
  clear b' hg'
  refine hK.out _ _ hD ?_
  clear hK K
  (try simp only [Act.put, List.setIfInBounds_toArray, List.set_cons_zero, List.set_cons_succ])
  refine movX_call (by kernel_rfl) (fun K hK => ?_)
  go_simp
  refine (rdNum_any bR A m c l s2.1 s2.2 y1 b (h.more (by omega)) ha hm).mono ?_
  rintro e y2 ⟨rfl, b', hg'⟩
  have ok2 := Sc.rNum_ok (l := l) (s := s2) hlen ha
  obtain ⟨R2, hR2⟩ : ∃ R, R = Sc.rNum l s2 := ⟨_, rfl⟩
  rw [← hR2] at ok2
  have hE2 : Sc.rNum l (s2.1, s2.2) = R2 := hR2.symm
  rw [hE2] at b' ⊢
  clear hE2
  have HR2 := Lib.hid hR2
  clear hR2
  obtain ⟨r2, s3⟩ := R2
  dsimp only at *
  replace ha := ok2.2
  replace hD := hD.grown hg' (fun g hgq => .inr (.inl (Option.some.inj hgq).symm))
  replace bq := blk_grown bq hg' (fun e => by have e := Option.some.inj e; omega)
  replace h := h.grown hg' (by omega) (fun g hgq => by cases hgq; exact hB)
  replace b := b'
  replace hsz := Nat.le_trans hsz hg'.size
  replace hg := grown_trans hg hg'
  clear b' hg'
  refine hK.out _ _ hD ?_
  clear hK K
  (try simp only [Act.put, List.setIfInBounds_toArray, List.set_cons_zero, List.set_cons_succ])
  refine movX_call (by kernel_rfl) (fun K hK => ?_)
  go_simp
  refine (rdList_any bR A m c l s3.1 s3.2 y2 b (h.more (by omega)) ha hm).mono ?_
  rintro e y3 ⟨u3, rfl, ho3, b', hg'⟩
  have ok3 := Sc.rList_ok (l := l) (s := s3) hlen ha
  obtain ⟨R3, hR3⟩ : ∃ R, R = Sc.rList l s3 := ⟨_, rfl⟩
  rw [← hR3] at ok3
  have hE3 : Sc.rList l (s3.1, s3.2) = R3 := hR3.symm
  rw [hE3] at b' ho3
  clear hE3
  have HR3 := Lib.hid hR3
  clear hR3
  obtain ⟨r3, s4⟩ := R3
  dsimp only at *
  replace ha := ok3.2.2
  replace hD := hD.grown hg' (fun g hgq => .inr (.inl (Option.some.inj hgq).symm))
  replace bq := blk_grown bq hg' (fun e => by have e := Option.some.inj e; omega)
  replace h := h.grown hg' (by omega) (fun g hgq => by cases hgq; exact hB)
  replace ho3 := own_mono ho3 hsz
  obtain ⟨Au3, cu3, rfl, _⟩ := own_rd ho3
  replace b := b'
  replace hsz := Nat.le_trans hsz hg'.size
  replace hg := grown_trans hg hg'
  clear b' hg'
  refine hK.out _ _ hD ?_
  clear hK K
  (try simp only [Act.put, List.setIfInBounds_toArray, List.set_cons_zero, List.set_cons_succ])
  refine movX_call (by kernel_rfl) (fun K hK => ?_)
  go_simp
  refine hK.out _ _ hD ?_
  clear hK K
  (try simp only [Act.put, List.setIfInBounds_toArray, List.set_cons_zero, List.set_cons_succ])
  have HX : Hid (Sc.rRoo l (at_, er) = (⟨r0, r1, r2, r3⟩, s4)) := by
    show _ = _
    unfold Sc.rRoo
    rw [← HS0.out]
    rw [← HR0.out]
    rw [← HR1.out]
    rw [← HR2.out]
    rw [← HR3.out]
  have z0 := blk_cell (j := 0) bq
  simp only [List.getElem?_toArray, List.getElem?_cons_zero, List.getElem?_cons_succ] at z0
  have f0 := blk_frozen 0 bq
  have z1 := blk_cell (j := 1) bq
  simp only [List.getElem?_toArray, List.getElem?_cons_zero, List.getElem?_cons_succ] at z1
  have f1 := blk_frozen 1 bq
  have z2 := blk_cell (j := 2) bq
  simp only [List.getElem?_toArray, List.getElem?_cons_zero, List.getElem?_cons_succ] at z2
  have f2 := blk_frozen 2 bq
  have z3 := blk_cell (j := 3) bq
  simp only [List.getElem?_toArray, List.getElem?_cons_zero, List.getElem?_cons_succ] at z3
  have f3 := blk_frozen 3 bq
  refine movX_call (by kernel_rfl) (fun K hK => ?_)
  go_simp
  replace hD := hD.set (p := ⟨w.heap.size, 0, none⟩) (v := .string (strOf r0)) (.inr (.inr rfl))
  replace ho3 := own_set (p := ⟨w.heap.size, 0, none⟩) (u := .string (strOf r0)) ho3 (own_blk_ne ho3 bq (by decide))
  replace b := blk_other (p := ⟨w.heap.size, 0, none⟩) (.string (strOf r0)) b (by dsimp only; omega)
  replace bq := blk_set (k := 0) (.string (strOf r0)) bq
  simp only [List.setIfInBounds_toArray, List.set_cons_zero, List.set_cons_succ] at bq
  replace hg := grown_set_new (p := ⟨w.heap.size, 0, none⟩) (v := .string (strOf r0)) hg (Nat.le_refl _)
  replace hD := hD.set (p := ⟨w.heap.size, 1, none⟩) (v := .int .i64 r1) (.inr (.inr rfl))
  replace ho3 := own_set (p := ⟨w.heap.size, 1, none⟩) (u := .int .i64 r1) ho3 (own_blk_ne ho3 bq (by decide))
  replace b := blk_other (p := ⟨w.heap.size, 1, none⟩) (.int .i64 r1) b (by dsimp only; omega)
  replace bq := blk_set (k := 1) (.int .i64 r1) bq
  simp only [List.setIfInBounds_toArray, List.set_cons_zero, List.set_cons_succ] at bq
  replace hg := grown_set_new (p := ⟨w.heap.size, 1, none⟩) (v := .int .i64 r1) hg (Nat.le_refl _)
  replace hD := hD.set (p := ⟨w.heap.size, 2, none⟩) (v := .int .i64 r2) (.inr (.inr rfl))
  replace ho3 := own_set (p := ⟨w.heap.size, 2, none⟩) (u := .int .i64 r2) ho3 (own_blk_ne ho3 bq (by decide))
  replace b := blk_other (p := ⟨w.heap.size, 2, none⟩) (.int .i64 r2) b (by dsimp only; omega)
  replace bq := blk_set (k := 2) (.int .i64 r2) bq
  simp only [List.setIfInBounds_toArray, List.set_cons_zero, List.set_cons_succ] at bq
  replace hg := grown_set_new (p := ⟨w.heap.size, 2, none⟩) (v := .int .i64 r2) hg (Nat.le_refl _)
  replace hD := hD.set (p := ⟨w.heap.size, 3, none⟩) (v := .slice Au3 r3.length cu3) (.inr (.inr rfl))
  replace ho3 := own_set (p := ⟨w.heap.size, 3, none⟩) (u := .slice Au3 r3.length cu3) ho3 (own_blk_ne ho3 bq (by decide))
  replace b := blk_other (p := ⟨w.heap.size, 3, none⟩) (.slice Au3 r3.length cu3) b (by dsimp only; omega)
  replace bq := blk_set (k := 3) (.slice Au3 r3.length cu3) bq
  simp only [List.setIfInBounds_toArray, List.set_cons_zero, List.set_cons_succ] at bq
  replace hg := grown_set_new (p := ⟨w.heap.size, 3, none⟩) (v := .slice Au3 r3.length cu3) hg (Nat.le_refl _)
  clear z0 f0 z1 f1 z2 f2 z3 f3
  refine hK.out _ _ hD ?_
  clear hK K hD
  (try simp only [Act.put, List.setIfInBounds_toArray, List.set_cons_zero, List.set_cons_succ])
  refine fixX_fin ?_
  generalize hXW : World.setCell (World.setCell (World.setCell (World.setCell (y3) ⟨w.heap.size, 0, none⟩ (.string (strOf r0))) ⟨w.heap.size, 1, none⟩ (.int .i64 r1)) ⟨w.heap.size, 2, none⟩ (.int .i64 r2)) ⟨w.heap.size, 3, none⟩ (.slice Au3 r3.length cu3) = XW at *
  clear hXW
  have z0 := blk_cell (j := 0) bq
  simp only [List.getElem?_toArray, List.getElem?_cons_zero, List.getElem?_cons_succ] at z0
  have z1 := blk_cell (j := 1) bq
  simp only [List.getElem?_toArray, List.getElem?_cons_zero, List.getElem?_cons_succ] at z1
  have z2 := blk_cell (j := 2) bq
  simp only [List.getElem?_toArray, List.getElem?_cons_zero, List.getElem?_cons_succ] at z2
  have z3 := blk_cell (j := 3) bq
  simp only [List.getElem?_toArray, List.getElem?_cons_zero, List.getElem?_cons_succ] at z3
  go_wp2_with fail
  refine bodyPost_ret (results_cell_row rfl _ _ w.heap.size 53 #[.string (strOf r0), .int .i64 r1, .int .i64 r2, .slice Au3 r3.length cu3] (0, 0) _ rfl bq Tryz.underlying53 rfl infoRoo) rfl ?_
  rw [HX.out]
  exact ⟨.slice Au3 r3.length cu3, rfl, ho3, b, hg⟩

set_option maxRecDepth 100000 in
set_option maxHeartbeats 4000000 in
theorem sGet3_any (bP bR : Nat) (A : Option Addr) (m c : Nat) (l : List UInt8) (at_ er : Int) (w : World) (bp : w.heap[bP]? = some (.cells #[.pointer (some ⟨bR, 0, none⟩)] 94)) (b : w.heap[bR]? = some (.cells #[.slice A m c, .int .i64 at_, .int .i64 er] 96)) (B0 : Nat) (hB : B0 ≤ bR) (h : RdB w B0 A m c l) (ha : okI at_) (hm : m ≤ 1073741824) :
    Calls Tryz.prog 69 #[.pointer (some ⟨bP, 0, none⟩)] w fun e w' => ∃ u1, e = .returned (.agg #[.string (strOf (Sc.rPer l (at_, er)).1.name), u1]) ∧ w'.ownsRow w.heap.size 3 1 u1 (Sc.rPer l (at_, er)).1.away.length (iv (Sc.rPer l (at_, er)).1.away) ∧ w'.heap[bR]? = some (.cells #[.slice A m c, .int .i64 (Sc.rPer l (at_, er)).2.1, .int .i64 (Sc.rPer l (at_, er)).2.2] 96) ∧ w.grownBy w' (some bR) := by
  have hlen : l.length ≤ 1073741824 := by rw [h.len]; exact hm
  have hbR := blk_lt b
  have hbP := blk_lt bp
  have hne : bP ≠ bR := fun e => by rw [e, b] at bp; cases bp
  have hg := World.grownBy.refl w (some bR)
  obtain ⟨V1, hV⟩ : ∃ V1, V1 = w.alloc (.cells #[.string ⟨#[]⟩, .slice none 0 0] 57) := ⟨_, rfl⟩
  have bq := blk_new hV
  have hb := below_new hV
  have HV := Lib.hid hV.symm
  clear hV
  replace bp := blk_below bp hb
  replace b := blk_below b hb
  replace h := h.below (hb.mono (by omega))
  replace hg : w.grownBy V1 (some bR) := grown_of_below hb
  have hsz := hb.size
  clear hb
  go_enter Tryz.func69, Tryz.ntmps69
  go_wp2_with fail
  rw [HV.out]
  clear HV
  have hX : ¬ (bP = bR ∨ bP = w.heap.size) := by omega
  refine wp_region_fixX (fun q => q = bR ∨ q = w.heap.size) [0, 2] (.one [] 1 (.one [] 3 (.one [] 4 (.one [] 5 (.fin []))))) (by kernel_rfl) (by kernel_rfl) ?_
  intro wd hszd hb
  clear hszd
  replace bp := blk_below bp hb
  replace b := blk_below b hb
  replace bq := blk_below bq hb
  replace h := h.below (hb.mono (by omega))
  replace hg : w.grownBy wd (some bR) := grown_trans hg (grown_of_below hb)
  replace hsz := Nat.le_trans hsz hb.size
  clear hb
  have e0 : ∀ x : ExtX (fun q => q = bR ∨ q = w.heap.size) wd, x.val.cell? ⟨bP, 0, none⟩ = some (.pointer (some ⟨bR, 0, none⟩)) := fun x => (blk_cell (x.blk bp hX)).trans rfl
  simp only [pick, List.map_cons, List.map_nil, List.getD_cons_zero, List.getD_cons_succ]
  (repeat (go_big_quiet_step (fail)))
  refine quiet_end ?_
  clear e0
  have hD := KeepX.refl (fun q => q = bR ∨ q = w.heap.size) wd
  clear bp hX hbP hne
  obtain ⟨s0, hs0⟩ : ∃ s0 : Sc.St, s0 = (at_, er) := ⟨_, rfl⟩
  have HS0 := Lib.hid hs0
  rw [show at_ = s0.1 by rw [hs0], show er = s0.2 by rw [hs0]] at b
  replace ha : okI s0.1 := by rw [hs0]; exact ha
  clear hs0
  refine movX_call (by kernel_rfl) (fun K hK => ?_)
  go_simp
  refine (rdText_any bR A m c l s0.1 s0.2 wd b (h.more (by omega)) ha hm).mono ?_
  rintro e y0 ⟨rfl, b', hg'⟩
  have ok0 := Sc.rText_ok (l := l) (s := s0) hlen ha
  obtain ⟨R0, hR0⟩ : ∃ R, R = Sc.rText l s0 := ⟨_, rfl⟩
  rw [← hR0] at ok0
  have hE0 : Sc.rText l (s0.1, s0.2) = R0 := hR0.symm
  rw [hE0] at b' ⊢
  clear hE0
  have HR0 := Lib.hid hR0
  clear hR0
  obtain ⟨r0, s1⟩ := R0
  dsimp only at *
  replace ha := ok0.2
  replace hD := hD.grown hg' (fun g hgq => .inr (.inl (Option.some.inj hgq).symm))
  replace bq := blk_grown bq hg' (fun e => by have e := Option.some.inj e; omega)
  replace h := h.grown hg' (by omega) (fun g hgq => by cases hgq; exact hB)
  replace b := b'
  replace hsz := Nat.le_trans hsz hg'.size
  replace hg := grown_trans hg hg'
  clear b' hg'
  refine hK.out _ _ hD ?_
  clear hK K
  (try simp only [Act.put, List.setIfInBounds_toArray, List.set_cons_zero, List.set_cons_succ])
  refine movX_call (by kernel_rfl) (fun K hK => ?_)
  go_simp
  refine (rdList_any bR A m c l s1.1 s1.2 y0 b (h.more (by omega)) ha hm).mono ?_
  rintro e y1 ⟨u1, rfl, ho1, b', hg'⟩
  have ok1 := Sc.rList_ok (l := l) (s := s1) hlen ha
  obtain ⟨R1, hR1⟩ : ∃ R, R = Sc.rList l s1 := ⟨_, rfl⟩
  rw [← hR1] at ok1
  have hE1 : Sc.rList l (s1.1, s1.2) = R1 := hR1.symm
  rw [hE1] at b' ho1
  clear hE1
  have HR1 := Lib.hid hR1
  clear hR1
  obtain ⟨r1, s2⟩ := R1
  dsimp only at *
  replace ha := ok1.2.2
  replace hD := hD.grown hg' (fun g hgq => .inr (.inl (Option.some.inj hgq).symm))
  replace bq := blk_grown bq hg' (fun e => by have e := Option.some.inj e; omega)
  replace h := h.grown hg' (by omega) (fun g hgq => by cases hgq; exact hB)
  replace ho1 := own_mono ho1 hsz
  obtain ⟨Au1, cu1, rfl, _⟩ := own_rd ho1
  replace b := b'
  replace hsz := Nat.le_trans hsz hg'.size
  replace hg := grown_trans hg hg'
  clear b' hg'
  refine hK.out _ _ hD ?_
  clear hK K
  (try simp only [Act.put, List.setIfInBounds_toArray, List.set_cons_zero, List.set_cons_succ])
  refine movX_call (by kernel_rfl) (fun K hK => ?_)
  go_simp
  refine hK.out _ _ hD ?_
  clear hK K
  (try simp only [Act.put, List.setIfInBounds_toArray, List.set_cons_zero, List.set_cons_succ])
  have HX : Hid (Sc.rPer l (at_, er) = (⟨r0, r1⟩, s2)) := by
    show _ = _
    unfold Sc.rPer
    rw [← HS0.out]
    rw [← HR0.out]
    rw [← HR1.out]
  have z0 := blk_cell (j := 0) bq
  simp only [List.getElem?_toArray, List.getElem?_cons_zero, List.getElem?_cons_succ] at z0
  have f0 := blk_frozen 0 bq
  have z1 := blk_cell (j := 1) bq
  simp only [List.getElem?_toArray, List.getElem?_cons_zero, List.getElem?_cons_succ] at z1
  have f1 := blk_frozen 1 bq
  refine movX_call (by kernel_rfl) (fun K hK => ?_)
  go_simp
  replace hD := hD.set (p := ⟨w.heap.size, 0, none⟩) (v := .string (strOf r0)) (.inr (.inr rfl))
  replace ho1 := own_set (p := ⟨w.heap.size, 0, none⟩) (u := .string (strOf r0)) ho1 (own_blk_ne ho1 bq (by decide))
  replace b := blk_other (p := ⟨w.heap.size, 0, none⟩) (.string (strOf r0)) b (by dsimp only; omega)
  replace bq := blk_set (k := 0) (.string (strOf r0)) bq
  simp only [List.setIfInBounds_toArray, List.set_cons_zero, List.set_cons_succ] at bq
  replace hg := grown_set_new (p := ⟨w.heap.size, 0, none⟩) (v := .string (strOf r0)) hg (Nat.le_refl _)
  replace hD := hD.set (p := ⟨w.heap.size, 1, none⟩) (v := .slice Au1 r1.length cu1) (.inr (.inr rfl))
  replace ho1 := own_set (p := ⟨w.heap.size, 1, none⟩) (u := .slice Au1 r1.length cu1) ho1 (own_blk_ne ho1 bq (by decide))
  replace b := blk_other (p := ⟨w.heap.size, 1, none⟩) (.slice Au1 r1.length cu1) b (by dsimp only; omega)
  replace bq := blk_set (k := 1) (.slice Au1 r1.length cu1) bq
  simp only [List.setIfInBounds_toArray, List.set_cons_zero, List.set_cons_succ] at bq
  replace hg := grown_set_new (p := ⟨w.heap.size, 1, none⟩) (v := .slice Au1 r1.length cu1) hg (Nat.le_refl _)
  clear z0 f0 z1 f1
  refine hK.out _ _ hD ?_
  clear hK K hD
  (try simp only [Act.put, List.setIfInBounds_toArray, List.set_cons_zero, List.set_cons_succ])
  refine fixX_fin ?_
  generalize hXW : World.setCell (World.setCell (y1) ⟨w.heap.size, 0, none⟩ (.string (strOf r0))) ⟨w.heap.size, 1, none⟩ (.slice Au1 r1.length cu1) = XW at *
  clear hXW
  have z0 := blk_cell (j := 0) bq
  simp only [List.getElem?_toArray, List.getElem?_cons_zero, List.getElem?_cons_succ] at z0
  have z1 := blk_cell (j := 1) bq
  simp only [List.getElem?_toArray, List.getElem?_cons_zero, List.getElem?_cons_succ] at z1
  go_wp2_with fail
  refine bodyPost_ret (results_cell_row rfl _ _ w.heap.size 57 #[.string (strOf r0), .slice Au1 r1.length cu1] (0, 0) _ rfl bq Tryz.underlying57 rfl infoPer) rfl ?_
  rw [HX.out]
  exact ⟨.slice Au1 r1.length cu1, rfl, ho1, b, hg⟩

set_option maxRecDepth 100000 in
set_option maxHeartbeats 4000000 in
theorem sGet4_any (bP bR : Nat) (A : Option Addr) (m c : Nat) (l : List UInt8) (at_ er : Int) (w : World) (bp : w.heap[bP]? = some (.cells #[.pointer (some ⟨bR, 0, none⟩)] 94)) (b : w.heap[bR]? = some (.cells #[.slice A m c, .int .i64 at_, .int .i64 er] 96)) (B0 : Nat) (hB : B0 ≤ bR) (h : RdB w B0 A m c l) (ha : okI at_) (hm : m ≤ 1073741824) :
    Calls Tryz.prog 71 #[.pointer (some ⟨bP, 0, none⟩)] w fun e w' => e = .returned (.agg #[.string (strOf (Sc.rGro l (at_, er)).1.name), .int .i64 (Sc.rGro l (at_, er)).1.size]) ∧ w'.heap[bR]? = some (.cells #[.slice A m c, .int .i64 (Sc.rGro l (at_, er)).2.1, .int .i64 (Sc.rGro l (at_, er)).2.2] 96) ∧ w.grownBy w' (some bR) := by
  have hlen : l.length ≤ 1073741824 := by rw [h.len]; exact hm
  have hbR := blk_lt b
  have hbP := blk_lt bp
  have hne : bP ≠ bR := fun e => by rw [e, b] at bp; cases bp
  have hg := World.grownBy.refl w (some bR)
  obtain ⟨V1, hV⟩ : ∃ V1, V1 = w.alloc (.cells #[.string ⟨#[]⟩, .int .i64 0] 49) := ⟨_, rfl⟩
  have bq := blk_new hV
  have hb := below_new hV
  have HV := Lib.hid hV.symm
  clear hV
  replace bp := blk_below bp hb
  replace b := blk_below b hb
  replace h := h.below (hb.mono (by omega))
  replace hg : w.grownBy V1 (some bR) := grown_of_below hb
  have hsz := hb.size
  clear hb
  go_enter Tryz.func71, Tryz.ntmps71
  go_wp2_with fail
  rw [HV.out]
  clear HV
  have hX : ¬ (bP = bR ∨ bP = w.heap.size) := by omega
  refine wp_region_fixX (fun q => q = bR ∨ q = w.heap.size) [0, 2] (.one [] 1 (.one [] 3 (.one [] 4 (.one [] 5 (.fin []))))) (by kernel_rfl) (by kernel_rfl) ?_
  intro wd hszd hb
  clear hszd
  replace bp := blk_below bp hb
  replace b := blk_below b hb
  replace bq := blk_below bq hb
  replace h := h.below (hb.mono (by omega))
  replace hg : w.grownBy wd (some bR) := grown_trans hg (grown_of_below hb)
  replace hsz := Nat.le_trans hsz hb.size
  clear hb
  have e0 : ∀ x : ExtX (fun q => q = bR ∨ q = w.heap.size) wd, x.val.cell? ⟨bP, 0, none⟩ = some (.pointer (some ⟨bR, 0, none⟩)) := fun x => (blk_cell (x.blk bp hX)).trans rfl
  simp only [pick, List.map_cons, List.map_nil, List.getD_cons_zero, List.getD_cons_succ]
  (repeat (go_big_quiet_step (fail)))
  refine quiet_end ?_
  clear e0
  have hD := KeepX.refl (fun q => q = bR ∨ q = w.heap.size) wd
  clear bp hX hbP hne
  obtain ⟨s0, hs0⟩ : ∃ s0 : Sc.St, s0 = (at_, er) := ⟨_, rfl⟩
  have HS0 := Lib.hid hs0
  rw [show at_ = s0.1 by rw [hs0], show er = s0.2 by rw [hs0]] at b
  replace ha : okI s0.1 := by rw [hs0]; exact ha
  clear hs0
  refine movX_call (by kernel_rfl) (fun K hK => ?_)
  go_simp
  refine (rdText_any bR A m c l s0.1 s0.2 wd b (h.more (by omega)) ha hm).mono ?_
  rintro e y0 ⟨rfl, b', hg'⟩
  have ok0 := Sc.rText_ok (l := l) (s := s0) hlen ha
  obtain ⟨R0, hR0⟩ : ∃ R, R = Sc.rText l s0 := ⟨_, rfl⟩
  rw [← hR0] at ok0
  have hE0 : Sc.rText l (s0.1, s0.2) = R0 := hR0.symm
  rw [hE0] at b' ⊢
  clear hE0
  have HR0 := Lib.hid hR0
  clear hR0
  obtain ⟨r0, s1⟩ := R0
  dsimp only at *
  replace ha := ok0.2
  replace hD := hD.grown hg' (fun g hgq => .inr (.inl (Option.some.inj hgq).symm))
  replace bq := blk_grown bq hg' (fun e => by have e := Option.some.inj e; omega)
  replace h := h.grown hg' (by omega) (fun g hgq => by cases hgq; exact hB)
  replace b := b'
  replace hsz := Nat.le_trans hsz hg'.size
  replace hg := grown_trans hg hg'
  clear b' hg'
  refine hK.out _ _ hD ?_
  clear hK K
  (try simp only [Act.put, List.setIfInBounds_toArray, List.set_cons_zero, List.set_cons_succ])
  refine movX_call (by kernel_rfl) (fun K hK => ?_)
  go_simp
  refine (rdNum_any bR A m c l s1.1 s1.2 y0 b (h.more (by omega)) ha hm).mono ?_
  rintro e y1 ⟨rfl, b', hg'⟩
  have ok1 := Sc.rNum_ok (l := l) (s := s1) hlen ha
  obtain ⟨R1, hR1⟩ : ∃ R, R = Sc.rNum l s1 := ⟨_, rfl⟩
  rw [← hR1] at ok1
  have hE1 : Sc.rNum l (s1.1, s1.2) = R1 := hR1.symm
  rw [hE1] at b' ⊢
  clear hE1
  have HR1 := Lib.hid hR1
  clear hR1
  obtain ⟨r1, s2⟩ := R1
  dsimp only at *
  replace ha := ok1.2
  replace hD := hD.grown hg' (fun g hgq => .inr (.inl (Option.some.inj hgq).symm))
  replace bq := blk_grown bq hg' (fun e => by have e := Option.some.inj e; omega)
  replace h := h.grown hg' (by omega) (fun g hgq => by cases hgq; exact hB)
  replace b := b'
  replace hsz := Nat.le_trans hsz hg'.size
  replace hg := grown_trans hg hg'
  clear b' hg'
  refine hK.out _ _ hD ?_
  clear hK K
  (try simp only [Act.put, List.setIfInBounds_toArray, List.set_cons_zero, List.set_cons_succ])
  refine movX_call (by kernel_rfl) (fun K hK => ?_)
  go_simp
  refine hK.out _ _ hD ?_
  clear hK K
  (try simp only [Act.put, List.setIfInBounds_toArray, List.set_cons_zero, List.set_cons_succ])
  have HX : Hid (Sc.rGro l (at_, er) = (⟨r0, r1⟩, s2)) := by
    show _ = _
    unfold Sc.rGro
    rw [← HS0.out]
    rw [← HR0.out]
    rw [← HR1.out]
  have z0 := blk_cell (j := 0) bq
  simp only [List.getElem?_toArray, List.getElem?_cons_zero, List.getElem?_cons_succ] at z0
  have f0 := blk_frozen 0 bq
  have z1 := blk_cell (j := 1) bq
  simp only [List.getElem?_toArray, List.getElem?_cons_zero, List.getElem?_cons_succ] at z1
  have f1 := blk_frozen 1 bq
  refine movX_call (by kernel_rfl) (fun K hK => ?_)
  go_simp
  replace hD := hD.set (p := ⟨w.heap.size, 0, none⟩) (v := .string (strOf r0)) (.inr (.inr rfl))
  replace b := blk_other (p := ⟨w.heap.size, 0, none⟩) (.string (strOf r0)) b (by dsimp only; omega)
  replace bq := blk_set (k := 0) (.string (strOf r0)) bq
  simp only [List.setIfInBounds_toArray, List.set_cons_zero, List.set_cons_succ] at bq
  replace hg := grown_set_new (p := ⟨w.heap.size, 0, none⟩) (v := .string (strOf r0)) hg (Nat.le_refl _)
  replace hD := hD.set (p := ⟨w.heap.size, 1, none⟩) (v := .int .i64 r1) (.inr (.inr rfl))
  replace b := blk_other (p := ⟨w.heap.size, 1, none⟩) (.int .i64 r1) b (by dsimp only; omega)
  replace bq := blk_set (k := 1) (.int .i64 r1) bq
  simp only [List.setIfInBounds_toArray, List.set_cons_zero, List.set_cons_succ] at bq
  replace hg := grown_set_new (p := ⟨w.heap.size, 1, none⟩) (v := .int .i64 r1) hg (Nat.le_refl _)
  clear z0 f0 z1 f1
  refine hK.out _ _ hD ?_
  clear hK K hD
  (try simp only [Act.put, List.setIfInBounds_toArray, List.set_cons_zero, List.set_cons_succ])
  refine fixX_fin ?_
  generalize hXW : World.setCell (World.setCell (y1) ⟨w.heap.size, 0, none⟩ (.string (strOf r0))) ⟨w.heap.size, 1, none⟩ (.int .i64 r1) = XW at *
  clear hXW
  have z0 := blk_cell (j := 0) bq
  simp only [List.getElem?_toArray, List.getElem?_cons_zero, List.getElem?_cons_succ] at z0
  have z1 := blk_cell (j := 1) bq
  simp only [List.getElem?_toArray, List.getElem?_cons_zero, List.getElem?_cons_succ] at z1
  go_wp2_with fail
  refine bodyPost_ret (results_cell_row rfl _ _ w.heap.size 49 #[.string (strOf r0), .int .i64 r1] (0, 0) _ rfl bq Tryz.underlying49 rfl infoGro) rfl ?_
  rw [HX.out]
  exact ⟨rfl, b, hg⟩

set_option maxRecDepth 100000 in
set_option maxHeartbeats 4000000 in
theorem sGet5_any (bP bR : Nat) (A : Option Addr) (m c : Nat) (l : List UInt8) (at_ er : Int) (w : World) (bp : w.heap[bP]? = some (.cells #[.pointer (some ⟨bR, 0, none⟩)] 94)) (b : w.heap[bR]? = some (.cells #[.slice A m c, .int .i64 at_, .int .i64 er] 96)) (B0 : Nat) (hB : B0 ≤ bR) (h : RdB w B0 A m c l) (ha : okI at_) (hm : m ≤ 1073741824) :
    Calls Tryz.prog 73 #[.pointer (some ⟨bP, 0, none⟩)] w fun e w' => ∃ u1, ∃ u2, e = .returned (.agg #[.string (strOf (Sc.rLes l (at_, er)).1.name), u1, u2]) ∧ w'.ownsRow w.heap.size 3 1 u1 (Sc.rLes l (at_, er)).1.who.length (iv (Sc.rLes l (at_, er)).1.who) ∧ w'.ownsRow w.heap.size 3 1 u2 (Sc.rLes l (at_, er)).1.groups.length (iv (Sc.rLes l (at_, er)).1.groups) ∧ w'.heap[bR]? = some (.cells #[.slice A m c, .int .i64 (Sc.rLes l (at_, er)).2.1, .int .i64 (Sc.rLes l (at_, er)).2.2] 96) ∧ w.grownBy w' (some bR) := by
  have hlen : l.length ≤ 1073741824 := by rw [h.len]; exact hm
  have hbR := blk_lt b
  have hbP := blk_lt bp
  have hne : bP ≠ bR := fun e => by rw [e, b] at bp; cases bp
  have hg := World.grownBy.refl w (some bR)
  obtain ⟨V1, hV⟩ : ∃ V1, V1 = w.alloc (.cells #[.string ⟨#[]⟩, .slice none 0 0, .slice none 0 0] 59) := ⟨_, rfl⟩
  have bq := blk_new hV
  have hb := below_new hV
  have HV := Lib.hid hV.symm
  clear hV
  replace bp := blk_below bp hb
  replace b := blk_below b hb
  replace h := h.below (hb.mono (by omega))
  replace hg : w.grownBy V1 (some bR) := grown_of_below hb
  have hsz := hb.size
  clear hb
  go_enter Tryz.func73, Tryz.ntmps73
  go_wp2_with fail
  rw [HV.out]
  clear HV
  have hX : ¬ (bP = bR ∨ bP = w.heap.size) := by omega
  refine wp_region_fixX (fun q => q = bR ∨ q = w.heap.size) [0, 2, 4] (.one [] 1 (.one [] 3 (.one [] 5 (.one [] 6 (.one [] 7 (.fin [])))))) (by kernel_rfl) (by kernel_rfl) ?_
  intro wd hszd hb
  clear hszd
  replace bp := blk_below bp hb
  replace b := blk_below b hb
  replace bq := blk_below bq hb
  replace h := h.below (hb.mono (by omega))
  replace hg : w.grownBy wd (some bR) := grown_trans hg (grown_of_below hb)
  replace hsz := Nat.le_trans hsz hb.size
  clear hb
  have e0 : ∀ x : ExtX (fun q => q = bR ∨ q = w.heap.size) wd, x.val.cell? ⟨bP, 0, none⟩ = some (.pointer (some ⟨bR, 0, none⟩)) := fun x => (blk_cell (x.blk bp hX)).trans rfl
  simp only [pick, List.map_cons, List.map_nil, List.getD_cons_zero, List.getD_cons_succ]
  (repeat (go_big_quiet_step (fail)))
  refine quiet_end ?_
  clear e0
  have hD := KeepX.refl (fun q => q = bR ∨ q = w.heap.size) wd
  clear bp hX hbP hne
  obtain ⟨s0, hs0⟩ : ∃ s0 : Sc.St, s0 = (at_, er) := ⟨_, rfl⟩
  have HS0 := Lib.hid hs0
  rw [show at_ = s0.1 by rw [hs0], show er = s0.2 by rw [hs0]] at b
  replace ha : okI s0.1 := by rw [hs0]; exact ha
  clear hs0
  refine movX_call (by kernel_rfl) (fun K hK => ?_)
  go_simp
  refine (rdText_any bR A m c l s0.1 s0.2 wd b (h.more (by omega)) ha hm).mono ?_
  rintro e y0 ⟨rfl, b', hg'⟩
  have ok0 := Sc.rText_ok (l := l) (s := s0) hlen ha
  obtain ⟨R0, hR0⟩ : ∃ R, R = Sc.rText l s0 := ⟨_, rfl⟩
  rw [← hR0] at ok0
  have hE0 : Sc.rText l (s0.1, s0.2) = R0 := hR0.symm
  rw [hE0] at b' ⊢
  clear hE0
  have HR0 := Lib.hid hR0
  clear hR0
  obtain ⟨r0, s1⟩ := R0
  dsimp only at *
  replace ha := ok0.2
  replace hD := hD.grown hg' (fun g hgq => .inr (.inl (Option.some.inj hgq).symm))
  replace bq := blk_grown bq hg' (fun e => by have e := Option.some.inj e; omega)
  replace h := h.grown hg' (by omega) (fun g hgq => by cases hgq; exact hB)
  replace b := b'
  replace hsz := Nat.le_trans hsz hg'.size
  replace hg := grown_trans hg hg'
  clear b' hg'
  refine hK.out _ _ hD ?_
  clear hK K
  (try simp only [Act.put, List.setIfInBounds_toArray, List.set_cons_zero, List.set_cons_succ])
  refine movX_call (by kernel_rfl) (fun K hK => ?_)
  go_simp
  refine (rdList_any bR A m c l s1.1 s1.2 y0 b (h.more (by omega)) ha hm).mono ?_
  rintro e y1 ⟨u1, rfl, ho1, b', hg'⟩
  have ok1 := Sc.rList_ok (l := l) (s := s1) hlen ha
  obtain ⟨R1, hR1⟩ : ∃ R, R = Sc.rList l s1 := ⟨_, rfl⟩
  rw [← hR1] at ok1
  have hE1 : Sc.rList l (s1.1, s1.2) = R1 := hR1.symm
  rw [hE1] at b' ho1
  clear hE1
  have HR1 := Lib.hid hR1
  clear hR1
  obtain ⟨r1, s2⟩ := R1
  dsimp only at *
  replace ha := ok1.2.2
  replace hD := hD.grown hg' (fun g hgq => .inr (.inl (Option.some.inj hgq).symm))
  replace bq := blk_grown bq hg' (fun e => by have e := Option.some.inj e; omega)
  replace h := h.grown hg' (by omega) (fun g hgq => by cases hgq; exact hB)
  replace ho1 := own_mono ho1 hsz
  obtain ⟨Au1, cu1, rfl, _⟩ := own_rd ho1
  replace b := b'
  replace hsz := Nat.le_trans hsz hg'.size
  replace hg := grown_trans hg hg'
  clear b' hg'
  refine hK.out _ _ hD ?_
  clear hK K
  (try simp only [Act.put, List.setIfInBounds_toArray, List.set_cons_zero, List.set_cons_succ])
  refine movX_call (by kernel_rfl) (fun K hK => ?_)
  go_simp
  refine (rdList_any bR A m c l s2.1 s2.2 y1 b (h.more (by omega)) ha hm).mono ?_
  rintro e y2 ⟨u2, rfl, ho2, b', hg'⟩
  have ok2 := Sc.rList_ok (l := l) (s := s2) hlen ha
  obtain ⟨R2, hR2⟩ : ∃ R, R = Sc.rList l s2 := ⟨_, rfl⟩
  rw [← hR2] at ok2
  have hE2 : Sc.rList l (s2.1, s2.2) = R2 := hR2.symm
  rw [hE2] at b' ho2
  clear hE2
  have HR2 := Lib.hid hR2
  clear hR2
  obtain ⟨r2, s3⟩ := R2
  dsimp only at *
  replace ha := ok2.2.2
  replace hD := hD.grown hg' (fun g hgq => .inr (.inl (Option.some.inj hgq).symm))
  replace bq := blk_grown bq hg' (fun e => by have e := Option.some.inj e; omega)
  replace h := h.grown hg' (by omega) (fun g hgq => by cases hgq; exact hB)
  replace ho1 := own_grown' ho1 hg' (fun g hgo e => own_blk_ne ho1 b (by decide) g hgo (Option.some.inj e).symm)
  replace ho2 := own_mono ho2 hsz
  obtain ⟨Au2, cu2, rfl, _⟩ := own_rd ho2
  replace b := b'
  replace hsz := Nat.le_trans hsz hg'.size
  replace hg := grown_trans hg hg'
  clear b' hg'
  refine hK.out _ _ hD ?_
  clear hK K
  (try simp only [Act.put, List.setIfInBounds_toArray, List.set_cons_zero, List.set_cons_succ])
  refine movX_call (by kernel_rfl) (fun K hK => ?_)
  go_simp
  refine hK.out _ _ hD ?_
  clear hK K
  (try simp only [Act.put, List.setIfInBounds_toArray, List.set_cons_zero, List.set_cons_succ])
  have HX : Hid (Sc.rLes l (at_, er) = (⟨r0, r1, r2⟩, s3)) := by
    show _ = _
    unfold Sc.rLes
    rw [← HS0.out]
    rw [← HR0.out]
    rw [← HR1.out]
    rw [← HR2.out]
  have z0 := blk_cell (j := 0) bq
  simp only [List.getElem?_toArray, List.getElem?_cons_zero, List.getElem?_cons_succ] at z0
  have f0 := blk_frozen 0 bq
  have z1 := blk_cell (j := 1) bq
  simp only [List.getElem?_toArray, List.getElem?_cons_zero, List.getElem?_cons_succ] at z1
  have f1 := blk_frozen 1 bq
  have z2 := blk_cell (j := 2) bq
  simp only [List.getElem?_toArray, List.getElem?_cons_zero, List.getElem?_cons_succ] at z2
  have f2 := blk_frozen 2 bq
  refine movX_call (by kernel_rfl) (fun K hK => ?_)
  go_simp
  replace hD := hD.set (p := ⟨w.heap.size, 0, none⟩) (v := .string (strOf r0)) (.inr (.inr rfl))
  replace ho1 := own_set (p := ⟨w.heap.size, 0, none⟩) (u := .string (strOf r0)) ho1 (own_blk_ne ho1 bq (by decide))
  replace ho2 := own_set (p := ⟨w.heap.size, 0, none⟩) (u := .string (strOf r0)) ho2 (own_blk_ne ho2 bq (by decide))
  replace b := blk_other (p := ⟨w.heap.size, 0, none⟩) (.string (strOf r0)) b (by dsimp only; omega)
  replace bq := blk_set (k := 0) (.string (strOf r0)) bq
  simp only [List.setIfInBounds_toArray, List.set_cons_zero, List.set_cons_succ] at bq
  replace hg := grown_set_new (p := ⟨w.heap.size, 0, none⟩) (v := .string (strOf r0)) hg (Nat.le_refl _)
  replace hD := hD.set (p := ⟨w.heap.size, 1, none⟩) (v := .slice Au1 r1.length cu1) (.inr (.inr rfl))
  replace ho1 := own_set (p := ⟨w.heap.size, 1, none⟩) (u := .slice Au1 r1.length cu1) ho1 (own_blk_ne ho1 bq (by decide))
  replace ho2 := own_set (p := ⟨w.heap.size, 1, none⟩) (u := .slice Au1 r1.length cu1) ho2 (own_blk_ne ho2 bq (by decide))
  replace b := blk_other (p := ⟨w.heap.size, 1, none⟩) (.slice Au1 r1.length cu1) b (by dsimp only; omega)
  replace bq := blk_set (k := 1) (.slice Au1 r1.length cu1) bq
  simp only [List.setIfInBounds_toArray, List.set_cons_zero, List.set_cons_succ] at bq
  replace hg := grown_set_new (p := ⟨w.heap.size, 1, none⟩) (v := .slice Au1 r1.length cu1) hg (Nat.le_refl _)
  replace hD := hD.set (p := ⟨w.heap.size, 2, none⟩) (v := .slice Au2 r2.length cu2) (.inr (.inr rfl))
  replace ho1 := own_set (p := ⟨w.heap.size, 2, none⟩) (u := .slice Au2 r2.length cu2) ho1 (own_blk_ne ho1 bq (by decide))
  replace ho2 := own_set (p := ⟨w.heap.size, 2, none⟩) (u := .slice Au2 r2.length cu2) ho2 (own_blk_ne ho2 bq (by decide))
  replace b := blk_other (p := ⟨w.heap.size, 2, none⟩) (.slice Au2 r2.length cu2) b (by dsimp only; omega)
  replace bq := blk_set (k := 2) (.slice Au2 r2.length cu2) bq
  simp only [List.setIfInBounds_toArray, List.set_cons_zero, List.set_cons_succ] at bq
  replace hg := grown_set_new (p := ⟨w.heap.size, 2, none⟩) (v := .slice Au2 r2.length cu2) hg (Nat.le_refl _)
  clear z0 f0 z1 f1 z2 f2
  refine hK.out _ _ hD ?_
  clear hK K hD
  (try simp only [Act.put, List.setIfInBounds_toArray, List.set_cons_zero, List.set_cons_succ])
  refine fixX_fin ?_
  generalize hXW : World.setCell (World.setCell (World.setCell (y2) ⟨w.heap.size, 0, none⟩ (.string (strOf r0))) ⟨w.heap.size, 1, none⟩ (.slice Au1 r1.length cu1)) ⟨w.heap.size, 2, none⟩ (.slice Au2 r2.length cu2) = XW at *
  clear hXW
  have z0 := blk_cell (j := 0) bq
  simp only [List.getElem?_toArray, List.getElem?_cons_zero, List.getElem?_cons_succ] at z0
  have z1 := blk_cell (j := 1) bq
  simp only [List.getElem?_toArray, List.getElem?_cons_zero, List.getElem?_cons_succ] at z1
  have z2 := blk_cell (j := 2) bq
  simp only [List.getElem?_toArray, List.getElem?_cons_zero, List.getElem?_cons_succ] at z2
  go_wp2_with fail
  refine bodyPost_ret (results_cell_row rfl _ _ w.heap.size 59 #[.string (strOf r0), .slice Au1 r1.length cu1, .slice Au2 r2.length cu2] (0, 0) _ rfl bq Tryz.underlying59 rfl infoLes) rfl ?_
  rw [HX.out]
  exact ⟨.slice Au1 r1.length cu1, .slice Au2 r2.length cu2, rfl, ho1, ho2, b, hg⟩

end Go.Proofs.YtfockoihmoljfaaGreatDoor
