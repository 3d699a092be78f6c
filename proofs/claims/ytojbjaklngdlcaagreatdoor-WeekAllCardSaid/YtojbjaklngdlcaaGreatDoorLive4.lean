/-
  The walks of the laws' two and live.
-/
import Derived.Test.YtojbjaklngdlcaaGreatDoorTwoP
import Derived.Test.YtojbjaklngdlcaaGreatDoorTrueW
import Derived.Test.YtojbjaklngdlcaaGreatDoorOfW
import Derived.Test.YtojbjaklngdlcaaGreatDoorAllW
import Derived.Test.YtojbjaklngdlcaaGreatDoorWeekW
import Derived.Test.YtojbjaklngdlcaaGreatDoorWeekG
import Derived.Test.YtojbjaklngdlcaaGreatDoorDiffW
import Derived.Test.YtojbjaklngdlcaaGreatDoorApplyW
import Derived.Lib.SliceRun
namespace Go.Proofs.YtojbjaklngdlcaaGreatDoor
open Go.RowKit Go.Shelf
set_option linter.unusedVariables false
set_option linter.unusedSimpArgs false

/-- The example's school, in new memory. -/
def TwoPost (w : World) (e : Ending) (w' : World) : Prop := ∃ f : Sc.Five, e = .returned (.agg f.vals) ∧ Sc.RdSch w' w'.heap.size f Wk.two ∧ Below w.heap.size w w'
theorem infoSchool : (Tryz.prog.info? 28).map (·.size) = some 5 := by kernel_rfl
theorem own_rdM {w : World} {base n : Nat} {v : Value} {l : List Mv} (h : w.ownsRow base 64 3 v n (mv l)) (hl : okMs l) : ∃ A c, v = .slice A n c ∧ RdM w w.heap.size A n c l := by
  obtain ⟨A, c, h1, h2⟩ := own_rdK h
  exact ⟨A, c, h1, h2, hl⟩
/-- Rows of k cells in one block. -/
theorem rdS_blk {α : Type} (k : Nat) {R : World → Nat → α → List Value → Prop} {w : World} {b : Nat} {cs : Array Value} {t : TypeId} {fr : Nat × Nat} {l : List α} {rows : List (List Value)} (h : w.heap[b]? = some (.cells cs t fr)) (hr : rows.flatten = cs.toList)
    (hl : rows.length = l.length) (hk : ∀ r ∈ rows, r.length = k) (hm : l.length ≤ 9223372036854775807) (hR : ∀ (i : Nat) (x : α) (r : List Value), l[i]? = some x → rows[i]? = some r → R w w.heap.size x r) : RdS k R w w.heap.size (some ⟨b, 0, none⟩) l.length l.length l := by
  refine ⟨rows, hl, hk, ?_, hR⟩
  rw [hr]
  refine RdK.blk k h ?_ hm
  have := flatten_len hk
  rw [hr, hl] at this
  simpa using this
theorem rows2 {α β : Type} {R : α → β → Prop} {a b : α} {c d : β} (h1 : R a c) (h2 : R b d) : ∀ (i : Nat) (x : α) (r : β), [a, b][i]? = some x → [c, d][i]? = some r → R x r := by
  intro i x r hx hr
  rcases i with _ | _ | i
  · simp at hx hr; subst hx hr; exact h1
  · simp at hx hr; subst hx hr; exact h2
  · simp at hx

set_option maxRecDepth 100000 in
set_option maxHeartbeats 4000000 in
theorem two_any (w : World) :
    Calls Tryz.prog 24 #[] w (TwoPost w) := by
  have hbt := Below.refl w.heap.size w
  obtain ⟨V1, hV⟩ : ∃ V1, V1 = w.alloc (.cells #[.slice (some ⟨w.heap.size + 1, 0, none⟩) 2 2, .slice (some ⟨w.heap.size + 2, 0, none⟩) 2 2, .slice none 0 0, .slice none 0 0, .slice (some ⟨w.heap.size + 3, 0, none⟩) 2 2] 28) := ⟨_, rfl⟩
  have b1 := blk_new hV
  have hb := below_new hV
  replace hbt := hbt.trans (hb.mono hbt.size)
  clear hb
  have HSV1 : Hid (V1.heap.size = w.heap.size + 1) := by show V1.heap.size = _; rw [hV, World.size_alloc]
  have HVV1 := Lib.hid hV.symm
  clear hV
  obtain ⟨V2, hV⟩ : ∃ V2, V2 = V1.alloc (.cells #[.string ⟨#[115, 48]⟩, .int .i64 0, .int .i64 0, .string ⟨#[115, 49]⟩, .int .i64 0, .int .i64 1] 79) := ⟨_, rfl⟩
  have b2 := blk_new hV
  have hb := below_new hV
  replace b1 := blk_below b1 hb
  replace hbt := hbt.trans (hb.mono hbt.size)
  clear hb
  have HSV2 : Hid (V2.heap.size = V1.heap.size + 1) := by show V2.heap.size = _; rw [hV, World.size_alloc]
  have HVV2 := Lib.hid hV.symm
  clear hV
  rw [HSV1.out] at b2 HSV2
  rw [← HVV1.out] at HVV2
  obtain ⟨V3, hV⟩ : ∃ V3, V3 = V2.alloc (.cells #[.string ⟨#[114, 48]⟩, .int .i64 0, .int .i64 9, .slice none 0 0, .string ⟨#[114, 49]⟩, .int .i64 0, .int .i64 9, .slice none 0 0] 82) := ⟨_, rfl⟩
  have b3 := blk_new hV
  have hb := below_new hV
  replace b1 := blk_below b1 hb
  replace b2 := blk_below b2 hb
  replace hbt := hbt.trans (hb.mono hbt.size)
  clear hb
  have HSV3 : Hid (V3.heap.size = V2.heap.size + 1) := by show V3.heap.size = _; rw [hV, World.size_alloc]
  have HVV3 := Lib.hid hV.symm
  clear hV
  rw [HSV2.out] at b3 HSV3
  rw [← HVV2.out] at HVV3
  obtain ⟨V4, hV⟩ : ∃ V4, V4 = V3.alloc (.cells #[.string ⟨#[108, 48]⟩, .slice none 0 0, .slice none 0 0, .string ⟨#[108, 49]⟩, .slice none 0 0, .slice none 0 0] 84) := ⟨_, rfl⟩
  have b4 := blk_new hV
  have hb := below_new hV
  replace b1 := blk_below b1 hb
  replace b2 := blk_below b2 hb
  replace b3 := blk_below b3 hb
  replace hbt := hbt.trans (hb.mono hbt.size)
  clear hb
  have HSV4 : Hid (V4.heap.size = V3.heap.size + 1) := by show V4.heap.size = _; rw [hV, World.size_alloc]
  have HVV4 := Lib.hid hV.symm
  clear hV
  rw [HSV3.out] at b4 HSV4
  rw [← HVV3.out] at HVV4
  go_enter Tryz.func24, Tryz.ntmps24
  go_wp2_with fail
  rw [HVV4.out]
  clear HVV1 HVV2 HVV3 HVV4
  refine bodyPost_ret (results_cell_row rfl _ _ w.heap.size 28 #[.slice (some ⟨w.heap.size + 1, 0, none⟩) 2 2, .slice (some ⟨w.heap.size + 2, 0, none⟩) 2 2, .slice none 0 0, .slice none 0 0, .slice (some ⟨w.heap.size + 3, 0, none⟩) 2 2] (0, 0) _ rfl b1 Tryz.underlying28 rfl infoSchool) rfl ?_
  refine ⟨⟨some ⟨w.heap.size + 1, 0, none⟩, 2, 2, some ⟨w.heap.size + 2, 0, none⟩, 2, 2, none, 0, 0, none, 0, 0, some ⟨w.heap.size + 3, 0, none⟩, 2, 2⟩, rfl, ⟨?_, ?_, RdS.nil _ _, RdS.nil _ _, ?_⟩, hbt⟩
  · exact rdS_blk 3 (rows := [[.string ⟨#[115, 48]⟩, .int .i64 0, .int .i64 0], [.string ⟨#[115, 49]⟩, .int .i64 0, .int .i64 1]]) b2 rfl rfl (by simp) (by decide) (rows2 (R := Sc.RSlo V4 V4.heap.size) ⟨rfl, by simp [Sc.okT], by simp [okI], by simp [okI]⟩ ⟨rfl, by simp [Sc.okT], by simp [okI], by simp [okI]⟩)
  · exact rdS_blk 4 (rows := [[.string ⟨#[114, 48]⟩, .int .i64 0, .int .i64 9, .slice none 0 0], [.string ⟨#[114, 49]⟩, .int .i64 0, .int .i64 9, .slice none 0 0]]) b3 rfl rfl (by simp) (by decide) (rows2 (R := Sc.RRoo V4 V4.heap.size) ⟨none, 0, rfl, RdI.nil _ _, by simp [Sc.okT], by simp [okI], by simp [okI]⟩ ⟨none, 0, rfl, RdI.nil _ _, by simp [Sc.okT], by simp [okI], by simp [okI]⟩)
  · exact rdS_blk 3 (rows := [[.string ⟨#[108, 48]⟩, .slice none 0 0, .slice none 0 0], [.string ⟨#[108, 49]⟩, .slice none 0 0, .slice none 0 0]]) b4 rfl rfl (by simp) (by decide) (rows2 (R := Sc.RLes V4 V4.heap.size) ⟨none, 0, none, 0, rfl, RdI.nil _ _, RdI.nil _ _, by simp [Sc.okT]⟩ ⟨none, 0, none, 0, rfl, RdI.nil _ _, RdI.nil _ _, by simp [Sc.okT]⟩)

/-- A slice of weeks. -/
def RdWs (w : World) (B : Nat) (A : Option Addr) (n c : Nat) (l : List (List Pl)) : Prop := RdS 1 RWk w B A n c l
section
variable {w w' : World} {B B' : Nat} {A : Option Addr} {n c : Nat} {l : List (List Pl)}
theorem RdWs.below (h : RdWs w B A n c l) (hb : Below B w w') : RdWs w' B A n c l := RdS.below lastsWk h hb
theorem RdWs.more (h : RdWs w B A n c l) (hB : B ≤ B') : RdWs w B' A n c l := RdS.more lastsWk h hB
theorem RdWs.len (h : RdWs w B A n c l) : l.length = n := RdS.len (by omega) h
theorem RdWs.le (h : RdWs w B A n c l) : n ≤ c := RdS.le h
theorem RdWs.max (h : RdWs w B A n c l) : c ≤ 9223372036854775807 := RdS.max h
theorem RdWs.at_ (h : RdWs w B A n c l) {i : Nat} (hi : i < n) {x : List Pl} (hl : l[i]? = some x) : ∃ ad A' c', A = some ad ∧ ad.block < B ∧ w.cell? (ad.add i) = some (.slice A' x.length c') ∧ RdP w B A' x.length c' x := by
  obtain ⟨hil, rfl⟩ := List.getElem?_eq_some_iff.1 hl
  obtain ⟨ad, r, h1, h2, h3, ⟨A', c', rfl, h4⟩, h5⟩ := RdS.at_ (by omega) h hi hil
  exact ⟨ad, A', c', h1, h2, by simpa using h5 0 _ rfl, h4⟩
end
theorem ok_two1 : okPs Wk.two1 := by intro p hp; simp [Wk.two1] at hp; rcases hp with rfl | rfl <;> simp [okI]
theorem ok_twoM : okMs [(⟨1, (0, 1)⟩ : Mv)] := by intro m hm; simp at hm; subst hm; simp [okI]
def eqMv (x a b y c d : Int) : Bool := decide (x = y ∧ a = c ∧ b = d)
theorem run_eql_mv (x a b y c d : Int) (w : World) : (binOp .eql 64 (.agg #[.int .i64 x, .int .i64 a, .int .i64 b]) (.agg #[.int .i64 y, .int .i64 c, .int .i64 d])).run Tryz.prog w = .ok (.bool (eqMv x a b y c d)) w := by
  unfold eqMv
  rw [run_eql_struct, run_equalIn_struct _ _ _ _ _ (by kernel_rfl) (by kernel_rfl)]
  by_cases h0 : x = y <;> by_cases h1 : a = c <;> by_cases h2 : b = d <;> simp [go_sem, Program.fieldsOf, Tryz.underlying64, Tryz.underlying62, Op.eqFields, h0, h1, h2]
attribute [local go_sem ↓] run_eql_mv

set_option maxRecDepth 100000 in
set_option maxHeartbeats 8000000 in
theorem live4_any (mx : Int) (w : World) (hm : w.cell? ⟨0, 0, none⟩ = some (.int .i64 mx)) :
    Calls Tryz.prog 6 #[] w fun e w' => e = .returned (.bool true) ∧ Below w.heap.size w w' := by
  have hbt := Below.refl w.heap.size w
  go_enter Tryz.func6, Tryz.ntmps6
  go_wp2_with fail
  refine (two_any w).mono ?_
  rintro e w1 ⟨f, rfl, hS, hb⟩
  replace hm := (hb.cell (World.block_lt_of_cell? _ _ hm)).trans hm
  replace hbt := hbt.trans (hb.mono hbt.size)
  clear hb
  obtain ⟨l1, l2, l3, l4, l5⟩ := hS.lens
  obtain ⟨aS, nS, cS, aR, nR, cR, aP, nP, cP, aG, nG, cG, aL, nL, cL⟩ := f
  change 2 = nS at l1
  change 2 = nR at l2
  change 0 = nP at l3
  change 0 = nG at l4
  change 2 = nL at l5
  subst l1 l2 l3 l4 l5
  unfold Sc.Five.vals
  have mS : 2 ≤ cS ∧ cS ≤ 9223372036854775807 := ⟨hS.slots.le, hS.slots.max⟩
  have mR : 2 ≤ cR ∧ cR ≤ 9223372036854775807 := ⟨hS.rooms.le, hS.rooms.max⟩
  have mL : 2 ≤ cL ∧ cL ≤ 9223372036854775807 := ⟨hS.lessons.le, hS.lessons.max⟩
  obtain ⟨V1, hV⟩ : ∃ V1, V1 = w1.alloc (.cells #[.slice aS 2 cS, .slice aR 2 cR, .slice aP 0 cP, .slice aG 0 cG, .slice aL 2 cL] 28) := ⟨_, rfl⟩
  have b1 := blk_new hV
  have hb := below_new hV
  replace hm := (hb.cell (World.block_lt_of_cell? _ _ hm)).trans hm
  replace hS := (hS.below hb).more hb.size
  replace hbt := hbt.trans (hb.mono hbt.size)
  clear hb
  have HSV1 : Hid (V1.heap.size = w1.heap.size + 1) := by show V1.heap.size = _; rw [hV, World.size_alloc]
  have HVV1 := Lib.hid hV.symm
  clear hV
  have c0 := blk_cell (j := 0) b1
  simp only [List.getElem?_toArray, List.getElem?_cons_zero, List.getElem?_cons_succ] at c0
  have c1 := blk_cell (j := 1) b1
  simp only [List.getElem?_toArray, List.getElem?_cons_zero, List.getElem?_cons_succ] at c1
  have c2 := blk_cell (j := 2) b1
  simp only [List.getElem?_toArray, List.getElem?_cons_zero, List.getElem?_cons_succ] at c2
  have c3 := blk_cell (j := 3) b1
  simp only [List.getElem?_toArray, List.getElem?_cons_zero, List.getElem?_cons_succ] at c3
  have c4 := blk_cell (j := 4) b1
  simp only [List.getElem?_toArray, List.getElem?_cons_zero, List.getElem?_cons_succ] at c4
  rw [← HVV1.out] at c0 c1 c2 c3 c4
  go_wp2_with fail
  rw [HVV1.out]
  clear HVV1 HSV1 c0 c1 c2 c3 c4
  refine (wAll_any ⟨aS, 2, cS, aR, 2, cR, aP, 0, cP, aG, 0, cG, aL, 2, cL⟩ Wk.two 16 mx V1 hS hm (by omega) (by dsimp only; omega) (fun _ => (by dsimp only; omega))).mono ?_
  rintro e w2 ⟨A, n, c, rfl, hW, hb⟩
  rw [Wk.two_all16] at hW ⊢
  dsimp only at hW ⊢
  replace hW : RdWs w2 w2.heap.size A n c _ := hW
  have hn := hW.len
  rw [List.length_map, List.length_range] at hn
  subst hn
  obtain ⟨LW, hLW⟩ : ∃ LW, LW = (List.range 16).map (Wk.dec 2 2 2) := ⟨_, rfl⟩
  rw [← hLW] at hW
  have hW0 : LW[0]? = some Wk.two0 := by rw [hLW]; exact Wk.two_l0
  have hW1 : LW[1]? = some Wk.two1 := by rw [hLW]; exact Wk.two_l1
  clear hLW
  replace hm := (hb.cell (World.block_lt_of_cell? _ _ hm)).trans hm
  replace hS := (hS.below hb).more hb.size
  replace b1 := blk_below b1 hb
  replace hbt := hbt.trans (hb.mono hbt.size)
  clear hb
  have m1 := hW.max
  have m2 := hW.le
  have c0 := blk_cell (j := 0) b1
  simp only [List.getElem?_toArray, List.getElem?_cons_zero, List.getElem?_cons_succ] at c0
  have c1 := blk_cell (j := 1) b1
  simp only [List.getElem?_toArray, List.getElem?_cons_zero, List.getElem?_cons_succ] at c1
  have c2 := blk_cell (j := 2) b1
  simp only [List.getElem?_toArray, List.getElem?_cons_zero, List.getElem?_cons_succ] at c2
  have c3 := blk_cell (j := 3) b1
  simp only [List.getElem?_toArray, List.getElem?_cons_zero, List.getElem?_cons_succ] at c3
  have c4 := blk_cell (j := 4) b1
  simp only [List.getElem?_toArray, List.getElem?_cons_zero, List.getElem?_cons_succ] at c4
  go_wp2_with fail
  clear c0 c1 c2 c3 c4
  refine (wAll_any ⟨aS, 2, cS, aR, 2, cR, aP, 0, cP, aG, 0, cG, aL, 2, cL⟩ Wk.two 15 mx w2 hS hm (by omega) (by dsimp only; omega) (fun _ => (by dsimp only; omega))).mono ?_
  rintro e w3 ⟨A3, n3, c3', rfl, hX, hb⟩
  rw [Wk.two_all15] at hX ⊢
  dsimp only at hX ⊢
  have hn := hX.len (by omega)
  change 0 = n3 at hn
  subst hn
  clear hX
  replace hm := (hb.cell (World.block_lt_of_cell? _ _ hm)).trans hm
  replace hS := (hS.below hb).more hb.size
  replace b1 := blk_below b1 hb
  replace hW := (hW.below hb).more hb.size
  replace hbt := hbt.trans (hb.mono hbt.size)
  clear hb
  have c0 := blk_cell (j := 0) b1
  simp only [List.getElem?_toArray, List.getElem?_cons_zero, List.getElem?_cons_succ] at c0
  have c1 := blk_cell (j := 1) b1
  simp only [List.getElem?_toArray, List.getElem?_cons_zero, List.getElem?_cons_succ] at c1
  have c2 := blk_cell (j := 2) b1
  simp only [List.getElem?_toArray, List.getElem?_cons_zero, List.getElem?_cons_succ] at c2
  have c3 := blk_cell (j := 3) b1
  simp only [List.getElem?_toArray, List.getElem?_cons_zero, List.getElem?_cons_succ] at c3
  have c4 := blk_cell (j := 4) b1
  simp only [List.getElem?_toArray, List.getElem?_cons_zero, List.getElem?_cons_succ] at c4
  go_wp2_with fail
  clear c0 c1 c2 c3 c4
  refine (sCheck_any ⟨aS, 2, cS, aR, 2, cR, aP, 0, cP, aG, 0, cG, aL, 2, cL⟩ Wk.two mx w3 hS hm).mono ?_
  rintro e w4 ⟨rfl, hb⟩
  rw [Wk.two_ok]
  replace hm := (hb.cell (World.block_lt_of_cell? _ _ hm)).trans hm
  replace hS := (hS.below hb).more hb.size
  replace b1 := blk_below b1 hb
  replace hW := (hW.below hb).more hb.size
  replace hbt := hbt.trans (hb.mono hbt.size)
  clear hb
  go_wp2_with fail
  obtain ⟨ad, A0, q0, hAd, hab, x0, h0⟩ := hW.at_ (i := 0) (by omega) hW0
  subst hAd
  obtain ⟨ad', A1, q1, hAd, _, x1, h1⟩ := hW.at_ (i := 1) (by omega) hW1
  injection hAd with hAd
  subst hAd
  change w4.cell? (ad.add 0) = some (.slice A0 2 q0) at x0
  change w4.cell? (ad.add 1) = some (.slice A1 2 q1) at x1
  change RdP w4 w4.heap.size A0 2 q0 Wk.two0 at h0
  change RdP w4 w4.heap.size A1 2 q1 Wk.two1 at h1
  have HX : Hid (ad.block < w4.heap.size) := hab
  have o1 := h1.max
  have o2 := h1.le
  have o3 := h0.max
  have o4 := h0.le
  clear hW hW0 hW1 hab
  rw [add_zero'] at x0
  have e1 : ad.add 1 = ⟨ad.block, ad.off + 1, none⟩ := rfl
  rw [e1] at x1
  clear e1
  refine wp_region_plan [([0, 1, 2, 3], some 4), ([5, 6, 7, 8, 9], none)] (by kernel_rfl) (by kernel_rfl) ?_
  intro wd hsz hb
  clear hsz
  replace hm := (hb.cell (World.block_lt_of_cell? _ _ hm)).trans hm
  replace hS := (hS.below hb).more hb.size
  replace b1 := blk_below b1 hb
  replace x0 := (hb.cell (World.block_lt_of_cell? _ _ x0)).trans x0
  replace x1 := (hb.cell (World.block_lt_of_cell? _ _ x1)).trans x1
  replace h0 := (h0.below hb).more hb.size
  replace h1 := (h1.below hb).more hb.size
  replace hbt := hbt.trans (hb.mono hbt.size)
  clear hb
  simp only [pickP, pick, List.map_cons, List.map_nil, Option.map_some, Option.map_none, List.getD_cons_zero, List.getD_cons_succ]
  have c0 : ∀ x : Ext wd.heap.size wd, x.val.cell? ⟨w1.heap.size, 0, none⟩ = some (.slice aS 2 cS) := fun x => ((x.cell (blk_lt b1)).trans (blk_cell b1)).trans rfl
  have c1 : ∀ x : Ext wd.heap.size wd, x.val.cell? ⟨w1.heap.size, 1, none⟩ = some (.slice aR 2 cR) := fun x => ((x.cell (blk_lt b1)).trans (blk_cell b1)).trans rfl
  have c2 : ∀ x : Ext wd.heap.size wd, x.val.cell? ⟨w1.heap.size, 2, none⟩ = some (.slice aP 0 cP) := fun x => ((x.cell (blk_lt b1)).trans (blk_cell b1)).trans rfl
  have c3 : ∀ x : Ext wd.heap.size wd, x.val.cell? ⟨w1.heap.size, 3, none⟩ = some (.slice aG 0 cG) := fun x => ((x.cell (blk_lt b1)).trans (blk_cell b1)).trans rfl
  have c4 : ∀ x : Ext wd.heap.size wd, x.val.cell? ⟨w1.heap.size, 4, none⟩ = some (.slice aL 2 cL) := fun x => ((x.cell (blk_lt b1)).trans (blk_cell b1)).trans rfl
  have y1 : ∀ x : Ext wd.heap.size wd, x.val.cell? ⟨ad.block, ad.off + 1, none⟩ = some (.slice A1 2 q1) := fun x => (x.cell (World.block_lt_of_cell? _ _ x1)).trans x1
  refine plan_cons ?_
  (repeat (go_big_quiet_step (fail)))
  refine plan_nil ?_
  clear c0 c1 c2 c3 c4 y1
  refine plan_call (by kernel_rfl) (fun K hK => ?_)
  go_simp
  refine (wTrue_any ⟨aS, 2, cS, aR, 2, cR, aP, 0, cP, aG, 0, cG, aL, 2, cL⟩ Wk.two A1 2 q1 Wk.two1 mx wd hS h1 hm (by dsimp only; omega)).mono ?_
  rintro e w5 ⟨v5, rfl, ho5, hb⟩
  rw [Wk.two_true] at ho5 ⊢
  dsimp only at ho5 ⊢
  change w5.ownsRow wd.heap.size 4 1 v5 9 _ at ho5
  obtain ⟨A5, q5, rfl, r5⟩ := own_rd ho5
  replace r5 : RdO w5 w5.heap.size A5 9 q5 Wk.twoA := r5
  clear ho5
  refine hK.out _ _ hb ?_
  clear hK K
  (try simp only [Act.put, List.setIfInBounds_toArray, List.set_cons_zero, List.set_cons_succ])
  replace hm := (hb.cell (World.block_lt_of_cell? _ _ hm)).trans hm
  replace hS := (hS.below hb).more hb.size
  replace b1 := blk_below b1 hb
  replace x0 := (hb.cell (World.block_lt_of_cell? _ _ x0)).trans x0
  replace x1 := (hb.cell (World.block_lt_of_cell? _ _ x1)).trans x1
  replace h0 := (h0.below hb).more hb.size
  replace h1 := (h1.below hb).more hb.size
  replace hbt := hbt.trans (hb.mono hbt.size)
  clear hb
  refine plan_cons ?_
  (repeat (go_big_quiet_step (fail)))
  refine plan_nil ?_
  refine plan_end ?_
  have c0 := blk_cell (j := 0) b1
  simp only [List.getElem?_toArray, List.getElem?_cons_zero, List.getElem?_cons_succ] at c0
  have c1 := blk_cell (j := 1) b1
  simp only [List.getElem?_toArray, List.getElem?_cons_zero, List.getElem?_cons_succ] at c1
  have c2 := blk_cell (j := 2) b1
  simp only [List.getElem?_toArray, List.getElem?_cons_zero, List.getElem?_cons_succ] at c2
  have c3 := blk_cell (j := 3) b1
  simp only [List.getElem?_toArray, List.getElem?_cons_zero, List.getElem?_cons_succ] at c3
  have c4 := blk_cell (j := 4) b1
  simp only [List.getElem?_toArray, List.getElem?_cons_zero, List.getElem?_cons_succ] at c4
  go_wp2_with fail
  clear c0 c1 c2 c3 c4
  have k51 := r5.max
  have k52 := r5.le
  refine (wOf_any ⟨aS, 2, cS, aR, 2, cR, aP, 0, cP, aG, 0, cG, aL, 2, cL⟩ Wk.two A5 9 q5 Wk.twoA mx w5 hS r5 hm (by dsimp only; omega)).mono ?_
  rintro e w6 ⟨v6, rfl, ho6, hb⟩
  rw [Wk.two_of] at ho6 ⊢
  dsimp only at ho6 ⊢
  change w6.ownsRow w5.heap.size 62 2 v6 2 _ at ho6
  obtain ⟨A6, q6, rfl, h6⟩ := own_rdP ho6 ok_two1
  clear ho6
  replace hm := (hb.cell (World.block_lt_of_cell? _ _ hm)).trans hm
  replace hS := (hS.below hb).more hb.size
  replace b1 := blk_below b1 hb
  replace x0 := (hb.cell (World.block_lt_of_cell? _ _ x0)).trans x0
  replace x1 := (hb.cell (World.block_lt_of_cell? _ _ x1)).trans x1
  replace h0 := (h0.below hb).more hb.size
  replace h1 := (h1.below hb).more hb.size
  replace r5 := (r5.below hb).more hb.size
  replace hbt := hbt.trans (hb.mono hbt.size)
  clear hb
  clear r5
  have k61 := h6.max
  have k62 := h6.le
  obtain ⟨V6, hV⟩ : ∃ V6, V6 = w6.alloc (.cells #[.slice A6 2 q6] 31) := ⟨_, rfl⟩
  have b6 := blk_new hV
  have hb := below_new hV
  replace hm := (hb.cell (World.block_lt_of_cell? _ _ hm)).trans hm
  replace hS := (hS.below hb).more hb.size
  replace b1 := blk_below b1 hb
  replace x0 := (hb.cell (World.block_lt_of_cell? _ _ x0)).trans x0
  replace x1 := (hb.cell (World.block_lt_of_cell? _ _ x1)).trans x1
  replace h0 := (h0.below hb).more hb.size
  replace h1 := (h1.below hb).more hb.size
  replace h6 := (h6.below hb).more hb.size
  replace hbt := hbt.trans (hb.mono hbt.size)
  clear hb
  have HSV6 : Hid (V6.heap.size = w6.heap.size + 1) := by show V6.heap.size = _; rw [hV, World.size_alloc]
  have HVV6 := Lib.hid hV.symm
  clear hV
  have HZ := HSV6.out
  clear HSV6
  go_wp2_with fail
  rw [HVV6.out]
  clear HVV6
  refine wp_region_plan [([0, 1, 2, 3, 4, 5], some 6), ([7, 8, 9, 10, 11], none)] (by kernel_rfl) (by kernel_rfl) ?_
  intro wd hsz hb
  clear hsz
  replace hm := (hb.cell (World.block_lt_of_cell? _ _ hm)).trans hm
  replace hS := (hS.below hb).more hb.size
  replace b1 := blk_below b1 hb
  replace x0 := (hb.cell (World.block_lt_of_cell? _ _ x0)).trans x0
  replace x1 := (hb.cell (World.block_lt_of_cell? _ _ x1)).trans x1
  replace h0 := (h0.below hb).more hb.size
  replace h1 := (h1.below hb).more hb.size
  replace h6 := (h6.below hb).more hb.size
  replace b6 := blk_below b6 hb
  replace hbt := hbt.trans (hb.mono hbt.size)
  clear hb
  simp only [pickP, pick, List.map_cons, List.map_nil, Option.map_some, Option.map_none, List.getD_cons_zero, List.getD_cons_succ]
  have y0 : ∀ x : Ext wd.heap.size wd, x.val.cell? ad = some (.slice A0 2 q0) := fun x => (x.cell (World.block_lt_of_cell? _ _ x0)).trans x0
  have y1 : ∀ x : Ext wd.heap.size wd, x.val.cell? ⟨ad.block, ad.off + 1, none⟩ = some (.slice A1 2 q1) := fun x => (x.cell (World.block_lt_of_cell? _ _ x1)).trans x1
  refine plan_cons ?_
  (repeat (go_big_quiet_step (fail)))
  refine plan_nil ?_
  clear y0 y1
  refine plan_call (by kernel_rfl) (fun K hK => ?_)
  go_simp
  refine (diff_any A0 A1 2 q0 2 q1 Wk.two0 Wk.two1 wd h0 h1 (by omega)).mono ?_
  rintro e w7 ⟨v7, rfl, ho7, hb⟩
  rw [Wk.two_diff.1] at ho7
  rw [Wk.two_diff.2]
  change w7.ownsRow wd.heap.size 64 3 v7 1 _ at ho7
  obtain ⟨A7, q7, rfl, h7⟩ := own_rdM ho7 ok_twoM
  clear ho7
  refine hK.out _ _ hb ?_
  clear hK K
  (try simp only [Act.put, List.setIfInBounds_toArray, List.set_cons_zero, List.set_cons_succ])
  replace hm := (hb.cell (World.block_lt_of_cell? _ _ hm)).trans hm
  replace hS := (hS.below hb).more hb.size
  replace b1 := blk_below b1 hb
  replace x0 := (hb.cell (World.block_lt_of_cell? _ _ x0)).trans x0
  replace x1 := (hb.cell (World.block_lt_of_cell? _ _ x1)).trans x1
  replace h0 := (h0.below hb).more hb.size
  replace h1 := (h1.below hb).more hb.size
  replace h6 := (h6.below hb).more hb.size
  replace b6 := blk_below b6 hb
  replace hbt := hbt.trans (hb.mono hbt.size)
  clear hb
  refine plan_cons ?_
  (repeat (go_big_quiet_step (fail)))
  refine plan_nil ?_
  refine plan_end ?_
  have k71 := h7.max
  have k72 := h7.le
  go_wp2_with fail
  refine (apply_any A0 A7 2 q0 1 q7 Wk.two0 _ w7 h0 h7 (by omega)).mono ?_
  rintro e w8 ⟨v8, rfl, ho8, hb⟩
  rw [Wk.two_apply.1] at ho8
  rw [Wk.two_apply.2]
  change w8.ownsRow w7.heap.size 62 2 v8 2 _ at ho8
  obtain ⟨A8, q8, rfl, h8⟩ := own_rdP ho8 ok_two1
  clear ho8
  replace hm := (hb.cell (World.block_lt_of_cell? _ _ hm)).trans hm
  replace hS := (hS.below hb).more hb.size
  replace b1 := blk_below b1 hb
  replace x0 := (hb.cell (World.block_lt_of_cell? _ _ x0)).trans x0
  replace x1 := (hb.cell (World.block_lt_of_cell? _ _ x1)).trans x1
  replace h0 := (h0.below hb).more hb.size
  replace h1 := (h1.below hb).more hb.size
  replace h6 := (h6.below hb).more hb.size
  replace b6 := blk_below b6 hb
  replace h7 := (h7.below hb).more hb.size
  replace hbt := hbt.trans (hb.mono hbt.size)
  clear hb
  have k81 := h8.max
  have k82 := h8.le
  obtain ⟨V8, hV⟩ : ∃ V8, V8 = w8.alloc (.cells #[.slice A8 2 q8] 31) := ⟨_, rfl⟩
  have b8 := blk_new hV
  have hb := below_new hV
  replace hm := (hb.cell (World.block_lt_of_cell? _ _ hm)).trans hm
  replace hS := (hS.below hb).more hb.size
  replace b1 := blk_below b1 hb
  replace x0 := (hb.cell (World.block_lt_of_cell? _ _ x0)).trans x0
  replace x1 := (hb.cell (World.block_lt_of_cell? _ _ x1)).trans x1
  replace h0 := (h0.below hb).more hb.size
  replace h1 := (h1.below hb).more hb.size
  replace h6 := (h6.below hb).more hb.size
  replace b6 := blk_below b6 hb
  replace h7 := (h7.below hb).more hb.size
  replace h8 := (h8.below hb).more hb.size
  replace hbt := hbt.trans (hb.mono hbt.size)
  clear hb
  have HSV8 : Hid (V8.heap.size = w8.heap.size + 1) := by show V8.heap.size = _; rw [hV, World.size_alloc]
  have HVV8 := Lib.hid hV.symm
  clear hV
  have HZ8 := HSV8.out
  obtain ⟨V9, hV⟩ : ∃ V9, V9 = V8.alloc (.cells #[.int .u8 7] 5) := ⟨_, rfl⟩
  have b9 := blk_new hV
  have hb := below_new hV
  replace hm := (hb.cell (World.block_lt_of_cell? _ _ hm)).trans hm
  replace hS := (hS.below hb).more hb.size
  replace b1 := blk_below b1 hb
  replace x0 := (hb.cell (World.block_lt_of_cell? _ _ x0)).trans x0
  replace x1 := (hb.cell (World.block_lt_of_cell? _ _ x1)).trans x1
  replace h0 := (h0.below hb).more hb.size
  replace h1 := (h1.below hb).more hb.size
  replace h6 := (h6.below hb).more hb.size
  replace b6 := blk_below b6 hb
  replace h7 := (h7.below hb).more hb.size
  replace h8 := (h8.below hb).more hb.size
  replace b8 := blk_below b8 hb
  replace hbt := hbt.trans (hb.mono hbt.size)
  clear hb
  have HSV9 : Hid (V9.heap.size = V8.heap.size + 1) := by show V9.heap.size = _; rw [hV, World.size_alloc]
  have HVV9 := Lib.hid hV.symm
  clear hV
  rw [← HVV8.out] at HVV9
  rw [HSV8.out] at b9
  clear HSV8 HSV9
  rw [← HVV9.out] at x1
  go_wp2_with fail
  rw [HVV9.out] at x1 ⊢
  clear HVV8 HVV9 HZ8
  have h9 : RdB V9 V9.heap.size (some ⟨w8.heap.size + 1, 0, none⟩) 1 1 [7] := Rd.blk b9 rfl (by omega)
  refine (wPut_any _ 1 1 [7] A1 2 q1 Wk.two1 V9 h9 h1 (by omega) (by omega)).mono ?_
  rintro e w10 ⟨v10, rfl, ho10, hb⟩
  rw [Wk.two_put] at ho10
  change w10.ownsRow V9.heap.size 5 1 v10 6 _ at ho10
  obtain ⟨A10, q10, rfl, h10⟩ := own_rdB ho10
  clear ho10 h9
  replace hm := (hb.cell (World.block_lt_of_cell? _ _ hm)).trans hm
  replace hS := (hS.below hb).more hb.size
  replace b1 := blk_below b1 hb
  replace x0 := (hb.cell (World.block_lt_of_cell? _ _ x0)).trans x0
  replace x1 := (hb.cell (World.block_lt_of_cell? _ _ x1)).trans x1
  replace h0 := (h0.below hb).more hb.size
  replace h1 := (h1.below hb).more hb.size
  replace h6 := (h6.below hb).more hb.size
  replace b6 := blk_below b6 hb
  replace h7 := (h7.below hb).more hb.size
  replace h8 := (h8.below hb).more hb.size
  replace b8 := blk_below b8 hb
  replace hbt := hbt.trans (hb.mono hbt.size)
  clear hb
  have k101 := h10.max
  have k102 := h10.le
  go_wp2_with fail
  refine (wGet_any A10 6 q10 _ 1 w10 h10 (by omega) (by omega)).mono ?_
  rintro e w11 ⟨v11, rfl, ho11, hb⟩
  rw [Wk.two_get] at ho11 ⊢
  dsimp only at ho11 ⊢
  change w11.ownsRow w10.heap.size 62 2 v11 2 _ at ho11
  obtain ⟨A11, q11, rfl, h11⟩ := own_rdP ho11 ok_two1
  clear ho11
  replace hm := (hb.cell (World.block_lt_of_cell? _ _ hm)).trans hm
  replace hS := (hS.below hb).more hb.size
  replace b1 := blk_below b1 hb
  replace x0 := (hb.cell (World.block_lt_of_cell? _ _ x0)).trans x0
  replace x1 := (hb.cell (World.block_lt_of_cell? _ _ x1)).trans x1
  replace h0 := (h0.below hb).more hb.size
  replace h1 := (h1.below hb).more hb.size
  replace h6 := (h6.below hb).more hb.size
  replace b6 := blk_below b6 hb
  replace h7 := (h7.below hb).more hb.size
  replace h8 := (h8.below hb).more hb.size
  replace b8 := blk_below b8 hb
  replace h10 := (h10.below hb).more hb.size
  replace hbt := hbt.trans (hb.mono hbt.size)
  clear hb
  have k111 := h11.max
  have k112 := h11.le
  obtain ⟨V11, hV⟩ : ∃ V11, V11 = w11.alloc (.cells #[.slice A11 2 q11] 31) := ⟨_, rfl⟩
  have b11 := blk_new hV
  have hb := below_new hV
  replace hm := (hb.cell (World.block_lt_of_cell? _ _ hm)).trans hm
  replace hS := (hS.below hb).more hb.size
  replace b1 := blk_below b1 hb
  replace x0 := (hb.cell (World.block_lt_of_cell? _ _ x0)).trans x0
  replace x1 := (hb.cell (World.block_lt_of_cell? _ _ x1)).trans x1
  replace h0 := (h0.below hb).more hb.size
  replace h1 := (h1.below hb).more hb.size
  replace h6 := (h6.below hb).more hb.size
  replace b6 := blk_below b6 hb
  replace h7 := (h7.below hb).more hb.size
  replace h8 := (h8.below hb).more hb.size
  replace b8 := blk_below b8 hb
  replace h10 := (h10.below hb).more hb.size
  replace h11 := (h11.below hb).more hb.size
  replace hbt := hbt.trans (hb.mono hbt.size)
  clear hb
  have HSV11 : Hid (V11.heap.size = w11.heap.size + 1) := by show V11.heap.size = _; rw [hV, World.size_alloc]
  have HVV11 := Lib.hid hV.symm
  clear hV
  have c0 := blk_cell (j := 0) b1
  simp only [List.getElem?_toArray, List.getElem?_cons_zero, List.getElem?_cons_succ] at c0
  have c1 := blk_cell (j := 1) b1
  simp only [List.getElem?_toArray, List.getElem?_cons_zero, List.getElem?_cons_succ] at c1
  have c2 := blk_cell (j := 2) b1
  simp only [List.getElem?_toArray, List.getElem?_cons_zero, List.getElem?_cons_succ] at c2
  have c3 := blk_cell (j := 3) b1
  simp only [List.getElem?_toArray, List.getElem?_cons_zero, List.getElem?_cons_succ] at c3
  have c4 := blk_cell (j := 4) b1
  simp only [List.getElem?_toArray, List.getElem?_cons_zero, List.getElem?_cons_succ] at c4
  rw [← HVV11.out] at c0 c1 c2 c3 c4
  go_wp2_with fail
  rw [HVV11.out]
  clear HVV11 HSV11 c0 c1 c2 c3 c4
  refine (wVars_any ⟨aS, 2, cS, aR, 2, cR, aP, 0, cP, aG, 0, cG, aL, 2, cL⟩ V11 mS mR mL (by dsimp only; omega)).mono ?_
  rintro e w12 ⟨rfl, hb⟩
  dsimp only
  rw [show ((2 * (2 + 2) : Nat) : Int) = 8 from rfl]
  replace hm := (hb.cell (World.block_lt_of_cell? _ _ hm)).trans hm
  replace hS := (hS.below hb).more hb.size
  replace b1 := blk_below b1 hb
  replace x0 := (hb.cell (World.block_lt_of_cell? _ _ x0)).trans x0
  replace x1 := (hb.cell (World.block_lt_of_cell? _ _ x1)).trans x1
  replace h0 := (h0.below hb).more hb.size
  replace h1 := (h1.below hb).more hb.size
  replace h6 := (h6.below hb).more hb.size
  replace b6 := blk_below b6 hb
  replace h7 := (h7.below hb).more hb.size
  replace h8 := (h8.below hb).more hb.size
  replace b8 := blk_below b8 hb
  replace h10 := (h10.below hb).more hb.size
  replace h11 := (h11.below hb).more hb.size
  replace b11 := blk_below b11 hb
  replace hbt := hbt.trans (hb.mono hbt.size)
  clear hb
  have c0 := blk_cell (j := 0) b1
  simp only [List.getElem?_toArray, List.getElem?_cons_zero, List.getElem?_cons_succ] at c0
  have c1 := blk_cell (j := 1) b1
  simp only [List.getElem?_toArray, List.getElem?_cons_zero, List.getElem?_cons_succ] at c1
  have c2 := blk_cell (j := 2) b1
  simp only [List.getElem?_toArray, List.getElem?_cons_zero, List.getElem?_cons_succ] at c2
  have c3 := blk_cell (j := 3) b1
  simp only [List.getElem?_toArray, List.getElem?_cons_zero, List.getElem?_cons_succ] at c3
  have c4 := blk_cell (j := 4) b1
  simp only [List.getElem?_toArray, List.getElem?_cons_zero, List.getElem?_cons_succ] at c4
  go_wp2_with fail
  clear c0 c1 c2 c3 c4
  refine (wAt_any ⟨aS, 2, cS, aR, 2, cR, aP, 0, cP, aG, 0, cG, aL, 2, cL⟩ 1 0 w12 mS mR mL (by dsimp only; omega)).mono ?_
  rintro e w13 ⟨rfl, hb⟩
  dsimp only
  rw [Wk.two_at.1]
  replace hm := (hb.cell (World.block_lt_of_cell? _ _ hm)).trans hm
  replace hS := (hS.below hb).more hb.size
  replace b1 := blk_below b1 hb
  replace x0 := (hb.cell (World.block_lt_of_cell? _ _ x0)).trans x0
  replace x1 := (hb.cell (World.block_lt_of_cell? _ _ x1)).trans x1
  replace h0 := (h0.below hb).more hb.size
  replace h1 := (h1.below hb).more hb.size
  replace h6 := (h6.below hb).more hb.size
  replace b6 := blk_below b6 hb
  replace h7 := (h7.below hb).more hb.size
  replace h8 := (h8.below hb).more hb.size
  replace b8 := blk_below b8 hb
  replace h10 := (h10.below hb).more hb.size
  replace h11 := (h11.below hb).more hb.size
  replace b11 := blk_below b11 hb
  replace hbt := hbt.trans (hb.mono hbt.size)
  clear hb
  have c0 := blk_cell (j := 0) b1
  simp only [List.getElem?_toArray, List.getElem?_cons_zero, List.getElem?_cons_succ] at c0
  have c1 := blk_cell (j := 1) b1
  simp only [List.getElem?_toArray, List.getElem?_cons_zero, List.getElem?_cons_succ] at c1
  have c2 := blk_cell (j := 2) b1
  simp only [List.getElem?_toArray, List.getElem?_cons_zero, List.getElem?_cons_succ] at c2
  have c3 := blk_cell (j := 3) b1
  simp only [List.getElem?_toArray, List.getElem?_cons_zero, List.getElem?_cons_succ] at c3
  have c4 := blk_cell (j := 4) b1
  simp only [List.getElem?_toArray, List.getElem?_cons_zero, List.getElem?_cons_succ] at c4
  go_wp2_with fail
  clear c0 c1 c2 c3 c4
  refine (wIn_any ⟨aS, 2, cS, aR, 2, cR, aP, 0, cP, aG, 0, cG, aL, 2, cL⟩ 0 1 w13 mS mR mL (by dsimp only; omega)).mono ?_
  rintro e w14 ⟨rfl, hb⟩
  dsimp only
  rw [show Wk.inI 2 2 2 0 1 = 6 from Wk.two_at.2.1]
  replace hm := (hb.cell (World.block_lt_of_cell? _ _ hm)).trans hm
  replace hS := (hS.below hb).more hb.size
  replace b1 := blk_below b1 hb
  replace x0 := (hb.cell (World.block_lt_of_cell? _ _ x0)).trans x0
  replace x1 := (hb.cell (World.block_lt_of_cell? _ _ x1)).trans x1
  replace h0 := (h0.below hb).more hb.size
  replace h1 := (h1.below hb).more hb.size
  replace h6 := (h6.below hb).more hb.size
  replace b6 := blk_below b6 hb
  replace h7 := (h7.below hb).more hb.size
  replace h8 := (h8.below hb).more hb.size
  replace b8 := blk_below b8 hb
  replace h10 := (h10.below hb).more hb.size
  replace h11 := (h11.below hb).more hb.size
  replace b11 := blk_below b11 hb
  replace hbt := hbt.trans (hb.mono hbt.size)
  clear hb
  have c0 := blk_cell (j := 0) b1
  simp only [List.getElem?_toArray, List.getElem?_cons_zero, List.getElem?_cons_succ] at c0
  have c1 := blk_cell (j := 1) b1
  simp only [List.getElem?_toArray, List.getElem?_cons_zero, List.getElem?_cons_succ] at c1
  have c2 := blk_cell (j := 2) b1
  simp only [List.getElem?_toArray, List.getElem?_cons_zero, List.getElem?_cons_succ] at c2
  have c3 := blk_cell (j := 3) b1
  simp only [List.getElem?_toArray, List.getElem?_cons_zero, List.getElem?_cons_succ] at c3
  have c4 := blk_cell (j := 4) b1
  simp only [List.getElem?_toArray, List.getElem?_cons_zero, List.getElem?_cons_succ] at c4
  go_wp2_with fail
  clear c0 c1 c2 c3 c4
  refine (wAt_any ⟨aS, 2, cS, aR, 2, cR, aP, 0, cP, aG, 0, cG, aL, 2, cL⟩ 2 0 w14 mS mR mL (by dsimp only; omega)).mono ?_
  rintro e w15 ⟨rfl, hb⟩
  dsimp only
  rw [Wk.two_at.2.2.1]
  replace hm := (hb.cell (World.block_lt_of_cell? _ _ hm)).trans hm
  replace hS := (hS.below hb).more hb.size
  replace b1 := blk_below b1 hb
  replace x0 := (hb.cell (World.block_lt_of_cell? _ _ x0)).trans x0
  replace x1 := (hb.cell (World.block_lt_of_cell? _ _ x1)).trans x1
  replace h0 := (h0.below hb).more hb.size
  replace h1 := (h1.below hb).more hb.size
  replace h6 := (h6.below hb).more hb.size
  replace b6 := blk_below b6 hb
  replace h7 := (h7.below hb).more hb.size
  replace h8 := (h8.below hb).more hb.size
  replace b8 := blk_below b8 hb
  replace h10 := (h10.below hb).more hb.size
  replace h11 := (h11.below hb).more hb.size
  replace b11 := blk_below b11 hb
  replace hbt := hbt.trans (hb.mono hbt.size)
  clear hb
  have c0 := blk_cell (j := 0) b1
  simp only [List.getElem?_toArray, List.getElem?_cons_zero, List.getElem?_cons_succ] at c0
  have c1 := blk_cell (j := 1) b1
  simp only [List.getElem?_toArray, List.getElem?_cons_zero, List.getElem?_cons_succ] at c1
  have c2 := blk_cell (j := 2) b1
  simp only [List.getElem?_toArray, List.getElem?_cons_zero, List.getElem?_cons_succ] at c2
  have c3 := blk_cell (j := 3) b1
  simp only [List.getElem?_toArray, List.getElem?_cons_zero, List.getElem?_cons_succ] at c3
  have c4 := blk_cell (j := 4) b1
  simp only [List.getElem?_toArray, List.getElem?_cons_zero, List.getElem?_cons_succ] at c4
  go_wp2_with fail
  clear c0 c1 c2 c3 c4
  refine (wIn_any ⟨aS, 2, cS, aR, 2, cR, aP, 0, cP, aG, 0, cG, aL, 2, cL⟩ 0 2 w15 mS mR mL (by dsimp only; omega)).mono ?_
  rintro e w16 ⟨rfl, hb⟩
  dsimp only
  rw [Wk.two_at.2.2.2]
  replace hm := (hb.cell (World.block_lt_of_cell? _ _ hm)).trans hm
  replace hS := (hS.below hb).more hb.size
  replace b1 := blk_below b1 hb
  replace x0 := (hb.cell (World.block_lt_of_cell? _ _ x0)).trans x0
  replace x1 := (hb.cell (World.block_lt_of_cell? _ _ x1)).trans x1
  replace h0 := (h0.below hb).more hb.size
  replace h1 := (h1.below hb).more hb.size
  replace h6 := (h6.below hb).more hb.size
  replace b6 := blk_below b6 hb
  replace h7 := (h7.below hb).more hb.size
  replace h8 := (h8.below hb).more hb.size
  replace b8 := blk_below b8 hb
  replace h10 := (h10.below hb).more hb.size
  replace h11 := (h11.below hb).more hb.size
  replace b11 := blk_below b11 hb
  replace hbt := hbt.trans (hb.mono hbt.size)
  clear hb
  obtain ⟨V17, hV⟩ : ∃ V17, V17 = w16.alloc (.cells #[.int .i64 0, .int .i64 0, .int .i64 0, .int .i64 1] 62) := ⟨_, rfl⟩
  have b17 := blk_new hV
  have hb := below_new hV
  replace hm := (hb.cell (World.block_lt_of_cell? _ _ hm)).trans hm
  replace hS := (hS.below hb).more hb.size
  replace b1 := blk_below b1 hb
  replace x0 := (hb.cell (World.block_lt_of_cell? _ _ x0)).trans x0
  replace x1 := (hb.cell (World.block_lt_of_cell? _ _ x1)).trans x1
  replace h0 := (h0.below hb).more hb.size
  replace h1 := (h1.below hb).more hb.size
  replace h6 := (h6.below hb).more hb.size
  replace b6 := blk_below b6 hb
  replace h7 := (h7.below hb).more hb.size
  replace h8 := (h8.below hb).more hb.size
  replace b8 := blk_below b8 hb
  replace h10 := (h10.below hb).more hb.size
  replace h11 := (h11.below hb).more hb.size
  replace b11 := blk_below b11 hb
  replace hbt := hbt.trans (hb.mono hbt.size)
  clear hb
  have HSV17 : Hid (V17.heap.size = w16.heap.size + 1) := by show V17.heap.size = _; rw [hV, World.size_alloc]
  have HVV17 := Lib.hid hV.symm
  clear hV
  obtain ⟨V18, hV⟩ : ∃ V18, V18 = V17.alloc (.cells #[.slice (some ⟨w16.heap.size, 0, none⟩) 2 2] 31) := ⟨_, rfl⟩
  have b18 := blk_new hV
  have hb := below_new hV
  replace hm := (hb.cell (World.block_lt_of_cell? _ _ hm)).trans hm
  replace hS := (hS.below hb).more hb.size
  replace b1 := blk_below b1 hb
  replace x0 := (hb.cell (World.block_lt_of_cell? _ _ x0)).trans x0
  replace x1 := (hb.cell (World.block_lt_of_cell? _ _ x1)).trans x1
  replace h0 := (h0.below hb).more hb.size
  replace h1 := (h1.below hb).more hb.size
  replace h6 := (h6.below hb).more hb.size
  replace b6 := blk_below b6 hb
  replace h7 := (h7.below hb).more hb.size
  replace h8 := (h8.below hb).more hb.size
  replace b8 := blk_below b8 hb
  replace h10 := (h10.below hb).more hb.size
  replace h11 := (h11.below hb).more hb.size
  replace b11 := blk_below b11 hb
  replace b17 := blk_below b17 hb
  replace hbt := hbt.trans (hb.mono hbt.size)
  clear hb
  have HSV18 : Hid (V18.heap.size = V17.heap.size + 1) := by show V18.heap.size = _; rw [hV, World.size_alloc]
  have HVV18 := Lib.hid hV.symm
  clear hV
  rw [← HVV17.out] at HVV18
  rw [HSV17.out] at b18
  clear HSV17 HSV18 HVV17
  go_wp2_with fail
  rw [HVV18.out]
  clear HVV18
  have hw : RdP V18 V18.heap.size (some ⟨w16.heap.size, 0, none⟩) 2 2 Wk.two1 := ⟨RdK.blk 2 b17 rfl (by omega), ok_two1⟩
  clear b17
  have hT : decide (Wk.two1 = Wk.two1) = true := by simp
  have HT := Lib.hid hT
  clear hT
  refine wp_region_plan [([0, 1, 2, 3], some 4), ([5, 6, 7], some 8), ([9, 10, 11, 12], some 13), ([14, 15, 16, 17], some 18), ([19, 20], none)] (by kernel_rfl) (by kernel_rfl) ?_
  intro wd hsz hb
  clear hsz
  replace hm := (hb.cell (World.block_lt_of_cell? _ _ hm)).trans hm
  replace hS := (hS.below hb).more hb.size
  replace b1 := blk_below b1 hb
  replace x0 := (hb.cell (World.block_lt_of_cell? _ _ x0)).trans x0
  replace x1 := (hb.cell (World.block_lt_of_cell? _ _ x1)).trans x1
  replace h0 := (h0.below hb).more hb.size
  replace h1 := (h1.below hb).more hb.size
  replace h6 := (h6.below hb).more hb.size
  replace b6 := blk_below b6 hb
  replace h7 := (h7.below hb).more hb.size
  replace h8 := (h8.below hb).more hb.size
  replace b8 := blk_below b8 hb
  replace h10 := (h10.below hb).more hb.size
  replace h11 := (h11.below hb).more hb.size
  replace b11 := blk_below b11 hb
  replace b18 := blk_below b18 hb
  replace hw := (hw.below hb).more hb.size
  replace hbt := hbt.trans (hb.mono hbt.size)
  clear hb
  simp only [pickP, pick, List.map_cons, List.map_nil, Option.map_some, Option.map_none, List.getD_cons_zero, List.getD_cons_succ]
  have yy : ∀ x : Ext wd.heap.size wd, x.val.cell? ⟨ad.block, ad.off + 1, none⟩ = some (.slice A1 2 q1) := fun x => (x.cell (World.block_lt_of_cell? _ _ x1)).trans x1
  have yw : ∀ x : Ext wd.heap.size wd, x.val.cell? ⟨w16.heap.size + 1, 0, none⟩ = some (.slice (some ⟨w16.heap.size, 0, none⟩) 2 2) := fun x => ((x.cell (blk_lt b18)).trans (blk_cell b18)).trans rfl
  refine plan_cons ?_
  (repeat (go_big_quiet_step (fail)))
  refine plan_nil ?_
  clear yy yw
  refine plan_call (by kernel_rfl) (fun K hK => ?_)
  go_simp
  refine (same4_any A1 (some ⟨w16.heap.size, 0, none⟩) 2 q1 2 2 Wk.two1 Wk.two1 wd h1 hw).mono ?_
  rintro e w19 ⟨rfl, hb⟩
  rw [HT.out]
  refine hK.out _ _ hb ?_
  clear hK K
  (try simp only [Act.put, List.setIfInBounds_toArray, List.set_cons_zero, List.set_cons_succ])
  replace hm := (hb.cell (World.block_lt_of_cell? _ _ hm)).trans hm
  replace hS := (hS.below hb).more hb.size
  replace b1 := blk_below b1 hb
  replace x0 := (hb.cell (World.block_lt_of_cell? _ _ x0)).trans x0
  replace x1 := (hb.cell (World.block_lt_of_cell? _ _ x1)).trans x1
  replace h0 := (h0.below hb).more hb.size
  replace h1 := (h1.below hb).more hb.size
  replace h6 := (h6.below hb).more hb.size
  replace b6 := blk_below b6 hb
  replace h7 := (h7.below hb).more hb.size
  replace h8 := (h8.below hb).more hb.size
  replace b8 := blk_below b8 hb
  replace h10 := (h10.below hb).more hb.size
  replace h11 := (h11.below hb).more hb.size
  replace b11 := blk_below b11 hb
  replace b18 := blk_below b18 hb
  replace hw := (hw.below hb).more hb.size
  replace hbt := hbt.trans (hb.mono hbt.size)
  clear hb
  have yy : ∀ x : Ext w19.heap.size w19, x.val.cell? ⟨w6.heap.size, 0, none⟩ = some (.slice A6 2 q6) := fun x => ((x.cell (blk_lt b6)).trans (blk_cell b6)).trans rfl
  have yw : ∀ x : Ext w19.heap.size w19, x.val.cell? ⟨w16.heap.size + 1, 0, none⟩ = some (.slice (some ⟨w16.heap.size, 0, none⟩) 2 2) := fun x => ((x.cell (blk_lt b18)).trans (blk_cell b18)).trans rfl
  refine plan_cons ?_
  (repeat (go_big_quiet_step (fail)))
  refine plan_nil ?_
  clear yy yw
  refine plan_call (by kernel_rfl) (fun K hK => ?_)
  go_simp
  refine (same4_any A6 (some ⟨w16.heap.size, 0, none⟩) 2 q6 2 2 Wk.two1 Wk.two1 w19 h6 hw).mono ?_
  rintro e w20 ⟨rfl, hb⟩
  rw [HT.out]
  refine hK.out _ _ hb ?_
  clear hK K
  (try simp only [Act.put, List.setIfInBounds_toArray, List.set_cons_zero, List.set_cons_succ])
  replace hm := (hb.cell (World.block_lt_of_cell? _ _ hm)).trans hm
  replace hS := (hS.below hb).more hb.size
  replace b1 := blk_below b1 hb
  replace x0 := (hb.cell (World.block_lt_of_cell? _ _ x0)).trans x0
  replace x1 := (hb.cell (World.block_lt_of_cell? _ _ x1)).trans x1
  replace h0 := (h0.below hb).more hb.size
  replace h1 := (h1.below hb).more hb.size
  replace h6 := (h6.below hb).more hb.size
  replace b6 := blk_below b6 hb
  replace h7 := (h7.below hb).more hb.size
  replace h8 := (h8.below hb).more hb.size
  replace b8 := blk_below b8 hb
  replace h10 := (h10.below hb).more hb.size
  replace h11 := (h11.below hb).more hb.size
  replace b11 := blk_below b11 hb
  replace b18 := blk_below b18 hb
  replace hw := (hw.below hb).more hb.size
  replace hbt := hbt.trans (hb.mono hbt.size)
  clear hb
  have yy : ∀ x : Ext w20.heap.size w20, x.val.cell? ⟨w8.heap.size, 0, none⟩ = some (.slice A8 2 q8) := fun x => ((x.cell (blk_lt b8)).trans (blk_cell b8)).trans rfl
  have yw : ∀ x : Ext w20.heap.size w20, x.val.cell? ⟨w16.heap.size + 1, 0, none⟩ = some (.slice (some ⟨w16.heap.size, 0, none⟩) 2 2) := fun x => ((x.cell (blk_lt b18)).trans (blk_cell b18)).trans rfl
  refine plan_cons ?_
  (repeat (go_big_quiet_step (fail)))
  refine plan_nil ?_
  clear yy yw
  refine plan_call (by kernel_rfl) (fun K hK => ?_)
  go_simp
  refine (same4_any A8 (some ⟨w16.heap.size, 0, none⟩) 2 q8 2 2 Wk.two1 Wk.two1 w20 h8 hw).mono ?_
  rintro e w21 ⟨rfl, hb⟩
  rw [HT.out]
  refine hK.out _ _ hb ?_
  clear hK K
  (try simp only [Act.put, List.setIfInBounds_toArray, List.set_cons_zero, List.set_cons_succ])
  replace hm := (hb.cell (World.block_lt_of_cell? _ _ hm)).trans hm
  replace hS := (hS.below hb).more hb.size
  replace b1 := blk_below b1 hb
  replace x0 := (hb.cell (World.block_lt_of_cell? _ _ x0)).trans x0
  replace x1 := (hb.cell (World.block_lt_of_cell? _ _ x1)).trans x1
  replace h0 := (h0.below hb).more hb.size
  replace h1 := (h1.below hb).more hb.size
  replace h6 := (h6.below hb).more hb.size
  replace b6 := blk_below b6 hb
  replace h7 := (h7.below hb).more hb.size
  replace h8 := (h8.below hb).more hb.size
  replace b8 := blk_below b8 hb
  replace h10 := (h10.below hb).more hb.size
  replace h11 := (h11.below hb).more hb.size
  replace b11 := blk_below b11 hb
  replace b18 := blk_below b18 hb
  replace hw := (hw.below hb).more hb.size
  replace hbt := hbt.trans (hb.mono hbt.size)
  clear hb
  have yy : ∀ x : Ext w21.heap.size w21, x.val.cell? ⟨w11.heap.size, 0, none⟩ = some (.slice A11 2 q11) := fun x => ((x.cell (blk_lt b11)).trans (blk_cell b11)).trans rfl
  have yw : ∀ x : Ext w21.heap.size w21, x.val.cell? ⟨w16.heap.size + 1, 0, none⟩ = some (.slice (some ⟨w16.heap.size, 0, none⟩) 2 2) := fun x => ((x.cell (blk_lt b18)).trans (blk_cell b18)).trans rfl
  refine plan_cons ?_
  (repeat (go_big_quiet_step (fail)))
  refine plan_nil ?_
  clear yy yw
  refine plan_call (by kernel_rfl) (fun K hK => ?_)
  go_simp
  refine (same4_any A11 (some ⟨w16.heap.size, 0, none⟩) 2 q11 2 2 Wk.two1 Wk.two1 w21 h11 hw).mono ?_
  rintro e w22 ⟨rfl, hb⟩
  rw [HT.out]
  refine hK.out _ _ hb ?_
  clear hK K
  (try simp only [Act.put, List.setIfInBounds_toArray, List.set_cons_zero, List.set_cons_succ])
  replace hm := (hb.cell (World.block_lt_of_cell? _ _ hm)).trans hm
  replace hS := (hS.below hb).more hb.size
  replace b1 := blk_below b1 hb
  replace x0 := (hb.cell (World.block_lt_of_cell? _ _ x0)).trans x0
  replace x1 := (hb.cell (World.block_lt_of_cell? _ _ x1)).trans x1
  replace h0 := (h0.below hb).more hb.size
  replace h1 := (h1.below hb).more hb.size
  replace h6 := (h6.below hb).more hb.size
  replace b6 := blk_below b6 hb
  replace h7 := (h7.below hb).more hb.size
  replace h8 := (h8.below hb).more hb.size
  replace b8 := blk_below b8 hb
  replace h10 := (h10.below hb).more hb.size
  replace h11 := (h11.below hb).more hb.size
  replace b11 := blk_below b11 hb
  replace b18 := blk_below b18 hb
  replace hw := (hw.below hb).more hb.size
  replace hbt := hbt.trans (hb.mono hbt.size)
  clear hb
  refine plan_cons ?_
  (repeat (go_big_quiet_step (fail)))
  refine plan_nil ?_
  refine plan_end ?_
  obtain ⟨ad7, hA7, _, z0, z1, z2, _⟩ := h7.at_ (i := 0) (by omega) (by simp)
  subst hA7
  rw [Nat.zero_mul, add_zero'] at z0 z1 z2
  change w22.cell? ad7 = some (.int .i64 1) at z0
  change w22.cell? ⟨ad7.block, ad7.off + 1, none⟩ = some (.int .i64 0) at z1
  change w22.cell? ⟨ad7.block, ad7.off + 2, none⟩ = some (.int .i64 1) at z2
  have e7 : eqMv 1 0 1 1 0 1 = true := rfl
  have d0 := blk_cell (j := 0) b18
  simp only [List.getElem?_toArray, List.getElem?_cons_zero, List.getElem?_cons_succ] at d0
  have c0 := blk_cell (j := 0) b1
  simp only [List.getElem?_toArray, List.getElem?_cons_zero, List.getElem?_cons_succ] at c0
  have c1 := blk_cell (j := 1) b1
  simp only [List.getElem?_toArray, List.getElem?_cons_zero, List.getElem?_cons_succ] at c1
  have c2 := blk_cell (j := 2) b1
  simp only [List.getElem?_toArray, List.getElem?_cons_zero, List.getElem?_cons_succ] at c2
  have c3 := blk_cell (j := 3) b1
  simp only [List.getElem?_toArray, List.getElem?_cons_zero, List.getElem?_cons_succ] at c3
  have c4 := blk_cell (j := 4) b1
  simp only [List.getElem?_toArray, List.getElem?_cons_zero, List.getElem?_cons_succ] at c4
  go_wp2_with fail
  clear c0 c1 c2 c3 c4 d0 z0 z1 z2
  refine (wCheck_any ⟨aS, 2, cS, aR, 2, cR, aP, 0, cP, aG, 0, cG, aL, 2, cL⟩ Wk.two (some ⟨w16.heap.size, 0, none⟩) 2 2 Wk.two1 mx w22 hS hw hm).mono ?_
  rintro e w23 ⟨rfl, hb⟩
  rw [Wk.two_chk1]
  replace hm := (hb.cell (World.block_lt_of_cell? _ _ hm)).trans hm
  replace hS := (hS.below hb).more hb.size
  replace b1 := blk_below b1 hb
  replace x0 := (hb.cell (World.block_lt_of_cell? _ _ x0)).trans x0
  replace x1 := (hb.cell (World.block_lt_of_cell? _ _ x1)).trans x1
  replace h0 := (h0.below hb).more hb.size
  replace h1 := (h1.below hb).more hb.size
  replace h6 := (h6.below hb).more hb.size
  replace b6 := blk_below b6 hb
  replace h7 := (h7.below hb).more hb.size
  replace h8 := (h8.below hb).more hb.size
  replace b8 := blk_below b8 hb
  replace h10 := (h10.below hb).more hb.size
  replace h11 := (h11.below hb).more hb.size
  replace b11 := blk_below b11 hb
  replace b18 := blk_below b18 hb
  replace hw := (hw.below hb).more hb.size
  replace hbt := hbt.trans (hb.mono hbt.size)
  clear hb
  have c0 := blk_cell (j := 0) b1
  simp only [List.getElem?_toArray, List.getElem?_cons_zero, List.getElem?_cons_succ] at c0
  have c1 := blk_cell (j := 1) b1
  simp only [List.getElem?_toArray, List.getElem?_cons_zero, List.getElem?_cons_succ] at c1
  have c2 := blk_cell (j := 2) b1
  simp only [List.getElem?_toArray, List.getElem?_cons_zero, List.getElem?_cons_succ] at c2
  have c3 := blk_cell (j := 3) b1
  simp only [List.getElem?_toArray, List.getElem?_cons_zero, List.getElem?_cons_succ] at c3
  have c4 := blk_cell (j := 4) b1
  simp only [List.getElem?_toArray, List.getElem?_cons_zero, List.getElem?_cons_succ] at c4
  go_wp2_with fail
  clear c0 c1 c2 c3 c4
  refine (wCheck_any ⟨aS, 2, cS, aR, 2, cR, aP, 0, cP, aG, 0, cG, aL, 2, cL⟩ Wk.two none 0 0 [] mx w23 hS (RdP.nil _ _) hm).mono ?_
  rintro e w24 ⟨rfl, hb⟩
  rw [Wk.two_chk0]
  replace hm := (hb.cell (World.block_lt_of_cell? _ _ hm)).trans hm
  replace hS := (hS.below hb).more hb.size
  replace b1 := blk_below b1 hb
  replace x0 := (hb.cell (World.block_lt_of_cell? _ _ x0)).trans x0
  replace x1 := (hb.cell (World.block_lt_of_cell? _ _ x1)).trans x1
  replace h0 := (h0.below hb).more hb.size
  replace h1 := (h1.below hb).more hb.size
  replace h6 := (h6.below hb).more hb.size
  replace b6 := blk_below b6 hb
  replace h7 := (h7.below hb).more hb.size
  replace h8 := (h8.below hb).more hb.size
  replace b8 := blk_below b8 hb
  replace h10 := (h10.below hb).more hb.size
  replace h11 := (h11.below hb).more hb.size
  replace b11 := blk_below b11 hb
  replace b18 := blk_below b18 hb
  replace hw := (hw.below hb).more hb.size
  replace hbt := hbt.trans (hb.mono hbt.size)
  clear hb
  go_wp2_with fail
  go_ret
  exact ⟨rfl, hbt⟩

end Go.Proofs.YtojbjaklngdlcaaGreatDoor
