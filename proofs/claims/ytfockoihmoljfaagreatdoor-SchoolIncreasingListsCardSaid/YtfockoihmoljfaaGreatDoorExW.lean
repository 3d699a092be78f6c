/-
  The walk of the laws' example of a school.
-/
import Derived.Test.YtfockoihmoljfaaGreatDoorGetW3
import Derived.Lib.SliceRun
namespace Go.Proofs.YtfockoihmoljfaaGreatDoor
open Go.RowKit Go.Shelf
set_option linter.unusedVariables false
set_option linter.unusedSimpArgs false

namespace Sc
def ex : Sch := { slots := [⟨[109, 111, 110, 49], 0, 0⟩, ⟨[116, 117, 101, 49], 1, 0⟩], rooms := [⟨[114, 49], 0, 30, [1]⟩], people := [⟨[97, 110, 110], [0]⟩], groups := [⟨[103, 49], 12⟩, ⟨[103, 50], 9⟩], lessons := [⟨[109, 97, 116, 104], [0], [0, 1]⟩] }
end Sc
/-- The example's school, in new memory. -/
def ExPost (w : World) (e : Ending) (w' : World) : Prop := ∃ f : Sc.Five, e = .returned (.agg f.vals) ∧ Sc.RdSch w' w'.heap.size f Sc.ex ∧ Below w.heap.size w w'
/-- Rows of k cells in one block. -/
theorem rdS_blk {α : Type} (k : Nat) {R : World → Nat → α → List Value → Prop} {w : World} {b : Nat} {cs : Array Value} {t : TypeId} {fr : Nat × Nat} {l : List α} {rows : List (List Value)} (h : w.heap[b]? = some (.cells cs t fr)) (hr : rows.flatten = cs.toList)
    (hl : rows.length = l.length) (hk : ∀ r ∈ rows, r.length = k) (hm : l.length ≤ 9223372036854775807) (hR : ∀ (i : Nat) (x : α) (r : List Value), l[i]? = some x → rows[i]? = some r → R w w.heap.size x r) : RdS k R w w.heap.size (some ⟨b, 0, none⟩) l.length l.length l := by
  refine ⟨rows, hl, hk, ?_, hR⟩
  rw [hr]
  refine RdK.blk k h ?_ hm
  have := flatten_len hk
  rw [hr, hl] at this
  simpa using this
theorem rows2 {α β : Type} {R : α → β → Prop} {a b : α} {c d : β} (h1 : R a c) (h2 : R b d) : ∀ (i : Nat) (x : α) (r : β), [a, b][i]? = some x → [c, d][i]? = some r → R x r := by
  intro i x r hx hr
  rcases i with _ | _ | i
  · simp at hx hr; subst hx hr; exact h1
  · simp at hx hr; subst hx hr; exact h2
  · simp at hx
theorem rows1 {α β : Type} {R : α → β → Prop} {a : α} {c : β} (h1 : R a c) : ∀ (i : Nat) (x : α) (r : β), [a][i]? = some x → [c][i]? = some r → R x r := by
  intro i x r hx hr
  rcases i with _ | i
  · simp at hx hr; subst hx hr; exact h1
  · simp at hx

set_option maxRecDepth 100000 in
set_option maxHeartbeats 4000000 in
theorem example_any (w : World) :
    Calls Tryz.prog 29 #[] w (ExPost w) := by
  have hbt := Below.refl w.heap.size w
  obtain ⟨V1, hV⟩ : ∃ V1, V1 = w.alloc (.cells #[.slice (some ⟨w.heap.size + 1, 0, none⟩) 2 2, .slice (some ⟨w.heap.size + 3, 0, none⟩) 1 1, .slice (some ⟨w.heap.size + 5, 0, none⟩) 1 1, .slice (some ⟨w.heap.size + 6, 0, none⟩) 2 2, .slice (some ⟨w.heap.size + 9, 0, none⟩) 1 1] 28) := ⟨_, rfl⟩
  have b1 := blk_new hV
  have hb := below_new hV
  replace hbt := hbt.trans (hb.mono hbt.size)
  clear hb
  have HSV1 : Hid (V1.heap.size = w.heap.size + 1) := by show V1.heap.size = _; rw [hV, World.size_alloc]
  have HVV1 := Lib.hid hV.symm
  clear hV
  obtain ⟨V2, hV⟩ : ∃ V2, V2 = V1.alloc (.cells #[.string ⟨#[109, 111, 110, 49]⟩, .int .i64 0, .int .i64 0, .string ⟨#[116, 117, 101, 49]⟩, .int .i64 1, .int .i64 0] 69) := ⟨_, rfl⟩
  have b2 := blk_new hV
  have hb := below_new hV
  replace b1 := blk_below b1 hb
  replace hbt := hbt.trans (hb.mono hbt.size)
  clear hb
  have HSV2 : Hid (V2.heap.size = V1.heap.size + 1) := by show V2.heap.size = _; rw [hV, World.size_alloc]
  have HVV2 := Lib.hid hV.symm
  clear hV
  rw [HSV1.out] at b2 HSV2
  rw [← HVV1.out] at HVV2
  obtain ⟨V3, hV⟩ : ∃ V3, V3 = V2.alloc (.cells #[.int .i64 1] 3) := ⟨_, rfl⟩
  have b3 := blk_new hV
  have hb := below_new hV
  replace b1 := blk_below b1 hb
  replace b2 := blk_below b2 hb
  replace hbt := hbt.trans (hb.mono hbt.size)
  clear hb
  have HSV3 : Hid (V3.heap.size = V2.heap.size + 1) := by show V3.heap.size = _; rw [hV, World.size_alloc]
  have HVV3 := Lib.hid hV.symm
  clear hV
  rw [HSV2.out] at b3 HSV3
  rw [← HVV2.out] at HVV3
  obtain ⟨V4, hV⟩ : ∃ V4, V4 = V3.alloc (.cells #[.string ⟨#[114, 49]⟩, .int .i64 0, .int .i64 30, .slice (some ⟨w.heap.size + 2, 0, none⟩) 1 1] 53) := ⟨_, rfl⟩
  have b4 := blk_new hV
  have hb := below_new hV
  replace b1 := blk_below b1 hb
  replace b2 := blk_below b2 hb
  replace b3 := blk_below b3 hb
  replace hbt := hbt.trans (hb.mono hbt.size)
  clear hb
  have HSV4 : Hid (V4.heap.size = V3.heap.size + 1) := by show V4.heap.size = _; rw [hV, World.size_alloc]
  have HVV4 := Lib.hid hV.symm
  clear hV
  rw [HSV3.out] at b4 HSV4
  rw [← HVV3.out] at HVV4
  obtain ⟨V5, hV⟩ : ∃ V5, V5 = V4.alloc (.cells #[.int .i64 0] 3) := ⟨_, rfl⟩
  have b5 := blk_new hV
  have hb := below_new hV
  replace b1 := blk_below b1 hb
  replace b2 := blk_below b2 hb
  replace b3 := blk_below b3 hb
  replace b4 := blk_below b4 hb
  replace hbt := hbt.trans (hb.mono hbt.size)
  clear hb
  have HSV5 : Hid (V5.heap.size = V4.heap.size + 1) := by show V5.heap.size = _; rw [hV, World.size_alloc]
  have HVV5 := Lib.hid hV.symm
  clear hV
  rw [HSV4.out] at b5 HSV5
  rw [← HVV4.out] at HVV5
  obtain ⟨V6, hV⟩ : ∃ V6, V6 = V5.alloc (.cells #[.string ⟨#[97, 110, 110]⟩, .slice (some ⟨w.heap.size + 4, 0, none⟩) 1 1] 57) := ⟨_, rfl⟩
  have b6 := blk_new hV
  have hb := below_new hV
  replace b1 := blk_below b1 hb
  replace b2 := blk_below b2 hb
  replace b3 := blk_below b3 hb
  replace b4 := blk_below b4 hb
  replace b5 := blk_below b5 hb
  replace hbt := hbt.trans (hb.mono hbt.size)
  clear hb
  have HSV6 : Hid (V6.heap.size = V5.heap.size + 1) := by show V6.heap.size = _; rw [hV, World.size_alloc]
  have HVV6 := Lib.hid hV.symm
  clear hV
  rw [HSV5.out] at b6 HSV6
  rw [← HVV5.out] at HVV6
  obtain ⟨V7, hV⟩ : ∃ V7, V7 = V6.alloc (.cells #[.string ⟨#[103, 49]⟩, .int .i64 12, .string ⟨#[103, 50]⟩, .int .i64 9] 49) := ⟨_, rfl⟩
  have b7 := blk_new hV
  have hb := below_new hV
  replace b1 := blk_below b1 hb
  replace b2 := blk_below b2 hb
  replace b3 := blk_below b3 hb
  replace b4 := blk_below b4 hb
  replace b5 := blk_below b5 hb
  replace b6 := blk_below b6 hb
  replace hbt := hbt.trans (hb.mono hbt.size)
  clear hb
  have HSV7 : Hid (V7.heap.size = V6.heap.size + 1) := by show V7.heap.size = _; rw [hV, World.size_alloc]
  have HVV7 := Lib.hid hV.symm
  clear hV
  rw [HSV6.out] at b7 HSV7
  rw [← HVV6.out] at HVV7
  obtain ⟨V8, hV⟩ : ∃ V8, V8 = V7.alloc (.cells #[.int .i64 0] 3) := ⟨_, rfl⟩
  have b8 := blk_new hV
  have hb := below_new hV
  replace b1 := blk_below b1 hb
  replace b2 := blk_below b2 hb
  replace b3 := blk_below b3 hb
  replace b4 := blk_below b4 hb
  replace b5 := blk_below b5 hb
  replace b6 := blk_below b6 hb
  replace b7 := blk_below b7 hb
  replace hbt := hbt.trans (hb.mono hbt.size)
  clear hb
  have HSV8 : Hid (V8.heap.size = V7.heap.size + 1) := by show V8.heap.size = _; rw [hV, World.size_alloc]
  have HVV8 := Lib.hid hV.symm
  clear hV
  rw [HSV7.out] at b8 HSV8
  rw [← HVV7.out] at HVV8
  obtain ⟨V9, hV⟩ : ∃ V9, V9 = V8.alloc (.cells #[.int .i64 0, .int .i64 1] 3) := ⟨_, rfl⟩
  have b9 := blk_new hV
  have hb := below_new hV
  replace b1 := blk_below b1 hb
  replace b2 := blk_below b2 hb
  replace b3 := blk_below b3 hb
  replace b4 := blk_below b4 hb
  replace b5 := blk_below b5 hb
  replace b6 := blk_below b6 hb
  replace b7 := blk_below b7 hb
  replace b8 := blk_below b8 hb
  replace hbt := hbt.trans (hb.mono hbt.size)
  clear hb
  have HSV9 : Hid (V9.heap.size = V8.heap.size + 1) := by show V9.heap.size = _; rw [hV, World.size_alloc]
  have HVV9 := Lib.hid hV.symm
  clear hV
  rw [HSV8.out] at b9 HSV9
  rw [← HVV8.out] at HVV9
  obtain ⟨V10, hV⟩ : ∃ V10, V10 = V9.alloc (.cells #[.string ⟨#[109, 97, 116, 104]⟩, .slice (some ⟨w.heap.size + 7, 0, none⟩) 1 1, .slice (some ⟨w.heap.size + 8, 0, none⟩) 2 2] 59) := ⟨_, rfl⟩
  have b10 := blk_new hV
  have hb := below_new hV
  replace b1 := blk_below b1 hb
  replace b2 := blk_below b2 hb
  replace b3 := blk_below b3 hb
  replace b4 := blk_below b4 hb
  replace b5 := blk_below b5 hb
  replace b6 := blk_below b6 hb
  replace b7 := blk_below b7 hb
  replace b8 := blk_below b8 hb
  replace b9 := blk_below b9 hb
  replace hbt := hbt.trans (hb.mono hbt.size)
  clear hb
  have HSV10 : Hid (V10.heap.size = V9.heap.size + 1) := by show V10.heap.size = _; rw [hV, World.size_alloc]
  have HVV10 := Lib.hid hV.symm
  clear hV
  rw [HSV9.out] at b10 HSV10
  rw [← HVV9.out] at HVV10
  go_enter Tryz.func29, Tryz.ntmps29
  go_wp2_with fail
  rw [HVV10.out]
  clear HVV1 HVV2 HVV3 HVV4 HVV5 HVV6 HVV7 HVV8 HVV9 HVV10
  refine bodyPost_ret (results_cell_row Tryz.results29 _ _ w.heap.size 28 #[.slice (some ⟨w.heap.size + 1, 0, none⟩) 2 2, .slice (some ⟨w.heap.size + 3, 0, none⟩) 1 1, .slice (some ⟨w.heap.size + 5, 0, none⟩) 1 1, .slice (some ⟨w.heap.size + 6, 0, none⟩) 2 2, .slice (some ⟨w.heap.size + 9, 0, none⟩) 1 1] (0, 0) _ rfl b1 Tryz.underlying28 rfl infoSch) rfl ?_
  have rb3 : RdI V10 V10.heap.size (some ⟨w.heap.size + 2, 0, none⟩) 1 1 [1] := ⟨Rd.blk b3 rfl (by omega), by simp [okIs]⟩
  have rb5 : RdI V10 V10.heap.size (some ⟨w.heap.size + 4, 0, none⟩) 1 1 [0] := ⟨Rd.blk b5 rfl (by omega), by simp [okIs]⟩
  have rb8 : RdI V10 V10.heap.size (some ⟨w.heap.size + 7, 0, none⟩) 1 1 [0] := ⟨Rd.blk b8 rfl (by omega), by simp [okIs]⟩
  have rb9 : RdI V10 V10.heap.size (some ⟨w.heap.size + 8, 0, none⟩) 2 2 [0, 1] := ⟨Rd.blk b9 rfl (by omega), by simp [okIs]⟩
  refine ⟨⟨some ⟨w.heap.size + 1, 0, none⟩, 2, 2, some ⟨w.heap.size + 3, 0, none⟩, 1, 1, some ⟨w.heap.size + 5, 0, none⟩, 1, 1, some ⟨w.heap.size + 6, 0, none⟩, 2, 2, some ⟨w.heap.size + 9, 0, none⟩, 1, 1⟩, rfl, ⟨?_, ?_, ?_, ?_, ?_⟩, hbt⟩
  · exact rdS_blk 3 (rows := [[.string ⟨#[109, 111, 110, 49]⟩, .int .i64 0, .int .i64 0], [.string ⟨#[116, 117, 101, 49]⟩, .int .i64 1, .int .i64 0]]) b2 rfl rfl (by simp) (by decide) (rows2 (R := Sc.RSlo V10 V10.heap.size) ⟨rfl, by simp [Sc.okT], by simp [okI], by simp [okI]⟩ ⟨rfl, by simp [Sc.okT], by simp [okI], by simp [okI]⟩)
  · exact rdS_blk 4 (rows := [[.string ⟨#[114, 49]⟩, .int .i64 0, .int .i64 30, .slice (some ⟨w.heap.size + 2, 0, none⟩) 1 1]]) b4 rfl rfl (by simp) (by decide) (rows1 (R := Sc.RRoo V10 V10.heap.size) ⟨_, _, rfl, rb3, by simp [Sc.okT], by simp [okI], by simp [okI]⟩)
  · exact rdS_blk 2 (rows := [[.string ⟨#[97, 110, 110]⟩, .slice (some ⟨w.heap.size + 4, 0, none⟩) 1 1]]) b6 rfl rfl (by simp) (by decide) (rows1 (R := Sc.RPer V10 V10.heap.size) ⟨_, _, rfl, rb5, by simp [Sc.okT]⟩)
  · exact rdS_blk 2 (rows := [[.string ⟨#[103, 49]⟩, .int .i64 12], [.string ⟨#[103, 50]⟩, .int .i64 9]]) b7 rfl rfl (by simp) (by decide) (rows2 (R := Sc.RGro V10 V10.heap.size) ⟨rfl, by simp [Sc.okT], by simp [okI]⟩ ⟨rfl, by simp [Sc.okT], by simp [okI]⟩)
  · exact rdS_blk 3 (rows := [[.string ⟨#[109, 97, 116, 104]⟩, .slice (some ⟨w.heap.size + 7, 0, none⟩) 1 1, .slice (some ⟨w.heap.size + 8, 0, none⟩) 2 2]]) b10 rfl rfl (by simp) (by decide) (rows1 (R := Sc.RLes V10 V10.heap.size) ⟨_, _, _, _, rfl, rb8, rb9, by simp [Sc.okT]⟩)

end Go.Proofs.YtfockoihmoljfaaGreatDoor
