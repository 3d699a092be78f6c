/-
  The law's live.
-/
import Derived.Test.YtmighpfjjaaknaaFewW
namespace Go.Proofs.Ytmighpfjjaaknaa
open Go.RowKit
set_option linter.unusedVariables false
set_option linter.unusedSimpArgs false

theorem blk_below {w w' : World} {b : Nat} {o : Obj} (h : w.heap[b]? = some o) (hb : Below w.heap.size w w') : w'.heap[b]? = some o := (hb.block b (Array.getElem?_eq_some_iff.1 h).1).trans h
def liveA : List Pl := [(0, 0)]
def liveB : List Pl := [(1, 0)]
def liveV : List Ver := [⟨1, liveA, 0, false⟩, ⟨2, liveB, 3, true⟩]
def liveD : List Mv := [⟨0, (1, 0)⟩]
theorem live_e1 : replyE liveV 1 4 = 0 := by decide
theorem live_e0 : replyE liveV 0 4 = 0 := by decide
theorem live_e2 : replyE liveV 2 4 = 341 := by decide
theorem live_m1 : replyM liveV 1 4 = ⟨2, 4, 1, 2, [], liveD⟩ := by rfl
theorem live_m0 : replyM liveV 0 4 = ⟨1, 4, 0, 2, liveB, []⟩ := by rfl
theorem live_m2 : replyM liveV 2 4 = ⟨0, 0, 0, 0, [], []⟩ := by rfl
theorem live_t1 : takeC ⟨1, liveA⟩ ⟨2, 4, 1, 2, [], liveD⟩ = ⟨2, liveB⟩ ∧ takeE ⟨1, liveA⟩ ⟨2, 4, 1, 2, [], liveD⟩ = 0 := ⟨rfl, rfl⟩
theorem live_t2 : takeC ⟨2, liveB⟩ ⟨2, 4, 1, 2, [], liveD⟩ = ⟨0, []⟩ ∧ takeE ⟨2, liveB⟩ ⟨2, 4, 1, 2, [], liveD⟩ = 341 := ⟨rfl, rfl⟩
theorem live_t3 : takeC ⟨0, []⟩ ⟨2, 4, 1, 2, [], liveD⟩ = ⟨0, []⟩ ∧ takeE ⟨0, []⟩ ⟨2, 4, 1, 2, [], liveD⟩ = 350 := ⟨rfl, rfl⟩
theorem live_t4 : takeC ⟨0, []⟩ ⟨1, 4, 0, 2, liveB, []⟩ = ⟨2, liveB⟩ ∧ takeE ⟨0, []⟩ ⟨1, 4, 0, 2, liveB, []⟩ = 0 := ⟨rfl, rfl⟩
theorem live_c : checkB liveV = true := by decide
theorem live_c1 : checkB (liveV.drop 1) = false := by decide

theorem run_field_msg3 (x0 x1 x2 x3 x4 x5 : Value) (w : World) : (Instr.field 32 (.agg #[x0, x1, x2, x3, x4, x5]) 3).run Try.prog w = .ok x3 w := by
  simp [Instr.field, run_underlying Try.underlying32, go_sem, asAgg]
attribute [local go_sem ↓] run_field_msg3
theorem RdK.blk {k : Nat} {w : World} {b : Nat} {cs : Array Value} {t : TypeId} {fr : Nat × Nat} {n : Nat} (h : w.heap[b]? = some (.cells cs t fr)) (hn : cs.size = n * k) (hm : n ≤ 9223372036854775807) : RdK k w w.heap.size (some ⟨b, 0, none⟩) n n cs.toList :=
  ⟨by simpa using hn, Nat.le_refl _, by unfold maxLen; omega, fun _ => ⟨_, rfl, (Array.getElem?_eq_some_iff.1 h).1, fun j u hu => by
    rw [add_lit0, cell_of_row w b j cs t fr h]
    simpa using hu⟩⟩
theorem blk_new {w W : World} {o : Obj} (h : W = w.alloc o) : W.heap[w.heap.size]? = some o := by rw [h]; exact heap_alloc_new _ _
theorem below_new {w W : World} {o : Obj} (h : W = w.alloc o) : Below w.heap.size w W := by rw [h]; exact (Below.refl _ _).alloc (Nat.le_refl _) _
theorem own_rdP {w : World} {base n : Nat} {v : Value} {l : List Pl} (h : w.ownsRow base 60 2 v n (pv l)) (hl : okPs l) : ∃ A c, v = .slice A n c ∧ RdP w w.heap.size A n c l := by
  obtain ⟨A, c, h1, h2⟩ := own_rdK h
  exact ⟨A, c, h1, h2, hl⟩
theorem own_rdM {w : World} {base n : Nat} {v : Value} {l : List Mv} (h : w.ownsRow base 64 3 v n (mv l)) (hl : okMs l) : ∃ A c, v = .slice A n c ∧ RdM w w.heap.size A n c l := by
  obtain ⟨A, c, h1, h2⟩ := own_rdK h
  exact ⟨A, c, h1, h2, hl⟩
theorem ok_liveA : okPs liveA := by simp [okPs, liveA, okI]
theorem ok_liveB : okPs liveB := by simp [okPs, liveB, okI]
theorem ok_liveD : okMs liveD := by simp [okMs, liveD, okI]

set_option maxRecDepth 20000 in
set_option maxHeartbeats 1000000 in
theorem live_any (w : World) : Calls Try.prog 11 #[] w fun e w' => e = .returned (.bool true) ∧ Below w.heap.size w w' := by
  obtain ⟨W1, hW1⟩ : ∃ W1, W1 = w.alloc (.cells #[.int .i64 0, .int .i64 0] 60) := ⟨_, rfl⟩
  obtain ⟨W2, hW2⟩ : ∃ W2, W2 = W1.alloc (.cells #[.slice (some ⟨w.heap.size, 0, none⟩) 1 1] 25) := ⟨_, rfl⟩
  obtain ⟨W3, hW3⟩ : ∃ W3, W3 = W2.alloc (.cells #[.int .i64 1, .int .i64 0] 60) := ⟨_, rfl⟩
  obtain ⟨W4, hW4⟩ : ∃ W4, W4 = W3.alloc (.cells #[.slice (some ⟨w.heap.size + 1 + 1, 0, none⟩) 1 1] 25) := ⟨_, rfl⟩
  obtain ⟨W5, hW5⟩ : ∃ W5, W5 = W4.alloc (.cells #[.int .i64 1, .slice (some ⟨w.heap.size, 0, none⟩) 1 1, .int .i64 0, .bool false, .int .i64 2, .slice (some ⟨w.heap.size + 1 + 1, 0, none⟩) 1 1, .int .i64 3, .bool true] 52) := ⟨_, rfl⟩
  have s1 : W1.heap.size = w.heap.size + 1 := by rw [hW1, World.size_alloc]
  have b1 := blk_new hW1
  have n1 := below_new hW1
  have hbt := n1
  have s2 : W2.heap.size = w.heap.size + 1 + 1 := by rw [hW2, World.size_alloc, s1]
  have b2 := blk_new hW2
  rw [s1] at b2
  have n2 := below_new hW2
  replace b1 := blk_below b1 n2
  replace hbt := hbt.trans (n2.mono hbt.size)
  have s3 : W3.heap.size = w.heap.size + 1 + 1 + 1 := by rw [hW3, World.size_alloc, s2]
  have b3 := blk_new hW3
  rw [s2] at b3
  have n3 := below_new hW3
  replace b1 := blk_below b1 n3
  replace b2 := blk_below b2 n3
  replace hbt := hbt.trans (n3.mono hbt.size)
  have s4 : W4.heap.size = w.heap.size + 1 + 1 + 1 + 1 := by rw [hW4, World.size_alloc, s3]
  have b4 := blk_new hW4
  rw [s3] at b4
  have n4 := below_new hW4
  replace b1 := blk_below b1 n4
  replace b2 := blk_below b2 n4
  replace b3 := blk_below b3 n4
  replace hbt := hbt.trans (n4.mono hbt.size)
  have s5 : W5.heap.size = w.heap.size + 1 + 1 + 1 + 1 + 1 := by rw [hW5, World.size_alloc, s4]
  have b5 := blk_new hW5
  rw [s4] at b5
  have n5 := below_new hW5
  replace b1 := blk_below b1 n5
  replace b2 := blk_below b2 n5
  replace b3 := blk_below b3 n5
  replace b4 := blk_below b4 n5
  replace hbt := hbt.trans (n5.mono hbt.size)
  have ra : RdP W5 W5.heap.size (some ⟨w.heap.size, 0, none⟩) 1 1 liveA := ⟨RdK.blk b1 rfl (by omega), ok_liveA⟩
  have rb : RdP W5 W5.heap.size (some ⟨w.heap.size + 1 + 1, 0, none⟩) 1 1 liveB := ⟨RdK.blk b3 rfl (by omega), ok_liveB⟩
  have rv : RdV W5 W5.heap.size (some ⟨w.heap.size + 1 + 1 + 1 + 1, 0, none⟩) 2 2 liveV := by
    refine ⟨[.slice (some ⟨w.heap.size, 0, none⟩) 1 1, .slice (some ⟨w.heap.size + 1 + 1, 0, none⟩) 1 1], rfl, RdK.blk b5 rfl (by omega), fun i v s hi hs => ?_⟩
    match i, hi, hs with
    | 0, hi, hs => cases hi; cases hs; exact ⟨_, _, rfl, ra, by simp [okI], by simp [okI]⟩
    | 1, hi, hs => cases hi; cases hs; exact ⟨_, _, rfl, rb, by simp [okI], by simp [okI]⟩
    | (n + 2), hi, hs => cases hi
  clear b1 b3 b5 n1 n2 n3 n4 n5
  have hW : ((((w.alloc (.cells #[.int .i64 0, .int .i64 0] 60)).alloc (.cells #[.slice (some ⟨w.heap.size, 0, none⟩) 1 1] 25)).alloc (.cells #[.int .i64 1, .int .i64 0] 60)).alloc (.cells #[.slice (some ⟨w.heap.size + 1 + 1, 0, none⟩) 1 1] 25)).alloc (.cells #[.int .i64 1, .slice (some ⟨w.heap.size, 0, none⟩) 1 1, .int .i64 0, .bool false, .int .i64 2, .slice (some ⟨w.heap.size + 1 + 1, 0, none⟩) 1 1, .int .i64 3, .bool true] 52) = W5 := by rw [hW5, hW4, hW3, hW2, hW1]
  have HW := Lib.hid hW
  clear hW hW1 hW2 hW3 hW4 hW5 s1 s2 s3 s4 s5
  go_enter Try.func11, Try.ntmps11
  go_wp2_with fail
  rw [HW.out]
  clear HW
  refine (reply_any _ 2 2 liveV 1 4 W5 rv (by omega) (by decide)).mono ?_
  rintro e w1 ⟨v, u, rfl, ho, hp, hb⟩
  rw [live_m1] at ho hp ⊢
  rw [live_e1]
  obtain ⟨A1, k1, rfl, q1⟩ := own_rdP (n := 0) ho (by simp [okPs])
  obtain ⟨P1, j1, rfl, r1⟩ := own_rdM (n := 1) hp ok_liveD
  clear ho hp
  replace b2 := blk_below b2 hb
  replace b4 := blk_below b4 hb
  replace ra := (ra.below hb).more hb.size
  replace rb := (rb.below hb).more hb.size
  replace rv := (rv.below hb).more hb.size
  replace hbt := hbt.trans (hb.mono hbt.size)
  clear hb
  obtain ⟨V1, hV⟩ : ∃ V1, V1 = w1.alloc (.cells #[.int .i64 2, .int .i64 4, .int .i64 1, .int .i64 2, .slice A1 0 k1, .slice P1 1 j1] 32) := ⟨_, rfl⟩
  have d1 := blk_new hV
  have hb := below_new hV
  replace b2 := blk_below b2 hb
  replace b4 := blk_below b4 hb
  replace ra := (ra.below hb).more hb.size
  replace rb := (rb.below hb).more hb.size
  replace rv := (rv.below hb).more hb.size
  replace q1 := (q1.below hb).more hb.size
  replace r1 := (r1.below hb).more hb.size
  replace hbt := hbt.trans (hb.mono hbt.size)
  clear hb
  have HV := Lib.hid hV.symm
  clear hV
  go_wp2_with fail
  rw [HV.out]
  clear HV
  refine (reply_any _ 2 2 liveV 0 4 V1 rv (by omega) (by decide)).mono ?_
  rintro e w2 ⟨v, u, rfl, ho, hp, hb⟩
  rw [live_m0] at ho hp ⊢
  rw [live_e0]
  obtain ⟨A2, k2, rfl, q2⟩ := own_rdP (n := 1) ho ok_liveB
  obtain ⟨P2, j2, rfl, r2⟩ := own_rdM (n := 0) hp (by simp [okMs])
  clear ho hp
  replace b2 := blk_below b2 hb
  replace b4 := blk_below b4 hb
  replace ra := (ra.below hb).more hb.size
  replace rb := (rb.below hb).more hb.size
  replace rv := (rv.below hb).more hb.size
  replace q1 := (q1.below hb).more hb.size
  replace r1 := (r1.below hb).more hb.size
  replace d1 := blk_below d1 hb
  replace hbt := hbt.trans (hb.mono hbt.size)
  clear hb
  obtain ⟨V2, hV⟩ : ∃ V2, V2 = w2.alloc (.cells #[.int .i64 1, .int .i64 4, .int .i64 0, .int .i64 2, .slice A2 1 k2, .slice P2 0 j2] 32) := ⟨_, rfl⟩
  have d2 := blk_new hV
  have hb := below_new hV
  replace b2 := blk_below b2 hb
  replace b4 := blk_below b4 hb
  replace ra := (ra.below hb).more hb.size
  replace rb := (rb.below hb).more hb.size
  replace rv := (rv.below hb).more hb.size
  replace q1 := (q1.below hb).more hb.size
  replace r1 := (r1.below hb).more hb.size
  replace d1 := blk_below d1 hb
  replace q2 := (q2.below hb).more hb.size
  replace r2 := (r2.below hb).more hb.size
  replace hbt := hbt.trans (hb.mono hbt.size)
  clear hb
  have HV := Lib.hid hV.symm
  clear hV
  go_wp2_with fail
  rw [HV.out]
  clear HV
  refine (reply_any _ 2 2 liveV 2 4 V2 rv (by omega) (by decide)).mono ?_
  rintro e w3 ⟨v, u, rfl, ho, hp, hb⟩
  rw [live_m2] at ho hp ⊢
  rw [live_e2]
  obtain ⟨A3, k3, rfl, q3⟩ := own_rdP (n := 0) ho (by simp [okPs, zeroM])
  obtain ⟨P3, j3, rfl, r3⟩ := own_rdM (n := 0) hp (by simp [okMs, zeroM])
  clear ho hp
  replace b2 := blk_below b2 hb
  replace b4 := blk_below b4 hb
  replace ra := (ra.below hb).more hb.size
  replace rb := (rb.below hb).more hb.size
  replace rv := (rv.below hb).more hb.size
  replace q1 := (q1.below hb).more hb.size
  replace r1 := (r1.below hb).more hb.size
  replace d1 := blk_below d1 hb
  replace q2 := (q2.below hb).more hb.size
  replace r2 := (r2.below hb).more hb.size
  replace d2 := blk_below d2 hb
  replace hbt := hbt.trans (hb.mono hbt.size)
  clear hb
  obtain ⟨V3, hV⟩ : ∃ V3, V3 = w3.alloc (.cells #[.int .i64 0, .int .i64 0, .int .i64 0, .int .i64 0, .slice A3 0 k3, .slice P3 0 j3] 32) := ⟨_, rfl⟩
  have d3 := blk_new hV
  have hb := below_new hV
  replace b2 := blk_below b2 hb
  replace b4 := blk_below b4 hb
  replace ra := (ra.below hb).more hb.size
  replace rb := (rb.below hb).more hb.size
  replace rv := (rv.below hb).more hb.size
  replace q1 := (q1.below hb).more hb.size
  replace r1 := (r1.below hb).more hb.size
  replace d1 := blk_below d1 hb
  replace q2 := (q2.below hb).more hb.size
  replace r2 := (r2.below hb).more hb.size
  replace d2 := blk_below d2 hb
  replace q3 := (q3.below hb).more hb.size
  replace r3 := (r3.below hb).more hb.size
  replace hbt := hbt.trans (hb.mono hbt.size)
  clear hb
  have HV := Lib.hid hV.symm
  clear hV
  clear q3 r3 d3
  have cb20 := cell_of_row V3 (w.heap.size + 1) 0 _ _ _ b2
  simp only [List.getElem?_toArray, List.getElem?_cons_zero, List.getElem?_cons_succ] at cb20
  have cd10 := cell_of_row V3 w1.heap.size 0 _ _ _ d1
  simp only [List.getElem?_toArray, List.getElem?_cons_zero, List.getElem?_cons_succ] at cd10
  have cd11 := cell_of_row V3 w1.heap.size 1 _ _ _ d1
  simp only [List.getElem?_toArray, List.getElem?_cons_zero, List.getElem?_cons_succ] at cd11
  have cd12 := cell_of_row V3 w1.heap.size 2 _ _ _ d1
  simp only [List.getElem?_toArray, List.getElem?_cons_zero, List.getElem?_cons_succ] at cd12
  have cd13 := cell_of_row V3 w1.heap.size 3 _ _ _ d1
  simp only [List.getElem?_toArray, List.getElem?_cons_zero, List.getElem?_cons_succ] at cd13
  have cd14 := cell_of_row V3 w1.heap.size 4 _ _ _ d1
  simp only [List.getElem?_toArray, List.getElem?_cons_zero, List.getElem?_cons_succ] at cd14
  have cd15 := cell_of_row V3 w1.heap.size 5 _ _ _ d1
  simp only [List.getElem?_toArray, List.getElem?_cons_zero, List.getElem?_cons_succ] at cd15
  rw [← HV.out] at cb20 cd10 cd11 cd12 cd13 cd14 cd15
  go_wp2_with fail
  rw [HV.out]
  clear HV cb20 cd10 cd11 cd12 cd13 cd14 cd15
  refine (take_any 2 4 1 2 1 _ _ _ _ _ _ _ _ _ liveA [] liveD V3 ra q1 r1 (by omega) (by omega)).mono ?_
  rintro e w4 ⟨v, rfl, ho, hb⟩
  rw [live_t1.1] at ho ⊢
  rw [live_t1.2]
  obtain ⟨A4, k4, rfl, q4⟩ := own_rdP (n := 1) ho ok_liveB
  clear ho
  replace b2 := blk_below b2 hb
  replace b4 := blk_below b4 hb
  replace ra := (ra.below hb).more hb.size
  replace rb := (rb.below hb).more hb.size
  replace rv := (rv.below hb).more hb.size
  replace q1 := (q1.below hb).more hb.size
  replace r1 := (r1.below hb).more hb.size
  replace d1 := blk_below d1 hb
  replace q2 := (q2.below hb).more hb.size
  replace r2 := (r2.below hb).more hb.size
  replace d2 := blk_below d2 hb
  replace hbt := hbt.trans (hb.mono hbt.size)
  clear hb
  obtain ⟨V4, hV⟩ : ∃ V4, V4 = w4.alloc (.cells #[.int .i64 2, .slice A4 1 k4] 27) := ⟨_, rfl⟩
  have d4 := blk_new hV
  have hb := below_new hV
  replace b2 := blk_below b2 hb
  replace b4 := blk_below b4 hb
  replace ra := (ra.below hb).more hb.size
  replace rb := (rb.below hb).more hb.size
  replace rv := (rv.below hb).more hb.size
  replace q1 := (q1.below hb).more hb.size
  replace r1 := (r1.below hb).more hb.size
  replace d1 := blk_below d1 hb
  replace q2 := (q2.below hb).more hb.size
  replace r2 := (r2.below hb).more hb.size
  replace d2 := blk_below d2 hb
  replace q4 := (q4.below hb).more hb.size
  replace hbt := hbt.trans (hb.mono hbt.size)
  clear hb
  have HV := Lib.hid hV.symm
  clear hV
  have cd40 := cell_of_row V4 w4.heap.size 0 _ _ _ d4
  simp only [List.getElem?_toArray, List.getElem?_cons_zero, List.getElem?_cons_succ] at cd40
  have cd41 := cell_of_row V4 w4.heap.size 1 _ _ _ d4
  simp only [List.getElem?_toArray, List.getElem?_cons_zero, List.getElem?_cons_succ] at cd41
  have cd10 := cell_of_row V4 w1.heap.size 0 _ _ _ d1
  simp only [List.getElem?_toArray, List.getElem?_cons_zero, List.getElem?_cons_succ] at cd10
  have cd11 := cell_of_row V4 w1.heap.size 1 _ _ _ d1
  simp only [List.getElem?_toArray, List.getElem?_cons_zero, List.getElem?_cons_succ] at cd11
  have cd12 := cell_of_row V4 w1.heap.size 2 _ _ _ d1
  simp only [List.getElem?_toArray, List.getElem?_cons_zero, List.getElem?_cons_succ] at cd12
  have cd13 := cell_of_row V4 w1.heap.size 3 _ _ _ d1
  simp only [List.getElem?_toArray, List.getElem?_cons_zero, List.getElem?_cons_succ] at cd13
  have cd14 := cell_of_row V4 w1.heap.size 4 _ _ _ d1
  simp only [List.getElem?_toArray, List.getElem?_cons_zero, List.getElem?_cons_succ] at cd14
  have cd15 := cell_of_row V4 w1.heap.size 5 _ _ _ d1
  simp only [List.getElem?_toArray, List.getElem?_cons_zero, List.getElem?_cons_succ] at cd15
  rw [← HV.out] at cd40 cd41 cd10 cd11 cd12 cd13 cd14 cd15
  go_wp2_with fail
  rw [HV.out]
  clear HV cd40 cd41 cd10 cd11 cd12 cd13 cd14 cd15
  refine (take_any 2 4 1 2 2 _ _ _ _ _ _ _ _ _ liveB [] liveD V4 q4 q1 r1 (by omega) (by omega)).mono ?_
  rintro e w5 ⟨v, rfl, ho, hb⟩
  rw [live_t2.1] at ho ⊢
  rw [live_t2.2]
  obtain ⟨A5, k5, rfl, q5⟩ := own_rdP (n := 0) ho (by simp [okPs, zeroC])
  clear ho
  replace b2 := blk_below b2 hb
  replace b4 := blk_below b4 hb
  replace ra := (ra.below hb).more hb.size
  replace rb := (rb.below hb).more hb.size
  replace rv := (rv.below hb).more hb.size
  replace q1 := (q1.below hb).more hb.size
  replace r1 := (r1.below hb).more hb.size
  replace d1 := blk_below d1 hb
  replace q2 := (q2.below hb).more hb.size
  replace r2 := (r2.below hb).more hb.size
  replace d2 := blk_below d2 hb
  replace q4 := (q4.below hb).more hb.size
  replace d4 := blk_below d4 hb
  replace hbt := hbt.trans (hb.mono hbt.size)
  clear hb
  obtain ⟨V5, hV⟩ : ∃ V5, V5 = w5.alloc (.cells #[.int .i64 0, .slice A5 0 k5] 27) := ⟨_, rfl⟩
  have d5 := blk_new hV
  have hb := below_new hV
  replace b2 := blk_below b2 hb
  replace b4 := blk_below b4 hb
  replace ra := (ra.below hb).more hb.size
  replace rb := (rb.below hb).more hb.size
  replace rv := (rv.below hb).more hb.size
  replace q1 := (q1.below hb).more hb.size
  replace r1 := (r1.below hb).more hb.size
  replace d1 := blk_below d1 hb
  replace q2 := (q2.below hb).more hb.size
  replace r2 := (r2.below hb).more hb.size
  replace d2 := blk_below d2 hb
  replace q4 := (q4.below hb).more hb.size
  replace d4 := blk_below d4 hb
  replace q5 := (q5.below hb).more hb.size
  replace hbt := hbt.trans (hb.mono hbt.size)
  clear hb
  have HV := Lib.hid hV.symm
  clear hV
  clear q5 d5
  have cd10 := cell_of_row V5 w1.heap.size 0 _ _ _ d1
  simp only [List.getElem?_toArray, List.getElem?_cons_zero, List.getElem?_cons_succ] at cd10
  have cd11 := cell_of_row V5 w1.heap.size 1 _ _ _ d1
  simp only [List.getElem?_toArray, List.getElem?_cons_zero, List.getElem?_cons_succ] at cd11
  have cd12 := cell_of_row V5 w1.heap.size 2 _ _ _ d1
  simp only [List.getElem?_toArray, List.getElem?_cons_zero, List.getElem?_cons_succ] at cd12
  have cd13 := cell_of_row V5 w1.heap.size 3 _ _ _ d1
  simp only [List.getElem?_toArray, List.getElem?_cons_zero, List.getElem?_cons_succ] at cd13
  have cd14 := cell_of_row V5 w1.heap.size 4 _ _ _ d1
  simp only [List.getElem?_toArray, List.getElem?_cons_zero, List.getElem?_cons_succ] at cd14
  have cd15 := cell_of_row V5 w1.heap.size 5 _ _ _ d1
  simp only [List.getElem?_toArray, List.getElem?_cons_zero, List.getElem?_cons_succ] at cd15
  rw [← HV.out] at cd10 cd11 cd12 cd13 cd14 cd15
  go_wp2_with fail
  rw [HV.out]
  clear HV cd10 cd11 cd12 cd13 cd14 cd15
  refine (take_any 2 4 1 2 0 _ _ _ _ _ _ _ _ _ [] [] liveD V5 (RdP.nil _ _) q1 r1 (by omega) (by omega)).mono ?_
  rintro e w6 ⟨v, rfl, ho, hb⟩
  rw [live_t3.1] at ho ⊢
  rw [live_t3.2]
  obtain ⟨A6, k6, rfl, q6⟩ := own_rdP (n := 0) ho (by simp [okPs, zeroC])
  clear ho
  replace b2 := blk_below b2 hb
  replace b4 := blk_below b4 hb
  replace ra := (ra.below hb).more hb.size
  replace rb := (rb.below hb).more hb.size
  replace rv := (rv.below hb).more hb.size
  replace q1 := (q1.below hb).more hb.size
  replace r1 := (r1.below hb).more hb.size
  replace d1 := blk_below d1 hb
  replace q2 := (q2.below hb).more hb.size
  replace r2 := (r2.below hb).more hb.size
  replace d2 := blk_below d2 hb
  replace q4 := (q4.below hb).more hb.size
  replace d4 := blk_below d4 hb
  replace hbt := hbt.trans (hb.mono hbt.size)
  clear hb
  obtain ⟨V6, hV⟩ : ∃ V6, V6 = w6.alloc (.cells #[.int .i64 0, .slice A6 0 k6] 27) := ⟨_, rfl⟩
  have d6 := blk_new hV
  have hb := below_new hV
  replace b2 := blk_below b2 hb
  replace b4 := blk_below b4 hb
  replace ra := (ra.below hb).more hb.size
  replace rb := (rb.below hb).more hb.size
  replace rv := (rv.below hb).more hb.size
  replace q1 := (q1.below hb).more hb.size
  replace r1 := (r1.below hb).more hb.size
  replace d1 := blk_below d1 hb
  replace q2 := (q2.below hb).more hb.size
  replace r2 := (r2.below hb).more hb.size
  replace d2 := blk_below d2 hb
  replace q4 := (q4.below hb).more hb.size
  replace d4 := blk_below d4 hb
  replace q6 := (q6.below hb).more hb.size
  replace hbt := hbt.trans (hb.mono hbt.size)
  clear hb
  have HV := Lib.hid hV.symm
  clear hV
  clear q6 d6
  have cd20 := cell_of_row V6 w2.heap.size 0 _ _ _ d2
  simp only [List.getElem?_toArray, List.getElem?_cons_zero, List.getElem?_cons_succ] at cd20
  have cd21 := cell_of_row V6 w2.heap.size 1 _ _ _ d2
  simp only [List.getElem?_toArray, List.getElem?_cons_zero, List.getElem?_cons_succ] at cd21
  have cd22 := cell_of_row V6 w2.heap.size 2 _ _ _ d2
  simp only [List.getElem?_toArray, List.getElem?_cons_zero, List.getElem?_cons_succ] at cd22
  have cd23 := cell_of_row V6 w2.heap.size 3 _ _ _ d2
  simp only [List.getElem?_toArray, List.getElem?_cons_zero, List.getElem?_cons_succ] at cd23
  have cd24 := cell_of_row V6 w2.heap.size 4 _ _ _ d2
  simp only [List.getElem?_toArray, List.getElem?_cons_zero, List.getElem?_cons_succ] at cd24
  have cd25 := cell_of_row V6 w2.heap.size 5 _ _ _ d2
  simp only [List.getElem?_toArray, List.getElem?_cons_zero, List.getElem?_cons_succ] at cd25
  rw [← HV.out] at cd20 cd21 cd22 cd23 cd24 cd25
  go_wp2_with fail
  rw [HV.out]
  clear HV cd20 cd21 cd22 cd23 cd24 cd25
  refine (take_any 1 4 0 2 0 _ _ _ _ _ _ _ _ _ [] liveB [] V6 (RdP.nil _ _) q2 r2 (by omega) (by omega)).mono ?_
  rintro e w7 ⟨v, rfl, ho, hb⟩
  rw [live_t4.1] at ho ⊢
  rw [live_t4.2]
  obtain ⟨A7, k7, rfl, q7⟩ := own_rdP (n := 1) ho ok_liveB
  clear ho
  replace b2 := blk_below b2 hb
  replace b4 := blk_below b4 hb
  replace ra := (ra.below hb).more hb.size
  replace rb := (rb.below hb).more hb.size
  replace rv := (rv.below hb).more hb.size
  replace q1 := (q1.below hb).more hb.size
  replace r1 := (r1.below hb).more hb.size
  replace d1 := blk_below d1 hb
  replace q2 := (q2.below hb).more hb.size
  replace r2 := (r2.below hb).more hb.size
  replace d2 := blk_below d2 hb
  replace q4 := (q4.below hb).more hb.size
  replace d4 := blk_below d4 hb
  replace hbt := hbt.trans (hb.mono hbt.size)
  clear hb
  obtain ⟨V7, hV⟩ : ∃ V7, V7 = w7.alloc (.cells #[.int .i64 2, .slice A7 1 k7] 27) := ⟨_, rfl⟩
  have d7 := blk_new hV
  have hb := below_new hV
  replace b2 := blk_below b2 hb
  replace b4 := blk_below b4 hb
  replace ra := (ra.below hb).more hb.size
  replace rb := (rb.below hb).more hb.size
  replace rv := (rv.below hb).more hb.size
  replace q1 := (q1.below hb).more hb.size
  replace r1 := (r1.below hb).more hb.size
  replace d1 := blk_below d1 hb
  replace q2 := (q2.below hb).more hb.size
  replace r2 := (r2.below hb).more hb.size
  replace d2 := blk_below d2 hb
  replace q4 := (q4.below hb).more hb.size
  replace d4 := blk_below d4 hb
  replace q7 := (q7.below hb).more hb.size
  replace hbt := hbt.trans (hb.mono hbt.size)
  clear hb
  have HS : Hid (V7.heap.size = w7.heap.size + 1) := by show V7.heap.size = _; rw [hV, World.size_alloc]
  have HV := Lib.hid hV.symm
  clear hV
  have cd10 := cell_of_row V7 w1.heap.size 0 _ _ _ d1
  simp only [List.getElem?_toArray, List.getElem?_cons_zero, List.getElem?_cons_succ] at cd10
  have cd11 := cell_of_row V7 w1.heap.size 1 _ _ _ d1
  simp only [List.getElem?_toArray, List.getElem?_cons_zero, List.getElem?_cons_succ] at cd11
  have cd12 := cell_of_row V7 w1.heap.size 2 _ _ _ d1
  simp only [List.getElem?_toArray, List.getElem?_cons_zero, List.getElem?_cons_succ] at cd12
  have cd13 := cell_of_row V7 w1.heap.size 3 _ _ _ d1
  simp only [List.getElem?_toArray, List.getElem?_cons_zero, List.getElem?_cons_succ] at cd13
  have cd14 := cell_of_row V7 w1.heap.size 4 _ _ _ d1
  simp only [List.getElem?_toArray, List.getElem?_cons_zero, List.getElem?_cons_succ] at cd14
  have cd15 := cell_of_row V7 w1.heap.size 5 _ _ _ d1
  simp only [List.getElem?_toArray, List.getElem?_cons_zero, List.getElem?_cons_succ] at cd15
  rw [← HV.out] at cd10 cd11 cd12 cd13 cd14 cd15
  go_wp2_with fail
  rw [HV.out]
  clear HV cd10 cd11 cd12 cd13 cd14 cd15
  obtain ⟨V8, hV⟩ : ∃ V8, V8 = V7.alloc (.cells #[.int .i64 0, .int .i64 1, .int .i64 0] 64) := ⟨_, rfl⟩
  have d8 := blk_new hV
  have hb := below_new hV
  replace b2 := blk_below b2 hb
  replace b4 := blk_below b4 hb
  replace ra := (ra.below hb).more hb.size
  replace rb := (rb.below hb).more hb.size
  replace rv := (rv.below hb).more hb.size
  replace q1 := (q1.below hb).more hb.size
  replace r1 := (r1.below hb).more hb.size
  replace d1 := blk_below d1 hb
  replace q2 := (q2.below hb).more hb.size
  replace r2 := (r2.below hb).more hb.size
  replace d2 := blk_below d2 hb
  replace q4 := (q4.below hb).more hb.size
  replace d4 := blk_below d4 hb
  replace q7 := (q7.below hb).more hb.size
  replace d7 := blk_below d7 hb
  replace hbt := hbt.trans (hb.mono hbt.size)
  clear hb
  have HV := Lib.hid hV.symm
  clear hV
  rw [HV.out]
  clear HV
  rw [HS.out] at d8
  have r8 : RdM V8 V8.heap.size (some ⟨w7.heap.size + 1, 0, none⟩) 1 1 liveD := ⟨RdK.blk d8 rfl (by omega), ok_liveD⟩
  refine (msgs_any 2 4 1 2 2 4 1 2 _ _ _ _ _ _ _ _ _ _ _ _ [] [] liveD liveD V8 q1 (RdP.nil _ _) r1 r8).mono ?_
  clear d8
  clear r8
  rintro e w9 ⟨rfl, hb⟩
  rw [decide_eq_true (show _ ∧ _ ∧ _ ∧ _ ∧ _ ∧ _ from ⟨rfl, rfl, rfl, rfl, rfl, rfl⟩)]
  replace b2 := blk_below b2 hb
  replace b4 := blk_below b4 hb
  replace ra := (ra.below hb).more hb.size
  replace rb := (rb.below hb).more hb.size
  replace rv := (rv.below hb).more hb.size
  replace q1 := (q1.below hb).more hb.size
  replace r1 := (r1.below hb).more hb.size
  replace d1 := blk_below d1 hb
  replace q2 := (q2.below hb).more hb.size
  replace r2 := (r2.below hb).more hb.size
  replace d2 := blk_below d2 hb
  replace q4 := (q4.below hb).more hb.size
  replace d4 := blk_below d4 hb
  replace q7 := (q7.below hb).more hb.size
  replace d7 := blk_below d7 hb
  replace hbt := hbt.trans (hb.mono hbt.size)
  clear hb
  have cd20 := cell_of_row w9 w2.heap.size 0 _ _ _ d2
  simp only [List.getElem?_toArray, List.getElem?_cons_zero, List.getElem?_cons_succ] at cd20
  have cd21 := cell_of_row w9 w2.heap.size 1 _ _ _ d2
  simp only [List.getElem?_toArray, List.getElem?_cons_zero, List.getElem?_cons_succ] at cd21
  have cd22 := cell_of_row w9 w2.heap.size 2 _ _ _ d2
  simp only [List.getElem?_toArray, List.getElem?_cons_zero, List.getElem?_cons_succ] at cd22
  have cd23 := cell_of_row w9 w2.heap.size 3 _ _ _ d2
  simp only [List.getElem?_toArray, List.getElem?_cons_zero, List.getElem?_cons_succ] at cd23
  have cd24 := cell_of_row w9 w2.heap.size 4 _ _ _ d2
  simp only [List.getElem?_toArray, List.getElem?_cons_zero, List.getElem?_cons_succ] at cd24
  have cd25 := cell_of_row w9 w2.heap.size 5 _ _ _ d2
  simp only [List.getElem?_toArray, List.getElem?_cons_zero, List.getElem?_cons_succ] at cd25
  have cb40 := cell_of_row w9 (w.heap.size + 1 + 1 + 1) 0 _ _ _ b4
  simp only [List.getElem?_toArray, List.getElem?_cons_zero, List.getElem?_cons_succ] at cb40
  go_wp2_with fail
  clear cd20 cd21 cd22 cd23 cd24 cd25 cb40
  refine (msgs_any 1 4 0 2 1 4 0 2 _ _ _ _ _ _ _ _ _ _ _ _ liveB liveB [] [] w9 q2 rb r2 (RdM.nil _ _)).mono ?_
  rintro e w10 ⟨rfl, hb⟩
  rw [decide_eq_true (show _ ∧ _ ∧ _ ∧ _ ∧ _ ∧ _ from ⟨rfl, rfl, rfl, rfl, rfl, rfl⟩)]
  replace b2 := blk_below b2 hb
  replace b4 := blk_below b4 hb
  replace ra := (ra.below hb).more hb.size
  replace rb := (rb.below hb).more hb.size
  replace rv := (rv.below hb).more hb.size
  replace q1 := (q1.below hb).more hb.size
  replace r1 := (r1.below hb).more hb.size
  replace d1 := blk_below d1 hb
  replace q2 := (q2.below hb).more hb.size
  replace r2 := (r2.below hb).more hb.size
  replace d2 := blk_below d2 hb
  replace q4 := (q4.below hb).more hb.size
  replace d4 := blk_below d4 hb
  replace q7 := (q7.below hb).more hb.size
  replace d7 := blk_below d7 hb
  replace hbt := hbt.trans (hb.mono hbt.size)
  clear hb
  have cd40 := cell_of_row w10 w4.heap.size 0 _ _ _ d4
  simp only [List.getElem?_toArray, List.getElem?_cons_zero, List.getElem?_cons_succ] at cd40
  have cd41 := cell_of_row w10 w4.heap.size 1 _ _ _ d4
  simp only [List.getElem?_toArray, List.getElem?_cons_zero, List.getElem?_cons_succ] at cd41
  have cb40 := cell_of_row w10 (w.heap.size + 1 + 1 + 1) 0 _ _ _ b4
  simp only [List.getElem?_toArray, List.getElem?_cons_zero, List.getElem?_cons_succ] at cb40
  go_wp2_with fail
  clear cd40 cd41 cb40
  refine (clients_any 2 2 _ _ _ _ _ _ liveB liveB w10 q4 rb).mono ?_
  rintro e w11 ⟨rfl, hb⟩
  rw [decide_eq_true (show _ ∧ _ from ⟨rfl, rfl⟩)]
  replace b2 := blk_below b2 hb
  replace b4 := blk_below b4 hb
  replace ra := (ra.below hb).more hb.size
  replace rb := (rb.below hb).more hb.size
  replace rv := (rv.below hb).more hb.size
  replace q1 := (q1.below hb).more hb.size
  replace r1 := (r1.below hb).more hb.size
  replace d1 := blk_below d1 hb
  replace q2 := (q2.below hb).more hb.size
  replace r2 := (r2.below hb).more hb.size
  replace d2 := blk_below d2 hb
  replace q4 := (q4.below hb).more hb.size
  replace d4 := blk_below d4 hb
  replace q7 := (q7.below hb).more hb.size
  replace d7 := blk_below d7 hb
  replace hbt := hbt.trans (hb.mono hbt.size)
  clear hb
  have cd40 := cell_of_row w11 w4.heap.size 0 _ _ _ d4
  simp only [List.getElem?_toArray, List.getElem?_cons_zero, List.getElem?_cons_succ] at cd40
  have cd41 := cell_of_row w11 w4.heap.size 1 _ _ _ d4
  simp only [List.getElem?_toArray, List.getElem?_cons_zero, List.getElem?_cons_succ] at cd41
  have cd70 := cell_of_row w11 w7.heap.size 0 _ _ _ d7
  simp only [List.getElem?_toArray, List.getElem?_cons_zero, List.getElem?_cons_succ] at cd70
  have cd71 := cell_of_row w11 w7.heap.size 1 _ _ _ d7
  simp only [List.getElem?_toArray, List.getElem?_cons_zero, List.getElem?_cons_succ] at cd71
  go_wp2_with fail
  clear cd40 cd41 cd70 cd71
  refine (clients_any 2 2 _ _ _ _ _ _ liveB liveB w11 q7 q4).mono ?_
  rintro e w12 ⟨rfl, hb⟩
  rw [decide_eq_true (show _ ∧ _ from ⟨rfl, rfl⟩)]
  replace b2 := blk_below b2 hb
  replace b4 := blk_below b4 hb
  replace ra := (ra.below hb).more hb.size
  replace rb := (rb.below hb).more hb.size
  replace rv := (rv.below hb).more hb.size
  replace q1 := (q1.below hb).more hb.size
  replace r1 := (r1.below hb).more hb.size
  replace d1 := blk_below d1 hb
  replace q2 := (q2.below hb).more hb.size
  replace r2 := (r2.below hb).more hb.size
  replace d2 := blk_below d2 hb
  replace q4 := (q4.below hb).more hb.size
  replace d4 := blk_below d4 hb
  replace q7 := (q7.below hb).more hb.size
  replace d7 := blk_below d7 hb
  replace hbt := hbt.trans (hb.mono hbt.size)
  clear hb
  have cd40 := cell_of_row w12 w4.heap.size 0 _ _ _ d4
  simp only [List.getElem?_toArray, List.getElem?_cons_zero, List.getElem?_cons_succ] at cd40
  have cd41 := cell_of_row w12 w4.heap.size 1 _ _ _ d4
  simp only [List.getElem?_toArray, List.getElem?_cons_zero, List.getElem?_cons_succ] at cd41
  go_wp2_with fail
  clear cd40 cd41
  refine (wish_any 2 _ 4 w12).mono ?_
  rintro e w13 ⟨rfl, hb⟩
  replace b2 := blk_below b2 hb
  replace b4 := blk_below b4 hb
  replace ra := (ra.below hb).more hb.size
  replace rb := (rb.below hb).more hb.size
  replace rv := (rv.below hb).more hb.size
  replace q1 := (q1.below hb).more hb.size
  replace r1 := (r1.below hb).more hb.size
  replace d1 := blk_below d1 hb
  replace q2 := (q2.below hb).more hb.size
  replace r2 := (r2.below hb).more hb.size
  replace d2 := blk_below d2 hb
  replace q4 := (q4.below hb).more hb.size
  replace d4 := blk_below d4 hb
  replace q7 := (q7.below hb).more hb.size
  replace d7 := blk_below d7 hb
  replace hbt := hbt.trans (hb.mono hbt.size)
  clear hb
  go_wp2_with fail
  refine (check_any _ 2 2 liveV w13 rv).mono ?_
  rintro e w14 ⟨rfl, hb⟩
  replace b2 := blk_below b2 hb
  replace b4 := blk_below b4 hb
  replace ra := (ra.below hb).more hb.size
  replace rb := (rb.below hb).more hb.size
  replace rv := (rv.below hb).more hb.size
  replace q1 := (q1.below hb).more hb.size
  replace r1 := (r1.below hb).more hb.size
  replace d1 := blk_below d1 hb
  replace q2 := (q2.below hb).more hb.size
  replace r2 := (r2.below hb).more hb.size
  replace d2 := blk_below d2 hb
  replace q4 := (q4.below hb).more hb.size
  replace d4 := blk_below d4 hb
  replace q7 := (q7.below hb).more hb.size
  replace d7 := blk_below d7 hb
  replace hbt := hbt.trans (hb.mono hbt.size)
  clear hb
  rw [live_c]
  go_wp2_with fail
  have rc := rv.cut (show 1 ≤ 2 by omega)
  refine (check_any _ 1 1 (liveV.drop 1) w14 rc).mono ?_
  rintro e w15 ⟨rfl, hb⟩
  replace b2 := blk_below b2 hb
  replace b4 := blk_below b4 hb
  replace ra := (ra.below hb).more hb.size
  replace rb := (rb.below hb).more hb.size
  replace rv := (rv.below hb).more hb.size
  replace q1 := (q1.below hb).more hb.size
  replace r1 := (r1.below hb).more hb.size
  replace d1 := blk_below d1 hb
  replace q2 := (q2.below hb).more hb.size
  replace r2 := (r2.below hb).more hb.size
  replace d2 := blk_below d2 hb
  replace q4 := (q4.below hb).more hb.size
  replace d4 := blk_below d4 hb
  replace q7 := (q7.below hb).more hb.size
  replace d7 := blk_below d7 hb
  replace hbt := hbt.trans (hb.mono hbt.size)
  clear hb
  rw [live_c1]
  go_wp2_with fail
  go_ret
  exact ⟨rfl, hbt⟩
end Go.Proofs.Ytmighpfjjaaknaa
