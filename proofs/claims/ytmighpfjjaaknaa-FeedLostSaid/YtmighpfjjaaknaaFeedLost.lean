/-
  FeedLost, walked.
-/
import Derived.Test.YtmighpfjjaaknaaPlain
import Derived.Test.YtmighpfjjaaknaaArgs
namespace Go.Proofs.Ytmighpfjjaaknaa
open Go.RowKit
set_option linter.unusedVariables false
set_option linter.unusedSimpArgs false

theorem take_cases (y m0 m1 m2 m3 : Int) (lw : List Pl) (lm : List Mv) (h0 : 0 ≤ y) (h1 : y ≤ 1099511627776) (h2 : 1 ≤ m3) (h3 : m3 ≤ 1099511627776) : (m0 = 1 ∨ m0 = 2) →
    (m3 ≤ y → takeE ⟨y, []⟩ ⟨m0, m1, m2, m3, lw, lm⟩ = 341) ∧ (y < m3 → (m0 = 1 → takeE ⟨y, []⟩ ⟨m0, m1, m2, m3, lw, lm⟩ = 0) ∧ (m0 = 2 → m2 ≠ y → takeE ⟨y, []⟩ ⟨m0, m1, m2, m3, lw, lm⟩ = 350)) := by
  intro hk
  unfold takeE
  dsimp only
  rw [if_pos ⟨hk, ⟨h0, h1⟩, h2, h3⟩]
  refine ⟨fun h => by rw [if_pos h], fun h => ⟨fun h' => ?_, fun h' h'' => ?_⟩⟩
  · rw [if_neg (by omega), if_pos h']
  · rw [if_neg (by omega), if_neg (by omega)]
    unfold t2E
    rw [if_neg h'']
set_option maxRecDepth 20000 in
set_option maxHeartbeats 2000000 in
theorem feedLost_any (A : Option Addr) (n c : Nat) (vs : List Ver) (x y : Nat) (w : World) (h : RdV w w.heap.size A n c vs) (hx : x ≤ 255) (hy : y ≤ 255) :
    Calls Try.prog 9 #[.slice A n c, .int .u8 x, .int .u8 y] w fun e w' => e = .returned (.bool true) ∧ Below w.heap.size w w' := by
  have n1 := h.max
  have n2 := h.le
  have hl := Lib.hid h.len
  have hbt := Below.refl w.heap.size w
  go_enter Try.func9, Try.ntmps9
  go_wp2_with fail
  refine (live_any w).mono ?_
  rintro e w1 ⟨rfl, hb⟩
  replace h := (h.below hb).more hb.size
  replace hbt := hbt.trans (hb.mono hbt.size)
  clear hb
  go_wp2_with fail
  refine (few_any A n c vs w1 h).mono ?_
  rintro e w2 ⟨r, rfl, hfew, rfl⟩
  cases r
  · clear hfew
    go_wp2_with fail
    go_ret
    exact ⟨rfl, hbt⟩
  · obtain ⟨hv1, hv2⟩ := hfew rfl
    rw [hl.out] at hv1
    have HV2 := Lib.hid hv2
    have HOK := Lib.hid h.okWeeks
    have HM := fun (no to : Int) => replyM_ok (no := no) (to := to) h.okWeeks hv2
    replace HM := Lib.hid HM
    clear hv2 hfew
    go_wp2_with fail
    refine (check_any A n c vs w1 h).mono ?_
    rintro e w3 ⟨rfl, hb⟩
    replace h := (h.below hb).more hb.size
    replace hbt := hbt.trans (hb.mono hbt.size)
    clear hb
    by_cases hck : checkB vs = true
    · rw [show errB (checkB vs) = 0 by rw [hck]; rfl]
      have HC := Lib.hid hck
      clear hck
      by_cases h2 : 2 ≤ n
      · have d2 : decide ((n : Int) < 2) = false := by simp; omega
        go_wp2_with fail
        obtain ⟨q, hq, hq1, hq2⟩ : ∃ q : Int, wrap64 (1 + (x : Int) % ((n : Int) - 1)) = q ∧ 1 ≤ q ∧ q < n := by
          have e1 := Int.emod_nonneg (x : Int) (show ((n : Int) - 1) ≠ 0 by omega)
          have e2 := Int.emod_lt_of_pos (x : Int) (show 0 < ((n : Int) - 1) by omega)
          exact ⟨_, rfl, by rw [IntWalk.wrap64_in _ ⟨by omega, by omega⟩]; omega, by rw [IntWalk.wrap64_in _ ⟨by omega, by omega⟩]; omega⟩
        rw [hq]
        clear hq
        have HEQ := Lib.hid (replyE_ok (vs := vs) (no := q) (to := 0) HC.out (by omega) (by rw [hl.out]; omega) (by omega) (by decide))
        have HIS := Lib.hid (replyM_is (vs := vs) (no := q) (to := 0) HC.out (by rw [hl.out]; omega) HEQ.out)
        refine (reply_any A n c vs q 0 w3 h (by omega) (fun v hv => Nat.le_trans (HV2.out v hv) (by omega))).mono ?_
        rintro e w4 ⟨v, u, rfl, ho, hp, hb⟩
        obtain ⟨ok1, ok2, ok3⟩ := HM.out (q) (0)
        have HE4 : Hid (∃ x, x = replyE vs (q) (0)) := ⟨_, rfl⟩
        obtain ⟨E, hE4⟩ := HE4.out
        have HM4 : Hid (∃ x, x = replyM vs (q) (0)) := ⟨_, rfl⟩
        obtain ⟨M, hM4⟩ := HM4.out
        rw [← hM4] at ho hp ok1 ok2 ok3 ⊢
        rw [← hE4]
        clear HE4 HM4
        have HE4 := Lib.hid hE4
        have HM4 := Lib.hid hM4
        clear hE4 hM4
        obtain ⟨m04, m14, m24, m34, lw4, lm4⟩ := M
        dsimp only at ho hp ok1 ok2 ok3 ⊢
        obtain ⟨A4, k4, rfl, q4⟩ := own_rdP ho ok1
        obtain ⟨P4, j4, rfl, r4⟩ := own_rdM hp ok2
        clear ho hp
        replace h := (h.below hb).more hb.size
        replace hbt := hbt.trans (hb.mono hbt.size)
        clear hb
        have z14 := q4.le
        have z24 := q4.max
        have z34 := r4.le
        have z44 := r4.max
        obtain ⟨nw4, hx⟩ : ∃ x, x = lw4.length := ⟨_, rfl⟩
        rw [← hx] at q4 z14 ok3 ⊢
        have Hnw4 := Lib.hid hx
        clear hx
        obtain ⟨nm4, hx⟩ : ∃ x, x = lm4.length := ⟨_, rfl⟩
        rw [← hx] at r4 z34 ⊢
        have Hnm4 := Lib.hid hx
        clear hx
        clear ok1 ok2
        rw [← HE4.out] at HEQ
        obtain rfl : E = 0 := HEQ.out
        rw [← HM4.out] at HIS
        clear HE4 HM4 HEQ HM
        have his := HIS.out
        unfold IsReply at his
        dsimp only at his
        obtain ⟨rfl, hno, hk⟩ := his
        rw [hl.out] at hno
        subst hno
        clear HIS
        have HK := Lib.hid hk
        clear hk
        obtain ⟨V4, hV⟩ : ∃ V4, V4 = w4.alloc (.cells #[.int .i64 m04, .int .i64 0, .int .i64 m24, .int .i64 (n : Int), .slice A4 nw4 k4, .slice P4 nm4 j4] 32) := ⟨_, rfl⟩
        have bm := blk_new hV
        have hb := below_new hV
        replace h := (h.below hb).more hb.size
        replace q4 := (q4.below hb).more hb.size
        replace r4 := (r4.below hb).more hb.size
        replace hbt := hbt.trans (hb.mono hbt.size)
        clear hb
        have HSV4 : Hid (V4.heap.size = w4.heap.size + 1) := by show V4.heap.size = _; rw [hV, World.size_alloc]
        have HVV4 := Lib.hid hV.symm
        clear hV
        obtain ⟨V5, hV⟩ : ∃ V5, V5 = V4.alloc (.cells #[.int .i64 (y : Int), .slice none 0 0] 27) := ⟨_, rfl⟩
        have bc := blk_new hV
        rw [HSV4.out] at bc
        have hb := below_new hV
        replace h := (h.below hb).more hb.size
        replace q4 := (q4.below hb).more hb.size
        replace r4 := (r4.below hb).more hb.size
        replace bm := blk_below bm hb
        replace hbt := hbt.trans (hb.mono hbt.size)
        clear hb
        have HSV5 : Hid (V5.heap.size = V4.heap.size + 1) := by show V5.heap.size = _; rw [hV, World.size_alloc]
        have HVV5 := Lib.hid hV.symm
        clear hV
        have cbm0 := cell_of_row V5 w4.heap.size 0 _ _ _ bm
        simp only [List.getElem?_toArray, List.getElem?_cons_zero, List.getElem?_cons_succ] at cbm0
        have cbm1 := cell_of_row V5 w4.heap.size 1 _ _ _ bm
        simp only [List.getElem?_toArray, List.getElem?_cons_zero, List.getElem?_cons_succ] at cbm1
        have cbm2 := cell_of_row V5 w4.heap.size 2 _ _ _ bm
        simp only [List.getElem?_toArray, List.getElem?_cons_zero, List.getElem?_cons_succ] at cbm2
        have cbm3 := cell_of_row V5 w4.heap.size 3 _ _ _ bm
        simp only [List.getElem?_toArray, List.getElem?_cons_zero, List.getElem?_cons_succ] at cbm3
        have cbm4 := cell_of_row V5 w4.heap.size 4 _ _ _ bm
        simp only [List.getElem?_toArray, List.getElem?_cons_zero, List.getElem?_cons_succ] at cbm4
        have cbm5 := cell_of_row V5 w4.heap.size 5 _ _ _ bm
        simp only [List.getElem?_toArray, List.getElem?_cons_zero, List.getElem?_cons_succ] at cbm5
        have cbc0 := cell_of_row V5 (w4.heap.size + 1) 0 _ _ _ bc
        simp only [List.getElem?_toArray, List.getElem?_cons_zero, List.getElem?_cons_succ] at cbc0
        have cbc1 := cell_of_row V5 (w4.heap.size + 1) 1 _ _ _ bc
        simp only [List.getElem?_toArray, List.getElem?_cons_zero, List.getElem?_cons_succ] at cbc1
        rw [← HVV5.out] at cbm0 cbm1 cbm2 cbm3 cbm4 cbm5 cbc0 cbc1
        rw [← HVV4.out] at cbm0 cbm1 cbm2 cbm3 cbm4 cbm5 cbc0 cbc1
        go_wp2_with fail
        rw [HVV4.out]
        clear HVV4
        rw [HVV5.out]
        clear HVV5
        clear cbm0 cbm1 cbm2 cbm3 cbm4 cbm5 cbc0 cbc1
        have HT := Lib.hid (take_cases (y : Int) m04 0 m24 (n : Int) lw4 lm4 (by omega) (by omega) (by omega) (by omega))
        refine (take_any m04 0 m24 (n : Int) (y : Int) _ _ _ _ _ _ _ _ _ [] lw4 lm4 V5 (RdP.nil V5 V5.heap.size) q4 r4 (by omega) (by omega)).mono ?_
        rintro e w6 ⟨v, rfl, ho, hb⟩
        have ok1 := takeC_ok (c := ⟨(y : Int), []⟩) (m := ⟨m04, 0, m24, (n : Int), lw4, lm4⟩) ((RdP.nil V5 V5.heap.size)).2 (q4).2 (r4).2
        have HF6 : Hid (∃ x, x = takeE ⟨(y : Int), []⟩ ⟨m04, 0, m24, (n : Int), lw4, lm4⟩) := ⟨_, rfl⟩
        obtain ⟨F6, hF6⟩ := HF6.out
        have HX6 : Hid (∃ x, x = takeC ⟨(y : Int), []⟩ ⟨m04, 0, m24, (n : Int), lw4, lm4⟩) := ⟨_, rfl⟩
        obtain ⟨X6, hX6⟩ := HX6.out
        rw [← hX6] at ho ok1 ⊢
        rw [← hF6]
        clear HF6 HX6
        have HF6 := Lib.hid hF6
        have HX6 := Lib.hid hX6
        clear hF6 hX6
        obtain ⟨xn6, lx6⟩ := X6
        dsimp only at ho ok1 ⊢
        obtain ⟨A6, k6, rfl, q6⟩ := own_rdP ho ok1
        clear ho
        replace h := (h.below hb).more hb.size
        replace q4 := (q4.below hb).more hb.size
        replace r4 := (r4.below hb).more hb.size
        replace bm := blk_below bm hb
        replace bc := blk_below bc hb
        replace hbt := hbt.trans (hb.mono hbt.size)
        clear hb
        have z16 := q6.le
        have z26 := q6.max
        obtain ⟨nx6, hx⟩ : ∃ x, x = lx6.length := ⟨_, rfl⟩
        rw [← hx] at q6 z16 ⊢
        have Hnx6 := Lib.hid hx
        clear hx ok1
        rw [← HF6.out] at HT
        obtain ⟨V6, hV⟩ : ∃ V6, V6 = w6.alloc (.cells #[.int .i64 xn6, .slice A6 nx6 k6] 27) := ⟨_, rfl⟩
        have bx := blk_new hV
        have hb := below_new hV
        replace h := (h.below hb).more hb.size
        replace q4 := (q4.below hb).more hb.size
        replace r4 := (r4.below hb).more hb.size
        replace bm := blk_below bm hb
        replace bc := blk_below bc hb
        replace q6 := (q6.below hb).more hb.size
        replace hbt := hbt.trans (hb.mono hbt.size)
        clear hb
        have HSV6 : Hid (V6.heap.size = w6.heap.size + 1) := by show V6.heap.size = _; rw [hV, World.size_alloc]
        have HVV6 := Lib.hid hV.symm
        clear hV
        by_cases hold : n ≤ y
        · have d3 : decide ((n : Int) ≤ (y : Int)) = true := by simp; omega
          have d3' : decide (n ≤ y) = true := by simp; omega
          have hk : m04 = 1 ∨ m04 = 2 := by rcases HK.out with hk | hk; exact .inr hk.1; exact .inl hk.1
          obtain rfl : F6 = 341 := (HT.out hk).1 (by omega)
          clear hk HF6 HX6
          have cbm0 := cell_of_row V6 w4.heap.size 0 _ _ _ bm
          simp only [List.getElem?_toArray, List.getElem?_cons_zero, List.getElem?_cons_succ] at cbm0
          have cbm1 := cell_of_row V6 w4.heap.size 1 _ _ _ bm
          simp only [List.getElem?_toArray, List.getElem?_cons_zero, List.getElem?_cons_succ] at cbm1
          have cbm2 := cell_of_row V6 w4.heap.size 2 _ _ _ bm
          simp only [List.getElem?_toArray, List.getElem?_cons_zero, List.getElem?_cons_succ] at cbm2
          have cbm3 := cell_of_row V6 w4.heap.size 3 _ _ _ bm
          simp only [List.getElem?_toArray, List.getElem?_cons_zero, List.getElem?_cons_succ] at cbm3
          have cbm4 := cell_of_row V6 w4.heap.size 4 _ _ _ bm
          simp only [List.getElem?_toArray, List.getElem?_cons_zero, List.getElem?_cons_succ] at cbm4
          have cbm5 := cell_of_row V6 w4.heap.size 5 _ _ _ bm
          simp only [List.getElem?_toArray, List.getElem?_cons_zero, List.getElem?_cons_succ] at cbm5
          have cbc0 := cell_of_row V6 (w4.heap.size + 1) 0 _ _ _ bc
          simp only [List.getElem?_toArray, List.getElem?_cons_zero, List.getElem?_cons_succ] at cbc0
          have cbc1 := cell_of_row V6 (w4.heap.size + 1) 1 _ _ _ bc
          simp only [List.getElem?_toArray, List.getElem?_cons_zero, List.getElem?_cons_succ] at cbc1
          rw [← HVV6.out] at cbm0 cbm1 cbm2 cbm3 cbm4 cbm5 cbc0 cbc1
          go_wp2_with fail
          rw [HVV6.out]
          clear HVV6
          clear cbm0 cbm1 cbm2 cbm3 cbm4 cbm5 cbc0 cbc1
          go_ret
          exact ⟨rfl, hbt⟩
        · have d3 : decide ((n : Int) ≤ (y : Int)) = false := by simp; omega
          have d3' : decide (n ≤ y) = false := by simp; omega
          rcases HK.out with hk | hk
          · obtain ⟨rfl, hfr, hq0, _⟩ := hk
            have HFR := Lib.hid hfr
            clear hfr HF6 HX6
            by_cases hs : m24 = (y : Int)
            · have d4 : (m24 != (y : Int)) = false := by simpa using hs
              have d5 : ((y : Int) != (y : Int)) = false := by simp
              subst hs
              clear HK HT
              have cbm0 := cell_of_row V6 w4.heap.size 0 _ _ _ bm
              simp only [List.getElem?_toArray, List.getElem?_cons_zero, List.getElem?_cons_succ] at cbm0
              have cbm1 := cell_of_row V6 w4.heap.size 1 _ _ _ bm
              simp only [List.getElem?_toArray, List.getElem?_cons_zero, List.getElem?_cons_succ] at cbm1
              have cbm2 := cell_of_row V6 w4.heap.size 2 _ _ _ bm
              simp only [List.getElem?_toArray, List.getElem?_cons_zero, List.getElem?_cons_succ] at cbm2
              have cbm3 := cell_of_row V6 w4.heap.size 3 _ _ _ bm
              simp only [List.getElem?_toArray, List.getElem?_cons_zero, List.getElem?_cons_succ] at cbm3
              have cbm4 := cell_of_row V6 w4.heap.size 4 _ _ _ bm
              simp only [List.getElem?_toArray, List.getElem?_cons_zero, List.getElem?_cons_succ] at cbm4
              have cbm5 := cell_of_row V6 w4.heap.size 5 _ _ _ bm
              simp only [List.getElem?_toArray, List.getElem?_cons_zero, List.getElem?_cons_succ] at cbm5
              have cbc0 := cell_of_row V6 (w4.heap.size + 1) 0 _ _ _ bc
              simp only [List.getElem?_toArray, List.getElem?_cons_zero, List.getElem?_cons_succ] at cbc0
              have cbc1 := cell_of_row V6 (w4.heap.size + 1) 1 _ _ _ bc
              simp only [List.getElem?_toArray, List.getElem?_cons_zero, List.getElem?_cons_succ] at cbc1
              rw [← HVV6.out] at cbm0 cbm1 cbm2 cbm3 cbm4 cbm5 cbc0 cbc1
              go_wp2_with fail
              rw [HVV6.out]
              clear HVV6
              clear cbm0 cbm1 cbm2 cbm3 cbm4 cbm5 cbc0 cbc1
              go_ret
              exact ⟨rfl, hbt⟩
            · have d4 : (m24 != (y : Int)) = true := by simpa using hs
              obtain rfl : F6 = 350 := ((HT.out (.inr rfl)).2 (by omega)).2 rfl hs
              clear HK HT
              have cbm0 := cell_of_row V6 w4.heap.size 0 _ _ _ bm
              simp only [List.getElem?_toArray, List.getElem?_cons_zero, List.getElem?_cons_succ] at cbm0
              have cbm1 := cell_of_row V6 w4.heap.size 1 _ _ _ bm
              simp only [List.getElem?_toArray, List.getElem?_cons_zero, List.getElem?_cons_succ] at cbm1
              have cbm2 := cell_of_row V6 w4.heap.size 2 _ _ _ bm
              simp only [List.getElem?_toArray, List.getElem?_cons_zero, List.getElem?_cons_succ] at cbm2
              have cbm3 := cell_of_row V6 w4.heap.size 3 _ _ _ bm
              simp only [List.getElem?_toArray, List.getElem?_cons_zero, List.getElem?_cons_succ] at cbm3
              have cbm4 := cell_of_row V6 w4.heap.size 4 _ _ _ bm
              simp only [List.getElem?_toArray, List.getElem?_cons_zero, List.getElem?_cons_succ] at cbm4
              have cbm5 := cell_of_row V6 w4.heap.size 5 _ _ _ bm
              simp only [List.getElem?_toArray, List.getElem?_cons_zero, List.getElem?_cons_succ] at cbm5
              have cbc0 := cell_of_row V6 (w4.heap.size + 1) 0 _ _ _ bc
              simp only [List.getElem?_toArray, List.getElem?_cons_zero, List.getElem?_cons_succ] at cbc0
              have cbc1 := cell_of_row V6 (w4.heap.size + 1) 1 _ _ _ bc
              simp only [List.getElem?_toArray, List.getElem?_cons_zero, List.getElem?_cons_succ] at cbc1
              rw [← HVV6.out] at cbm0 cbm1 cbm2 cbm3 cbm4 cbm5 cbc0 cbc1
              go_wp2_with fail
              rw [HVV6.out]
              clear HVV6
              clear cbm0 cbm1 cbm2 cbm3 cbm4 cbm5 cbc0 cbc1
              go_ret
              exact ⟨rfl, hbt⟩
          · obtain ⟨rfl, hfr, _⟩ := hk
            obtain rfl : F6 = 0 := ((HT.out (.inl rfl)).2 (by omega)).1 rfl
            clear hfr HK HT HF6 HX6
            have cbm0 := cell_of_row V6 w4.heap.size 0 _ _ _ bm
            simp only [List.getElem?_toArray, List.getElem?_cons_zero, List.getElem?_cons_succ] at cbm0
            have cbm1 := cell_of_row V6 w4.heap.size 1 _ _ _ bm
            simp only [List.getElem?_toArray, List.getElem?_cons_zero, List.getElem?_cons_succ] at cbm1
            have cbm2 := cell_of_row V6 w4.heap.size 2 _ _ _ bm
            simp only [List.getElem?_toArray, List.getElem?_cons_zero, List.getElem?_cons_succ] at cbm2
            have cbm3 := cell_of_row V6 w4.heap.size 3 _ _ _ bm
            simp only [List.getElem?_toArray, List.getElem?_cons_zero, List.getElem?_cons_succ] at cbm3
            have cbm4 := cell_of_row V6 w4.heap.size 4 _ _ _ bm
            simp only [List.getElem?_toArray, List.getElem?_cons_zero, List.getElem?_cons_succ] at cbm4
            have cbm5 := cell_of_row V6 w4.heap.size 5 _ _ _ bm
            simp only [List.getElem?_toArray, List.getElem?_cons_zero, List.getElem?_cons_succ] at cbm5
            have cbc0 := cell_of_row V6 (w4.heap.size + 1) 0 _ _ _ bc
            simp only [List.getElem?_toArray, List.getElem?_cons_zero, List.getElem?_cons_succ] at cbc0
            have cbc1 := cell_of_row V6 (w4.heap.size + 1) 1 _ _ _ bc
            simp only [List.getElem?_toArray, List.getElem?_cons_zero, List.getElem?_cons_succ] at cbc1
            rw [← HVV6.out] at cbm0 cbm1 cbm2 cbm3 cbm4 cbm5 cbc0 cbc1
            go_wp2_with fail
            rw [HVV6.out]
            clear HVV6
            clear cbm0 cbm1 cbm2 cbm3 cbm4 cbm5 cbc0 cbc1
            go_ret
            exact ⟨rfl, hbt⟩
      · have d2 : decide ((n : Int) < 2) = true := by simp; omega
        go_wp2_with fail
        go_ret
        exact ⟨rfl, hbt⟩
    · rw [show errB (checkB vs) = 1 by rw [Bool.not_eq_true] at hck; rw [hck]; rfl]
      go_wp2_with fail
      go_ret
      exact ⟨rfl, hbt⟩
end Go.Proofs.Ytmighpfjjaaknaa
