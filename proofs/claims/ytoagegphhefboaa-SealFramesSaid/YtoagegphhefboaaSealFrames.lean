/-
  SealFrames: for every byte slice and offset the law returns true and the arguments read as before. No condition.
-/
import Derived.Test.YtoagegphhefboaaLiveW
namespace Go.Proofs.Ytoagegphhefboaa
open Go.RowKit
set_option linter.unusedVariables false

/-- Frame's answer in one form. -/
def frameR (l : List UInt8) : List UInt8 := if 65536 < l.length then [] else frameB l
def frameE (l : List UInt8) : Nat := if 65536 < l.length then 2 else 0
def FrameOne (l : List UInt8) (w : World) (e : Ending) (w' : World) : Prop :=
  ∃ v, e = .returned (.tuple #[v, .int .i64 (frameE l : Nat)]) ∧ w'.ownsRow w.heap.size 5 1 v (frameR l).length (bv (frameR l)) ∧ Below w.heap.size w w'
theorem FramePost.one {l : List UInt8} {w : World} {e : Ending} {w' : World} (h : FramePost l w e w') : FrameOne l w e w' := by
  unfold FrameOne frameR frameE
  rcases h with ⟨h1, rfl, hb⟩ | ⟨h1, v, rfl, ho, hb⟩
  · rw [if_pos h1, if_pos h1]
    exact ⟨_, rfl, World.ownsRow_nil _ _ _ _, hb⟩
  · rw [if_neg (by omega), if_neg (by omega)]
    exact ⟨v, rfl, by rw [frameB_length]; exact ho, hb⟩

theorem u8_bump (x : UInt8) : ∃ y : UInt8, ((x.toNat : Int) + 1) % 256 = (y.toNat : Int) := ⟨UInt8.ofNat (x.toNat + 1), by rw [u8_ofNat_toNat]; omega⟩

set_option maxHeartbeats 2000000 in
theorem sealFrames_walk (A : Option Addr) (n c : Nat) (l : List UInt8) (p : Int) (w : World) (h : RdB w w.heap.size A n c l) (hp1 : -9223372036854775808 ≤ p) (hp2 : p ≤ 9223372036854775807) :
    Calls Try.prog 4 #[.slice A n c, .int .i64 p] w fun e w' => e = .returned (.bool true) ∧ Below w.heap.size w w' := by
  have hm := h.max
  have hle := h.le
  by_cases hout : (4000 < n ∧ n ≤ 65536) ∨ 100000 < n
  · go_enter Try.func4, Try.ntmps4
    go_wp2_with fail
    refine (live2_any w).mono ?_
    rintro e w1 ⟨rfl, hb1⟩
    rcases hout with ⟨ha, hb⟩ | ha
    · have d1 : decide ((4000 : Int) < (n : Int)) = true := by simp; omega
      have d2 : decide ((n : Int) ≤ 65536) = true := by simp; omega
      go_wp2_with fail
      go_ret
      exact ⟨rfl, hb1⟩
    · have d1 : decide ((4000 : Int) < (n : Int)) = true := by simp; omega
      have d2 : decide ((n : Int) ≤ 65536) = false := by simp; omega
      have d3 : decide ((100000 : Int) < (n : Int)) = true := by simp; omega
      go_wp2_with fail
      go_ret
      exact ⟨rfl, hb1⟩
  · have hn : n ≤ 100000 := by omega
    have d3 : decide ((100000 : Int) < (n : Int)) = false := by simp; omega
    go_enter Try.func4, Try.ntmps4
    go_wp2_with fail
    refine (live2_any w).mono ?_
    rintro e w1 ⟨rfl, hb1⟩
    have h1 := (h.below hb1).more hb1.size
    have hgo : (decide ((4000 : Int) < (n : Int)) = true ∧ decide ((n : Int) ≤ 65536) = false) ∨ decide ((4000 : Int) < (n : Int)) = false := by
      by_cases h4 : 4000 < n
      · left; simp; omega
      · right; simp; omega
    rcases hgo with ⟨d1, d2⟩ | d1
    all_goals
      go_wp2_with fail
      refine (frame_any A n c l w1 h1).mono ?_
      intro e w2 hfr
      obtain ⟨v2, rfl, hown2, hb2⟩ := hfr.one
      clear hfr
      have h2 := (h1.below hb2).more hb2.size
      go_wp2_with fail
      refine (rframe_any A n c l w2 h2).mono ?_
      intro e w3 hfr
      obtain ⟨v3, rfl, hown3, hb3⟩ := hfr.one
      clear hfr
      have h3 := (h2.below hb3).more hb3.size
      have hown2' := own_below hown2 hb3
      have hB3 := (hb1.trans (hb2.mono hb1.size)).trans (hb3.mono (Nat.le_trans hb1.size hb2.size))
      generalize frameR l = fr at *
      generalize frameE l = fe at *
      obtain ⟨A2, c2, rfl, hr2⟩ := own_rdB hown2'
      obtain ⟨A3, c3, rfl, hr3⟩ := own_rdB hown3
      clear hown2 hown2' hown3 hb2 hb3 h1 h2
      go_wp2_with fail
      refine (rcopy_any A n c l w3 h3 (by omega)).mono ?_
      rintro e w4 ⟨v4, rfl, hown4, hb4⟩
      have h4 := (h3.below hb4).more hb4.size
      have hr2' := (hr2.below hb4).more hb4.size
      have hr3' := (hr3.below hb4).more hb4.size
      have hB4 := hB3.trans (hb4.mono hB3.size)
      obtain ⟨A4, c4, rfl, hr4⟩ := own_rdB hown4
      clear hown4 h3 hr2 hr3 hb4
      go_wp2_with fail
      refine (open_any A n c l p w4 h4 (by omega) hp1 hp2).mono ?_
      rintro e w5 ⟨v5, rfl, hown5, hb5⟩
      have h5 := (h4.below hb5).more hb5.size
      have hr2 := (hr2'.below hb5).more hb5.size
      have hr3 := (hr3'.below hb5).more hb5.size
      go_wp2_with fail
      refine (ropen_any A n c l p w5 h5 (by omega) hp1 hp2).mono ?_
      rintro e w6 ⟨v6, rfl, hown6, hb6⟩
      have hr2'' := (hr2.below hb6).more hb6.size
      have hr3'' := (hr3.below hb6).more hb6.size
      have hown5' := own_below hown5 hb6
      generalize openI l p = R at *
      obtain ⟨err, body, next⟩ := R
      dsimp only at *
      obtain ⟨A6, c6, rfl, hr6⟩ := own_rdB hown6
      obtain ⟨A5, c5, rfl, hr5⟩ := own_rdB hown5'
      have hB6 : Below w4.heap.size w4 w6 := hb5.trans (hb6.mono hb5.size)
      clear hown5 hown6 h5 hb5 hb6 hr2 hr3 hr2' hr3'
      go_wp2_with fail
      refine (same_any A2 A3 _ _ _ _ fr fr w6 hr2'' hr3'').mono ?_
      rintro e w7 ⟨rfl, rfl⟩
      have e1 : (fr == fr) = true := by simp
      have e2 : (body == body) = true := by simp
      go_wp2_with fail
      refine (same_any A5 A6 _ _ _ _ body body w6 hr5 hr6).mono ?_
      rintro e w7 ⟨rfl, rfl⟩
      go_wp2_with fail
      have hmx := hr5.max
      have hlx := hr5.le
      clear e1 e2 hr2'' hr3'' hr6 hr5
      generalize body.length = m at *
      go_loopw [84] (fun i wr => ∃ k : Nat, k ≤ m ∧ i = .int .i64 k ∧ ∃ xs, wr.ownsRow w4.heap.size 5 1 (.slice A5 m c5) m (bv xs) ∧ Below w4.heap.size w4 wr) (fun i _ => m - (intOf i).toNat)
      case atStart => exact ⟨0, by omega, rfl, body, hown5', hB6⟩
      case round =>
        obtain ⟨k, hk, rfl, xs, hown, hB⟩ := hrel
        by_cases hlt : k < m
        · obtain ⟨g, cap, hv, hg1, hg2⟩ := hown.form (by omega)
          injection hv with ha _ hcc
          subst ha
          have hxl : xs.length = m := by have := hown.1; rw [bv_length] at this; omega
          have hkx : k < xs.length := by omega
          have hc := (hown.cellAt k (by omega)).trans (show (bv xs)[k]? = some (bcell xs[k]) by simp [bv, hkx])
          have hf := hown.frozenAt k
          obtain ⟨y, hy⟩ := u8_bump xs[k]
          have hst := hown.stored k (bcell y)
          rw [bv_set] at hst
          unfold bcell at hc hst
          have Hst := Lib.hid hst
          have hxb := (xs[k]).toNat_lt
          have hyb := y.toNat_lt
          clear hst hxl
          generalize xs[k] = x at *
          go_wp2
          go_roundw
          case rel => exact ⟨k + 1, by omega, by go_num, _, Hst.out.1, hB.setCell (p := ⟨g, k, none⟩) hg1 _⟩
          case measure => simp [intOf]; omega
        · go_wp2_with fail
          refine (same_any A A4 _ _ _ _ l l wr ((h4.below hB).more hB.size) ((hr4.below hB).more hB.size)).mono ?_
          rintro e w7 ⟨rfl, rfl⟩
          have e1 : (l == l) = true := by simp
          go_wp2_with fail
          go_ret
          exact ⟨rfl, hB4.trans (hB.mono hB4.size)⟩
end Go.Proofs.Ytoagegphhefboaa
