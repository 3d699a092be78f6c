/-
  SealBurst: for every byte slice, offset and word the law returns true and the arguments read as before. No condition.
-/
import Derived.Test.YtoagegphhefboaaLiveW
import Derived.Test.YtoagegphhefboaaBurst
namespace Go.Proofs.Ytoagegphhefboaa
open Go.RowKit
set_option linter.unusedVariables false

theorem byteAt_int (q k : Nat) : (q : Int) / 2 ^ (8 * k) % 256 = ((byteAt q k).toNat : Int) := by
  unfold byteAt
  rw [u8_ofNat_toNat]
  simp
theorem u8_ne_zero (x : UInt8) : ((x.toNat : Int) != 0) = (x != 0) := by
  rw [Bool.eq_iff_iff, bne_iff_ne, bne_iff_ne]
  constructor
  · intro h e; subst e; simp at h
  · intro h e
    exact h (UInt8.toNat_inj.1 (by simp; omega))

set_option maxHeartbeats 2000000 in
theorem sealBurst_walk (A : Option Addr) (n c : Nat) (l : List UInt8) (p : Int) (q : Nat) (w : World) (h : RdB w w.heap.size A n c l) (hp1 : -9223372036854775808 ≤ p) (hp2 : p ≤ 9223372036854775807) (hq : q < 4294967296) :
    Calls Try.prog 5 #[.slice A n c, .int .i64 p, .int .u32 q] w fun e w' => e = .returned (.bool true) ∧ Below w.heap.size w w' := by
  have hm := h.max
  have hle := h.le
  go_enter Try.func5, Try.ntmps5
  go_wp2_with fail
  refine (live2_any w).mono ?_
  rintro e w1 ⟨rfl, hb1⟩
  by_cases hout : 2000 < n ∨ p < 0 ∨ (n : Int) < p
  · have hgo : decide ((2000 : Int) < (n : Int)) = true ∨ (decide ((2000 : Int) < (n : Int)) = false ∧ decide (p < 0) = true) ∨ (decide ((2000 : Int) < (n : Int)) = false ∧ decide (p < 0) = false ∧ decide ((n : Int) < p) = true) := by
      by_cases h1 : 2000 < n
      · left; simp; omega
      · by_cases h2 : p < 0
        · right; left; simp; omega
        · right; right; simp; omega
    rcases hgo with d1 | ⟨d1, d2⟩ | ⟨d1, d2, d3⟩
    all_goals
      go_wp2_with fail
      go_ret
      exact ⟨rfl, hb1⟩
  · have d1 : decide ((2000 : Int) < (n : Int)) = false := by simp; omega
    have d2 : decide (p < 0) = false := by simp; omega
    have d3 : decide ((n : Int) < p) = false := by simp; omega
    have hlen := Lib.hid h.len
    have h1 := (h.below hb1).more hb1.size
    go_wp2_with fail
    refine (rcopy_any A n c l w1 h1 (by omega)).mono ?_
    rintro e w2 ⟨v2, rfl, hown2, hb2⟩
    have h2 := (h1.below hb2)
    have hB2 : Below w1.heap.size w1 w2 := hb2
    obtain ⟨A2, c2, rfl, hr2⟩ := own_rdB hown2
    have hm2 := hr2.max
    have hl2 := hr2.le
    have hpn : ∃ r : Nat, p = r := ⟨p.toNat, by omega⟩
    obtain ⟨r, rfl⟩ := hpn
    have hrn : r ≤ n := by omega
    clear d2 d3 hr2
    go_wp2_with fail
    go_loopw [8, 9] (fun ch i wr => ∃ k : Nat, k ≤ 4 ∧ r + k ≤ n ∧ i = .int .i64 k ∧ ch = .bool (chg q k) ∧ wr.ownsRow w1.heap.size 5 1 (.slice A2 n c2) n (bv (burst l r q k)) ∧ Below w1.heap.size w1 wr) (fun _ i _ => 4 - (intOf i).toNat)
    case atStart => exact ⟨0, by omega, by omega, rfl, rfl, hown2, hB2⟩
    case round =>
      obtain ⟨k, hk, hrk, rfl, rfl, hown, hB⟩ := hrel
      by_cases hlt : k < 4 ∧ r + k < n
      · obtain ⟨g, cap, hv, hg1, hg2⟩ := hown.form (by omega)
        injection hv with ha _ hcc
        subst ha
        have hxl : (burst l r q k).length = n := by rw [burst_length]; exact hlen.out
        have hkx : r + k < (burst l r q k).length := by omega
        have hc := (hown.cellAt (r + k) (by omega)).trans (show (bv (burst l r q k))[r + k]? = some (bcell (burst l r q k)[r + k]) by simp [bv, hkx])
        have hf := hown.frozenAt (r + k)
        have hst := hown.stored (r + k) (bcell ((burst l r q k)[r + k] ^^^ byteAt q k))
        have eb : (burst l r q k).set (r + k) ((burst l r q k)[r + k] ^^^ byteAt q k) = burst l r q (k + 1) := by
          simp [burst, List.getD_eq_getElem?_getD, List.getElem?_eq_getElem hkx]
        rw [bv_set, eb] at hst
        unfold bcell at hc hst
        have Hst := Lib.hid hst
        clear hst hxl eb
        generalize (burst l r q k)[r + k] = x at *
        have hxb := x.toNat_lt
        have hch : Hid (chg q (k + 1) = (chg q k || byteAt q k != 0)) := rfl
        have d4 : decide ((k : Int) < 4) = true := by simp; omega
        have d5 : decide ((r : Int) + (k : Int) < (n : Int)) = true := by simp; omega
        have hbi : Hid ((q : Int) / 2 ^ (8 * k) % 256 = ((byteAt q k).toNat : Int)) := byteAt_int q k
        have hxi : Hid (bits .xor .u8 (x.toNat : Int) ((q : Int) / 2 ^ (8 * k) % 256) = (((x ^^^ byteAt q k).toNat : Nat) : Int)) := by
          show _ = _
          rw [hbi.out, u8_xor_nat _ _ (by omega) (by have := (byteAt q k).toNat_lt; omega), UInt8.toNat_xor]
        have hne : Hid (((q : Int) / 2 ^ (8 * k) % 256 != 0) = (byteAt q k != 0)) := by
          show _ = _
          rw [hbi.out, u8_ne_zero]
        cases hcg : chg q k
        · have Hcg := Lib.hid hcg
          clear hcg
          go_wp2
          go_roundw
          case rel => exact ⟨k + 1, by omega, by omega, by go_num, by rw [hne.out, hch.out, Hcg.out, Bool.false_or], by rw [hxi.out]; exact Hst.out.1, hB.setCell (p := ⟨g, r + k, none⟩) hg1 _⟩
          case measure => simp [intOf]; omega
        · have Hcg := Lib.hid hcg
          clear hcg
          go_wp2
          go_roundw
          case rel => exact ⟨k + 1, by omega, by omega, by go_num, by rw [hch.out, Hcg.out, Bool.true_or], by rw [hxi.out]; exact Hst.out.1, hB.setCell (p := ⟨g, r + k, none⟩) hg1 _⟩
          case measure => simp [intOf]; omega
      · have htell := Lib.hid (burst_tells l r q k hk (by rw [hlen.out]; exact hrk))
        have hgo : decide ((k : Int) < 4) = false ∨ (decide ((k : Int) < 4) = true ∧ decide ((r : Int) + (k : Int) < (n : Int)) = false) := by
          by_cases h4 : k < 4
          · right; simp; omega
          · left; simp; omega
        obtain ⟨A3, c3, hv3, hr3⟩ := own_rdB hown
        injection hv3 with ha3 _ hc3
        subst ha3 hc3
        have hbb : Below w.heap.size w wr := hb1.trans (hB.mono hb1.size)
        rcases hgo with d4 | ⟨d4, d5⟩
        all_goals
          go_wp2_with fail
          refine (sum_any A2 n c2 _ wr hr3).mono ?_
          rintro e w4 ⟨rfl, hb4⟩
          go_wp2_with fail
          refine (sum_any A n c l w4 ((h1.below (hB.trans (hb4.mono hB.size))).more (Nat.le_trans hB.size hb4.size))).mono ?_
          rintro e w5 ⟨rfl, hb5⟩
          go_wp2_with fail
          go_ret
          refine ⟨?_, (hbb.trans (hb4.mono hbb.size)).trans (hb5.mono (Nat.le_trans hbb.size hb4.size))⟩
          exact ret_bool (by rw [htell.out]; simp)
end Go.Proofs.Ytoagegphhefboaa
