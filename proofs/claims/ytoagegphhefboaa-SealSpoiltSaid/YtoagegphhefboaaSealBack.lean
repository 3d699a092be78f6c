/-
  SealBack: for every list of byte slices and every cut the law returns true and the arguments read as before. No condition.
-/
import Derived.Test.YtoagegphhefboaaFramedW
import Derived.Test.YtoagegphhefboaaBackP
namespace Go.Proofs.Ytoagegphhefboaa
open Go.RowKit
set_option linter.unusedVariables false

theorem nv_at {w : World} {B : Nat} {A : Option Addr} {n c : Nat} {l : List Nat} (h : Rd w B A n c (nv l)) {k : Nat} (hk : k < n) (hl : k < l.length) :
    ∃ ad, A = some ad ∧ ad.block < B ∧ w.cell? (ad.add k) = some (.int .i64 (l[k] : Int)) := by
  obtain ⟨ad, u, e, hb, hu, hc⟩ := h.at_ hk
  refine ⟨ad, e, hb, hc.trans ?_⟩
  rw [← hu]; simp [nv, ncell, hl]

theorem whole_snoc (cut : Nat) (es : List Nat) (k : Nat) (hk : k < es.length) :
    wholeOf cut (es.take (k + 1)) = (if es[k] ≤ cut then wholeOf cut (es.take k) + 1 else wholeOf cut (es.take k)) ∧ lastOf cut (es.take (k + 1)) = (if es[k] ≤ cut then es[k] else lastOf cut (es.take k)) := by
  rw [List.take_succ_eq_append_getElem hk]
  unfold wholeOf lastOf
  rw [List.filter_append]
  by_cases h : es[k] ≤ cut
  · simp [h]
  · simp [h]
theorem whole_le (cut : Nat) (es : List Nat) : wholeOf cut es ≤ es.length := List.length_filter_le _ _

set_option maxHeartbeats 2000000 in
theorem sealBack_walk (A : Option Addr) (n c : Nat) (ls : List (List UInt8)) (p : Int) (w : World) (h : RdBB w w.heap.size A n c ls) (hp1 : -9223372036854775808 ≤ p) (hp2 : p ≤ 9223372036854775807) :
    Calls Try.prog 9 #[.slice A n c, .int .i64 p] w fun e w' => e = .returned (.bool true) ∧ Below w.heap.size w w' := by
  have hm := h.max
  have hle := h.le
  have hlen := Lib.hid h.len
  go_enter Try.func9, Try.ntmps9
  go_wp2_with fail
  refine (live2_any w).mono ?_
  rintro e w1 ⟨rfl, hb1⟩
  have h1 := (h.below hb1).more hb1.size
  go_wp2_with fail
  refine (few_any A n c ls 12 w1 h1 (by omega)).mono ?_
  rintro e w1' ⟨rfl, rfl⟩
  cases hfew : fewB ls 12 with
  | false =>
    have Hfew := Lib.hid hfew
    clear hfew
    go_wp2_with fail
    go_ret
    exact ⟨rfl, hb1⟩
  | true =>
    obtain ⟨f1, f2⟩ := few_facts hfew
    rw [hlen.out] at f1
    by_cases hneg : p < 0
    · have d1 : decide (p < 0) = true := by simp; omega
      have Hfew := Lib.hid hfew
      clear hfew
      go_wp2_with fail
      go_ret
      exact ⟨rfl, hb1⟩
    · have d1 : decide (p < 0) = false := by simp; omega
      have Hfew := Lib.hid hfew
      clear hfew
      have hs : ∀ x ∈ ls, x.length ≤ 65536 := fun x hx => by have := f2 x hx; omega
      have htot := framesB_bound ls 1000 f2
      rw [hlen.out] at htot
      have HS := Lib.hid hs
      clear hs f2
      have htot2 : (framesB ls).length ≤ 12096 := Nat.le_trans htot (by omega)
      clear htot
      go_wp2_with fail
      refine (framed_any A n c ls w1 h1 HS.out (by omega) (by omega)).mono ?_
      rintro e w2 ⟨v2, ve2, rfl, o2, e2, hb2⟩
      have h2 := (h1.below hb2).more hb2.size
      have hB2 := hb1.trans (hb2.mono hb1.size)
      obtain ⟨A2, c2, rfl, r2⟩ := own_rdB o2
      obtain ⟨A3, c3, rfl, r3⟩ := own_rd e2
      clear o2 e2
      have hsc := scan_all ls HS.out
      have hq := scFrom_last0 ls
      have hfst := scFrom_fst 0 ls
      have hscl := scFrom_length 0 ls
      rw [hlen.out] at hscl
      have HQ := Lib.hid hq
      have HFst := Lib.hid hfst
      have HL := Lib.hid hscl
      clear hq hfst hscl
      go_wp2_with fail
      refine (scan_any A2 _ c2 _ _ w2 r2 (by omega) hsc (by rw [HL.out]; omega)).mono ?_
      intro e w3 hp
      obtain ⟨A4, c4, rfl, r4, hb3⟩ := hp.read
      clear hp
      rw [HFst.out, HL.out] at r4
      rw [HQ.out, HL.out]
      have h3 := (h2.below hb3).more hb3.size
      have r2' := (r2.below hb3).more hb3.size
      have r3' := (r3.below hb3).more hb3.size
      have hB3 := hB2.trans (hb3.mono hB2.size)
      clear r2 r3 h2
      go_wp2_with fail
      refine (sameAll_any A4 A _ _ _ _ _ _ w3 r4 h3).mono ?_
      rintro e w4 ⟨rfl, hb4⟩
      have t1 : (ls == ls) = true := by simp
      have h4 := (h3.below hb4).more hb4.size
      have r2 := (r2'.below hb4).more hb4.size
      have r3 := (r3'.below hb4).more hb4.size
      have hB4 := hB3.trans (hb4.mono hB3.size)
      have hm2 := r2.max
      have hl2 := r2.le
      clear r2' r3' h3 r4
      have hel := Lib.hid (endsFrom_length 0 ls)
      have hcutall := fun (cut : Nat) (hc : cut ≤ (framesB ls).length) => scan_cut ls HS.out cut hc
      have HC := Lib.hid hcutall
      clear hcutall
      rw [hlen.out] at r3
      generalize endsFrom 0 ls = es at *
      have hFl : Hid (∃ F, F = framesB ls) := ⟨_, rfl⟩
      generalize hFF : framesB ls = fb at *
      have HFF := Lib.hid hFF
      clear hFF
      generalize hFN : fb.length = N at *
      have HFN := Lib.hid hFN
      clear hFN
      have d3 : (((N : Nat) : Int) != (N : Int)) = false := by simp
      obtain ⟨u, rfl⟩ := Int.eq_ofNat_of_zero_le (show 0 ≤ p by omega)
      have hmod : u % (N + 1) ≤ N := by have := Nat.mod_lt u (show 0 < N + 1 by omega); omega
      go_wp2_with fail
      rw [hlen.out, show ((u : Int) % ((N : Int) + 1)) = ((u % (N + 1) : Nat) : Int) from by simp]
      generalize u % (N + 1) = cut at *
      have hesl : es.length = n := by rw [hel.out, hlen.out]
      have HE := Lib.hid hesl
      clear hesl
      go_loop [10, 11, 55] (fun a b i => ∃ k : Nat, k ≤ n ∧ i = .int .i64 k ∧ a = .int .i64 (wholeOf cut (es.take k) : Nat) ∧ b = .int .i64 (lastOf cut (es.take k) : Nat)) (fun _ _ i => n - (intOf i).toNat)
      case atStart => exact ⟨0, by omega, rfl, rfl, rfl⟩
      case round =>
        obtain ⟨k, hk, rfl, rfl, rfl⟩ := hrel
        have hwl := whole_le cut (es.take k)
        rw [List.length_take, HE.out] at hwl
        by_cases hlt : k < n
        · have e1 : k < es.length := by rw [HE.out]; exact hlt
          obtain ⟨ad, rfl, _, hc⟩ := nv_at r3 hlt e1
          obtain ⟨s1, s2⟩ := whole_snoc cut es k e1
          have S1 := Lib.hid s1
          have S2 := Lib.hid s2
          clear s1 s2
          generalize es[k] = x at *
          by_cases hx : x ≤ cut
          · rw [if_pos hx] at S1 S2
            go_wp2
            go_round
            case rel => exact ⟨k + 1, by omega, by go_num, by rw [S1.out]; go_num, by rw [S2.out]⟩
            case measure => simp [intOf]; omega
          · rw [if_neg hx] at S1 S2
            go_wp2
            go_round
            case rel => exact ⟨k + 1, by omega, by go_num, by rw [S1.out], by rw [S2.out]⟩
            case measure => simp [intOf]; omega
        · obtain rfl : k = n := by omega
          have et : es.take k = es := List.take_of_length_le (by rw [HE.out]; omega)
          rw [et] at hwl ⊢
          obtain ⟨x1, x2, x3⟩ := HC.out cut hmod
          have X3 := Lib.hid x3
          clear x3 et
          rw [hlen.out] at x2
          have r5 := r2.upto hmod
          have y1 := Lib.hid (scFrom_fst 0 (ls.take (wholeOf cut es)))
          have y2 := Lib.hid (scFrom_last0 (ls.take (wholeOf cut es)))
          have y3 := Lib.hid (scFrom_length 0 (ls.take (wholeOf cut es)))
          have y4 : Hid ((ls.take (wholeOf cut es)).length = wholeOf cut es) := by show _ = _; rw [List.length_take, hlen.out]; omega
          have h5 := h4.upto x2
          generalize wholeOf cut es = wh at *
          generalize lastOf cut es = la at *
          go_wp2_with fail
          refine (scan_any A2 _ c2 _ _ w4 r5 (by omega) x1 (by rw [y3.out, y4.out]; omega)).mono ?_
          intro e w5 hp
          obtain ⟨A5, c5, rfl, r6, hb5⟩ := hp.read
          clear hp
          rw [y1.out, y3.out, y4.out] at r6
          rw [y2.out, y3.out, y4.out]
          rw [← X3.out]
          have h6 := (h5.below hb5).more hb5.size
          have hB5 := hB4.trans (hb5.mono hB4.size)
          generalize ls.take wh = lw at *
          go_wp2_with fail
          refine (sameAll_any A5 A _ _ _ _ _ _ w5 r6 h6).mono ?_
          rintro e w6 ⟨rfl, hb6⟩
          have t2 : (lw == lw) = true := by simp
          have hB6 := hB5.trans (hb6.mono hB5.size)
          go_wp2_with fail
          go_ret
          exact ⟨rfl, hB6⟩
end Go.Proofs.Ytoagegphhefboaa
