/-
  SealSpoilt: for every list of byte slices, offset and byte the law returns true and the arguments read as before. No condition.
-/
import Derived.Test.YtoagegphhefboaaSealBack
import Derived.Test.YtoagegphhefboaaSealJoins
namespace Go.Proofs.Ytoagegphhefboaa
open Go.RowKit
set_option linter.unusedVariables false

theorem crc_one (y : List UInt8) (k : Nat) (to : UInt8) (hk : k < y.length) (hne : y[k] ≠ to) : Crc.crc (y.set k to) ≠ Crc.crc y := by
  intro h
  have e1 : y.set k to = y.take k ++ [to] ++ y.drop (k + 1) := by
    rw [List.set_eq_take_append_cons_drop, if_pos hk]; simp
  have e2 : y = y.take k ++ [y[k]] ++ y.drop (k + 1) := by
    simp
  rw [e1] at h
  have h2 : Crc.crc (y.take k ++ [to] ++ y.drop (k + 1)) = Crc.crc (y.take k ++ [y[k]] ++ y.drop (k + 1)) := by rw [h, ← e2]
  have h3 := Crc.crc_burst (y.take k) [to] [y[k]] (y.drop (k + 1)) rfl (by simp) h2
  simp at h3
  exact hne h3.symm

/-- A frame with one byte of its checksum or payload spoilt is refused for its sum. -/
theorem open_spoilt (l : List UInt8) (p : Nat) (y s : List UInt8) (k : Nat) (to : UInt8) (hy : y.length ≤ 65536) (h4 : 4 ≤ k) (hk : k < (frameB y).length) (hne : (frameB y)[k] ≠ to)
    (h : l.drop p = (frameB y).set k to ++ s) : openI l p = ⟨20, [], 0⟩ := by
  have hfl := frameB_length y
  have hl : l.length - p = 8 + y.length + s.length := by rw [← List.length_drop, h]; simp [hfl]
  have e0 : frameB y = four y.length ++ (four (Crc.crc y) ++ y) := by simp [frameB, List.append_assoc]
  have l4 : (four y.length).length = 4 := rfl
  have l4' : (four (Crc.crc y)).length = 4 := rfl
  have eset : (frameB y).set k to = four y.length ++ (four (Crc.crc y) ++ y).set (k - 4) to := by
    rw [e0, List.set_append_right _ _ (by omega), l4]
  have p1 : (l.drop p).take 4 = four y.length := by
    rw [h, eset, List.append_assoc, List.take_append_of_le_length (by omega), List.take_of_length_le (by omega)]
  have p2 : (l.drop p).drop 4 = (four (Crc.crc y) ++ y).set (k - 4) to ++ s := by
    rw [h, eset, List.append_assoc, List.drop_append_of_le_length (by omega), List.drop_of_length_le (by omega), List.nil_append]
  have hne2 : (four (Crc.crc y) ++ y)[k - 4]'(by rw [List.length_append]; omega) ≠ to := by
    intro e
    apply hne
    rw [← e]
    have : (frameB y)[k]? = (four (Crc.crc y) ++ y)[k - 4]? := by
      rw [e0, List.getElem?_append_right (by omega), l4]
    rw [List.getElem?_eq_getElem hk, List.getElem?_eq_getElem (by rw [List.length_append]; omega)] at this
    injection this
  unfold openI
  rw [if_neg (by omega), Int.toNat_natCast]
  unfold openB
  rw [p1, num_four _ (by omega), List.length_drop, hl, if_neg (by omega), if_neg (by omega), if_neg (by omega)]
  rw [if_pos]
  have e8 : (l.drop p).drop 8 = ((l.drop p).drop 4).drop 4 := by simp only [List.drop_drop]
  rw [e8, p2]
  by_cases hk8 : k < 8
  · have es2 : (four (Crc.crc y) ++ y).set (k - 4) to = (four (Crc.crc y)).set (k - 4) to ++ y := by
      rw [List.set_append_left _ _ (by omega)]
    have lset : ((four (Crc.crc y)).set (k - 4) to).length = 4 := by simp [l4']
    rw [es2, List.append_assoc, List.drop_append_of_le_length (by omega), List.drop_of_length_le (by omega), List.nil_append, List.take_append_of_le_length (by omega), List.take_of_length_le (Nat.le_refl _),
      List.take_append_of_le_length (by omega), List.take_of_length_le (by omega)]
    intro hcrc
    have := four_num _ lset
    rw [← hcrc] at this
    have h5 : (four (Crc.crc y))[k - 4]'(by omega) = to := by
      have h6 : (four (Crc.crc y))[k - 4]? = ((four (Crc.crc y)).set (k - 4) to)[k - 4]? := by rw [← this]
      rw [List.getElem?_set_self (by omega), List.getElem?_eq_getElem (by omega)] at h6
      injection h6
    apply hne2
    rw [List.getElem_append_left (by omega)]
    exact h5
  · have es2 : (four (Crc.crc y) ++ y).set (k - 4) to = four (Crc.crc y) ++ y.set (k - 8) to := by
      rw [List.set_append_right _ _ (by omega), l4']
      congr 2
    rw [es2, List.append_assoc, List.drop_append_of_le_length (by omega), List.drop_of_length_le (by omega), List.nil_append, List.take_append_of_le_length (by simp), List.take_of_length_le (by simp),
      List.take_append_of_le_length (by omega), List.take_of_length_le (by omega), num_four _ (Crc.crc_lt y)]
    refine crc_one y (k - 8) to (by omega) ?_
    intro e
    apply hne2
    rw [List.getElem_append_right (by omega)]
    rw [← e]
    congr 1

/-- All in one: frames with one byte behind a length field spoilt. -/
theorem spoilt_all (ls : List (List UInt8)) (hs : ∀ x ∈ ls, x.length ≤ 65536) (m : Nat) (hm : m < ls.length) (a : Nat) (to : UInt8) (ha : a < (framesB ls).length) (h1 : (framesB (ls.take m)).length + 4 ≤ a) (h2 : a < (framesB (ls.take (m + 1))).length) (hne : (framesB ls)[a] ≠ to) :
    ScanOK ((framesB ls).set a to) 0 (scFrom 0 (ls.take m)) ∧ (openI ((framesB ls).set a to) ((framesB (ls.take m)).length : Nat)).err = 20 := by
  have e1 : ls = ls.take m ++ ls[m] :: ls.drop (m + 1) := by simp
  have e2 : framesB ls = framesB (ls.take m) ++ (frameB ls[m] ++ framesB (ls.drop (m + 1))) := by
    conv => lhs; rw [e1]
    rw [framesB_append, framesB_cons]
  have e3 : framesB (ls.take (m + 1)) = framesB (ls.take m) ++ frameB ls[m] := by
    rw [List.take_succ_eq_append_getElem hm, framesB_append]; simp [framesB]
  rw [e3, List.length_append] at h2
  have hy := hs ls[m] (List.getElem_mem hm)
  have e4 : (framesB ls).set a to = framesB (ls.take m) ++ ((frameB ls[m]).set (a - (framesB (ls.take m)).length) to ++ framesB (ls.drop (m + 1))) := by
    rw [e2, List.set_append_right _ _ (by omega), List.set_append_left _ _ (by omega)]
  have hne' : (frameB ls[m])[a - (framesB (ls.take m)).length]'(by omega) ≠ to := by
    intro e
    apply hne
    rw [← e]
    have : (framesB ls)[a]? = (frameB ls[m])[a - (framesB (ls.take m)).length]? := by
      rw [e2, List.getElem?_append_right (by omega), List.getElem?_append_left (by omega)]
    rw [List.getElem?_eq_getElem ha, List.getElem?_eq_getElem (by omega)] at this
    injection this
  have hdrop : ((framesB ls).set a to).drop (framesB (ls.take m)).length = (frameB ls[m]).set (a - (framesB (ls.take m)).length) to ++ framesB (ls.drop (m + 1)) := by
    rw [e4, List.drop_append_of_le_length (by omega), List.drop_of_length_le (by omega), List.nil_append]
  have ho := open_spoilt _ _ ls[m] _ _ to hy (by omega) (by omega) hne' hdrop
  refine ⟨scan_frames _ (fun x hx => hs x (List.mem_of_mem_take hx)) _ 0 _ (by rw [List.drop_zero]; exact e4) ?_, by rw [ho]⟩
  rw [← hdrop]
  exact noFrame_of_open (by rw [ho]; simp)

set_option maxHeartbeats 2000000 in
theorem sealSpoilt_walk (A : Option Addr) (n c : Nat) (ls : List (List UInt8)) (p : Int) (to : UInt8) (w : World) (h : RdBB w w.heap.size A n c ls) (hp1 : -9223372036854775808 ≤ p) (hp2 : p ≤ 9223372036854775807) :
    Calls Try.prog 10 #[.slice A n c, .int .i64 p, .int .u8 (to.toNat : Int)] w fun e w' => e = .returned (.bool true) ∧ Below w.heap.size w w' := by
  have hm := h.max
  have hle := h.le
  have hlen := Lib.hid h.len
  go_enter Try.func10, Try.ntmps10
  go_wp2_with fail
  refine (live2_any w).mono ?_
  rintro e w1 ⟨rfl, hb1⟩
  have h1 := (h.below hb1).more hb1.size
  go_wp2_with fail
  refine (few_any A n c ls 12 w1 h1 (by omega)).mono ?_
  rintro e w1' ⟨rfl, rfl⟩
  cases hfew : fewB ls 12 with
  | false =>
    have Hfew := Lib.hid hfew
    clear hfew
    go_wp2_with fail
    go_ret
    exact ⟨rfl, hb1⟩
  | true =>
    obtain ⟨f1, f2⟩ := few_facts hfew
    rw [hlen.out] at f1
    have Hfew := Lib.hid hfew
    clear hfew
    by_cases hneg : p < 0
    · have d1 : decide (p < 0) = true := by simp; omega
      go_wp2_with fail
      go_ret
      exact ⟨rfl, hb1⟩
    · have d1 : decide (p < 0) = false := by simp; omega
      have hs : ∀ x ∈ ls, x.length ≤ 65536 := fun x hx => by have := f2 x hx; omega
      have htot := framesB_bound ls 1000 f2
      rw [hlen.out] at htot
      have HS := Lib.hid hs
      clear hs f2
      have htot2 : (framesB ls).length ≤ 12096 := Nat.le_trans htot (by omega)
      clear htot
      go_wp2_with fail
      refine (framed_any A n c ls w1 h1 HS.out (by omega) (by omega)).mono ?_
      rintro e w2 ⟨v2, ve2, rfl, o2, e2, hb2⟩
      have h2 := (h1.below hb2).more hb2.size
      have hB2 := hb1.trans (hb2.mono hb1.size)
      obtain ⟨A2, c2, rfl, r2⟩ := own_rdB o2
      obtain ⟨A3, c3, rfl, r3⟩ := own_rd e2
      clear o2 e2
      have hm2 := r2.max
      have hl2 := r2.le
      obtain ⟨a, rfl⟩ := Int.eq_ofNat_of_zero_le (show 0 ≤ p by omega)
      by_cases hbig : (framesB ls).length ≤ a
      · have d2 : decide (((framesB ls).length : Int) ≤ (a : Int)) = true := by simp; omega
        generalize (framesB ls).length = N at *
        go_wp2_with fail
        go_ret
        exact ⟨rfl, hB2⟩
      · have hlt : a < (framesB ls).length := by omega
        have d2 : decide (((framesB ls).length : Int) ≤ (a : Int)) = false := by simp; omega
        obtain ⟨ad, rfl, _, hcell⟩ := r2.at_ hlt hlt
        have hEG := fun (k : Nat) (hk : k < ls.length) => endsFrom_get 0 ls k hk
        obtain ⟨xx, hxx⟩ : ∃ xx, xx = (framesB ls)[a] := ⟨_, rfl⟩
        have hSP := fun (m : Nat) (hm : m < ls.length) (q1 : (framesB (ls.take m)).length + 4 ≤ a) (q2 : a < (framesB (ls.take (m + 1))).length) (hne : xx ≠ to) => spoilt_all ls HS.out m hm a to hlt q1 q2 (by rw [← hxx]; exact hne)
        rw [← hxx] at hcell
        clear hxx
        have HEG := Lib.hid hEG
        have HSP := Lib.hid hSP
        clear hEG hSP
        have hel := Lib.hid (endsFrom_length 0 ls)
        have hall : Hid (framesB (ls.take n) = framesB ls) := by show _ = _; rw [List.take_of_length_le (by rw [hlen.out]; omega)]
        generalize endsFrom 0 ls = es at *
        generalize hFB : framesB ls = fb at *
        clear hFB
        generalize hFN : fb.length = N at *
        have HFN := Lib.hid hFN
        clear hFN
        rw [hlen.out] at r3 ⊢
        by_cases hsame : xx = to
        · subst hsame
          have d4 : (((xx.toNat : Nat) : Int) == (xx.toNat : Int)) = true := by simp
          go_wp2_with fail
          go_ret
          exact ⟨rfl, hB2⟩
        · have d4 : (((xx.toNat : Nat) : Int) == (to.toNat : Int)) = false := by
            rw [beq_eq_false_iff_ne]
            intro e
            exact hsame (UInt8.toNat_inj.1 (by omega))
          have HSM := Lib.hid hsame
          clear hsame
          have m3 := r3.max
          have l3 := r3.le
          have hxb := xx.toNat_lt
          have htb := to.toNat_lt
          go_wp2_with fail
          go_loop [10, 11] (fun i b => ∃ k : Nat, k ≤ n ∧ i = .int .i64 k ∧ b = .int .i64 ((framesB (ls.take k)).length : Nat) ∧ (framesB (ls.take k)).length ≤ a) (fun i _ => n - (intOf i).toNat)
          case atStart => exact ⟨0, by omega, rfl, rfl, by simp [framesB]⟩
          case round =>
            obtain ⟨k, hk, rfl, rfl, hka⟩ := hrel
            have hkn : k < n := by
              rcases Nat.lt_or_ge k n with h' | h'
              · exact h'
              · obtain rfl : k = n := by omega
                rw [hall.out, HFN.out] at hka
                omega
            have e1 : k < es.length := by rw [hel.out, hlen.out]; exact hkn
            obtain ⟨ad3, rfl, _, hc3⟩ := nv_at r3 hkn e1
            have e2 : es[k] = (framesB (ls.take (k + 1))).length := by
              have := HEG.out k (by rw [hlen.out]; exact hkn)
              rw [List.getElem?_eq_getElem e1] at this
              injection this with this
              omega
            rw [e2] at hc3
            clear e2
            have hs1 := HSP.out k (by rw [hlen.out]; exact hkn)
            have HS1 := Lib.hid hs1
            clear hs1
            have d5 : decide ((k : Int) < (n : Int)) = true := by simp; omega
            by_cases hle2 : (framesB (ls.take (k + 1))).length ≤ a
            · generalize hz1 : (framesB (ls.take (k + 1))).length = z1 at *
              have Z1 := Lib.hid hz1
              clear hz1
              generalize (framesB (ls.take k)).length = z0 at *
              have d6 : decide ((z1 : Int) ≤ (a : Int)) = true := by simp; omega
              go_wp2
              go_round
              case rel => exact ⟨k + 1, by omega, by go_num, by rw [Z1.out], by rw [Z1.out]; exact hle2⟩
              case measure => simp [intOf]; omega
            · have hgt : a < (framesB (ls.take (k + 1))).length := by omega
              have y1 := Lib.hid (scFrom_fst 0 (ls.take k))
              have y2 := Lib.hid (scFrom_last0 (ls.take k))
              have y3 := Lib.hid (scFrom_length 0 (ls.take k))
              have y4 : Hid ((ls.take k).length = k) := by show _ = _; rw [List.length_take, hlen.out]; omega
              have h5 := h2.upto hk
              generalize (framesB (ls.take (k + 1))).length = z1 at *
              generalize (framesB (ls.take k)).length = z0 at *
              have d6 : decide ((z1 : Int) ≤ (a : Int)) = false := by simp; omega
              by_cases hfield : a < z0 + 4
              · go_wp2_with fail
                go_ret
                exact ⟨rfl, hB2⟩
              · obtain ⟨x1, x2⟩ := HS1.out (by omega) hgt HSM.out
                go_wp2_with fail
                refine (rcopy_any _ _ _ _ _ r2 (by omega)).mono ?_
                rintro e w3 ⟨v3, rfl, o3, hb3⟩
                have h6 := (h5.below hb3)
                obtain ⟨g, cap, rfl, hg1, hg2⟩ := o3.form (by omega)
                have hafb : a < fb.length := by rw [HFN.out]; exact hlt
                have hcc := (o3.cellAt a (by omega)).trans (show (bv fb)[a]? = some (bcell fb[a]) by simp [bv, hafb])
                have hff := o3.frozenAt a
                have hst := o3.stored a (bcell to)
                rw [bv_set] at hst
                generalize fb[a] = xa at hcc
                unfold bcell at hcc hst
                have hB3 : Below w2.heap.size w2 (w3.setCell ⟨g, a, none⟩ (.int .u8 (to.toNat : Int))) := hb3.setCell (p := ⟨g, a, none⟩) hg1 _
                obtain ⟨hst1, hst2⟩ := hst
                obtain ⟨A4, c4, hv4, r4⟩ := own_rdB hst1
                injection hv4 with ha4 _ hc4
                subst ha4 hc4
                have hcap : N ≤ cap := r4.le
                have hcmx := r4.max
                have hrz := open_cases (fb.set a to) z0
                have z0b : (z0 : Int) ≤ 12096 := by omega
                rw [y4.out] at y3
                go_wp2_with fail
                generalize hW4 : w3.setCell ⟨g, a, none⟩ (.int .u8 (to.toNat : Int)) = W4 at *
                clear hW4
                have h7 := (h5.below hB3).more hB3.size
                have hB4 := hB2.trans (hB3.mono hB2.size)
                refine (scan_any _ _ _ _ _ W4 r4 (by omega) x1 (by rw [y3.out]; omega)).mono ?_
                intro e w5 hp
                obtain ⟨A5, c5, rfl, r6, hb5⟩ := hp.read
                clear hp
                rw [y1.out, y3.out] at r6
                rw [y2.out, y3.out]
                have h8 := (h7.below hb5).more hb5.size
                have r7 := (r4.below hb5).more hb5.size
                have hB5 := hB4.trans (hb5.mono hB4.size)
                clear h7 r4
                go_wp2_with fail
                refine (open_any _ _ _ _ (z0 : Int) w5 r7 (by omega) (by omega) (by omega)).mono ?_
                generalize openI (fb.set a to) (z0 : Int) = R at *
                obtain ⟨err, body, next⟩ := R
                dsimp only at x2 hrz
                subst x2
                obtain ⟨hbad, _⟩ | ⟨_, rfl, rfl⟩ := hrz
                · cases hbad
                rintro e w6 ⟨v6, rfl, o6, hb6⟩
                have h9 := (h8.below hb6).more hb6.size
                have r9 := (r6.below hb6).more hb6.size
                have hB6 := hB5.trans (hb6.mono hB5.size)
                clear h8 r6 o6
                dsimp only
                generalize ls.take k = lw at *
                go_wp2_with fail
                refine (sameAll_any A5 A _ _ _ _ _ _ w6 r9 h9).mono ?_
                rintro e w7 ⟨rfl, hb7⟩
                have t2 : (lw == lw) = true := by simp
                have hB7 := hB6.trans (hb7.mono hB6.size)
                go_wp2_with fail
                go_ret
                exact ⟨rfl, hB7⟩
end Go.Proofs.Ytoagegphhefboaa
