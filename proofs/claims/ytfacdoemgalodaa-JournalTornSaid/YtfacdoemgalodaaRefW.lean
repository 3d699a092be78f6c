/-
  The walks of the reference's four, number, Frame, Open, Same.
-/
import Derived.Test.YtfacdoemgalodaaOpenW
namespace Go.Proofs.Ytfacdoemgalodaa
open Go.RowKit
set_option linter.unusedVariables false

theorem rfour_any (n : Nat) (hn : n < 4294967296) (w : World) :
    Calls Try.prog 59 #[.int .u32 n] w (RetNew 5 4 (bv (four n)) w) := by
  have hc := Lib.hid (four_cells n hn)
  go_enter Try.func59, Try.ntmps59
  go_wp2
  go_ret
  refine ⟨_, rfl, ?_, (Below.refl _ _).alloc (Nat.le_refl _) _⟩
  rw [hc.out]
  exact World.ownsRow_lit w _ 4 (Nat.le_refl _) (by unfold maxLen; omega) rfl

theorem numB_four (a b c d : UInt8) : numB [a, b, c, d] = ((a.toNat * 256 + b.toNat) * 256 + c.toNat) * 256 + d.toNat := by simp [numB]

theorem rnumber_any (A : Option Addr) (c : Nat) (l : List UInt8) (w : World) (h : RdB w w.heap.size A 4 c l) :
    Calls Try.prog 69 #[.slice A 4 c] w fun e w' => e = .returned (.int .u32 (numB l : Nat)) ∧ ∃ m, w' = w.drewN m := by
  have hlen := h.len
  match l, hlen with
  | [x0, x1, x2, x3], _ =>
    obtain ⟨ad, rfl, hblk, h0⟩ := h.at_ (k := 0) (by omega) (by simp)
    obtain ⟨ad', e1, _, h1⟩ := h.at_ (k := 1) (by omega) (by simp)
    obtain ⟨ad'', e2, _, h2⟩ := h.at_ (k := 2) (by omega) (by simp)
    obtain ⟨ad''', e3, _, h3⟩ := h.at_ (k := 3) (by omega) (by simp)
    cases e1; cases e2; cases e3
    simp only [List.getElem_cons_zero, List.getElem_cons_succ] at h0 h1 h2 h3
    have b0 := x0.toNat_lt
    have b1 := x1.toNat_lt
    have b2 := x2.toNat_lt
    have b3 := x3.toNat_lt
    have hN := Lib.hid (numB_four x0 x1 x2 x3)
    clear h
    rw [add_zero'] at h0
    replace h1 : w.cell? ⟨ad.block, ad.off + 1, none⟩ = some (.int .u8 (x1.toNat : Int)) := h1
    replace h2 : w.cell? ⟨ad.block, ad.off + 2, none⟩ = some (.int .u8 (x2.toNat : Int)) := h2
    replace h3 : w.cell? ⟨ad.block, ad.off + 3, none⟩ = some (.int .u8 (x3.toNat : Int)) := h3
    go_enter Try.func69, Try.ntmps69
    go_wp2_with fail
    go_quiet (fail)
    go_wp2
    go_ret
    refine ⟨ret_int ?_, nq, rfl⟩
    rw [hN.out]
    simp only [Int.natCast_add, Int.natCast_mul, Int.cast_ofNat_Int]

set_option maxHeartbeats 1000000 in
theorem rframe_any (A : Option Addr) (n c : Nat) (l : List UInt8) (w : World) (h : RdB w w.heap.size A n c l) :
    Calls Try.prog 44 #[.slice A n c] w (FramePost l w) := by
  have hm := h.max
  have hlen := h.len
  have hle := h.le
  by_cases hbig : 65536 < n
  · have HL := Lib.hid hlen
    clear hlen
    go_enter Try.func44, Try.ntmps44
    go_wp2
    go_ret2
    exact .inl ⟨by rw [HL.out]; exact hbig, rfl, Below.refl _ _⟩
  · have HL := Lib.hid hlen
    clear hlen
    go_enter Try.func44, Try.ntmps44
    go_wp2_with fail
    refine (rfour_any n (by omega) w).mono ?_
    rintro e w1 ⟨v1, rfl, hown1, hb1⟩
    go_wp2_with fail
    refine (rsum_any A n c l w1 ((h.below hb1).more hb1.size)).mono ?_
    rintro e w2 ⟨rfl, rfl⟩
    have hc := Crc.crc_lt l
    go_wp2_with fail
    refine (rfour_any _ hc w1).mono ?_
    rintro e w2 ⟨v2, rfl, hown2, hb2⟩
    have hown1' := own_below hown1 hb2
    have hbb : Below w.heap.size w w2 := hb1.trans (hb2.mono hb1.size)
    obtain ⟨A2, c2, rfl, hr2⟩ := own_rdB hown2
    have e1 := hb2.size
    go_wp2_with (first
      | (at_builtin; refine wpList_app (.tmp 10) (.tmp 13) elB hown1' hr2 (bv_one _) (by omega) (by omega) hbb.size rfl rfl rfl rfl ?_; intro v3 w3 hown3 hg3 hat3)
      | (at_builtin; refine wpList_app (.tmp 14) (.tmp 15) elB hown3 ((h.below hbb).grown hg3 hbb.size (own_lt hown1')) (bv_one _) (by omega) (by omega) (Nat.le_trans hbb.size hg3.size) rfl rfl rfl rfl ?_; intro v4 w4 hown4 hg4 hat4))
    go_ret2
    have hb4 : Below w.heap.size w w4 := (hbb.grown hg3 hbb.size (own_lt hown1')).grown hg4 (Nat.le_trans hbb.size hg3.size) (own_lt hown3)
    refine .inr ⟨by rw [HL.out]; omega, v4, rfl, ?_, hb4⟩
    rw [HL.out]
    have e : bv (frameB l) = bv (four n) ++ bv (four (Crc.crc l)) ++ bv l := by rw [← HL.out]; simp [frameB, bv_append]
    rw [e]
    exact hown4

/-! string(b) -/
theorem push_all (ns : List UInt8) (s : ByteArray) : (ns.map fun c => (c.toNat : Int)).foldl (fun r n => r.push (UInt8.ofNat n.toNat)) s = ⟨(s.data.toList ++ ns).toArray⟩ := by
  induction ns generalizing s with
  | nil => simp
  | cons c ns ih =>
    simp only [List.map_cons, List.foldl_cons, ih]
    have : UInt8.ofNat ((c.toNat : Int)).toNat = c := by simp
    rw [this]
    simp [ByteArray.push]

theorem run_string_of_bytes {P : Program} {w : World} {B : Nat} {A : Option Addr} {n c : Nat} {l : List UInt8} (t d e : TypeId) (ht : P.underlying t = some (.slice e)) (he : P.underlying e = some (.int .u8)) (hd : P.underlying d = some .string)
    (h : RdB w B A n c l) : (convert t d (.slice A n c)).run P w = .ok (.string ⟨l.toArray⟩) w := by
  rw [run_convert_bytes_string w t d e A n c ht he hd]
  have hlen := h.len
  rcases A with _ | ad
  · have h0 : n = 0 := by
      rcases Nat.eq_zero_or_pos n with h0 | h0
      · exact h0
      · obtain ⟨ad, h', _⟩ := h.2.2.2 h0
        cases h'
    have hl0 : l = [] := List.eq_nil_of_length_eq_zero (by omega)
    subst hl0
    simp [Conv.bytesToString]
    rfl
  · have hcells : ∀ j u, (bv l)[j]? = some u → w.cell? (ad.add j) = some u := by
      intro j u hu
      rcases Nat.eq_zero_or_pos n with h0 | h0
      · have hn : l = [] := List.eq_nil_of_length_eq_zero (by omega)
        subst hn
        simp [bv] at hu
      · obtain ⟨ad', h', _, hc⟩ := h.2.2.2 h0
        injection h' with h'
        subst h'
        exact hc j u hu
    have hl := run_loadCells_list (P := P) w ad (bv l) hcells
    have e1 : bv l = (l.map fun c => (c.toNat : Int)).map (Value.int .u8) := by unfold bv bcell; rw [List.map_map]; rfl
    rw [bv_length, hlen, e1] at hl
    rw [run_bytesToString w ad n c _ hl, push_all]
    rfl



set_option maxHeartbeats 1000000 in
theorem ropen_any (A : Option Addr) (n c : Nat) (l : List UInt8) (p : Int) (w : World) (h : RdB w w.heap.size A n c l) (hn : n ≤ 140737488355328) (hp1 : -9223372036854775808 ≤ p) (hp2 : p ≤ 9223372036854775807) :
    Calls Try.prog 54 #[.slice A n c, .int .i64 p] w (OpenPost (openI l p) w) := by
  have hm := h.max
  have hlen := Lib.hid h.len
  have hle := h.le
  by_cases ho : p < 0 ∨ (n : Int) < p
  · have hr : Hid (openI l p = ⟨1, [], 0⟩) := by
      show openI l p = _
      unfold openI; rw [if_pos (by rw [hlen.out]; exact ho)]
    rcases ho with ho | ho
    · go_enter Try.func54, Try.ntmps54
      go_wp2
      go_ret3
      rw [hr.out]
      exact openPost_err 1 w _ (Below.refl _ _)
    · have h0 : ¬ p < 0 := by omega
      go_enter Try.func54, Try.ntmps54
      go_wp2
      go_ret3
      rw [hr.out]
      exact openPost_err 1 w _ (Below.refl _ _)
  · have h0 : ¬ p < 0 := by omega
    have h1 : ¬ (n : Int) < p := by omega
    obtain ⟨q, rfl⟩ := Int.eq_ofNat_of_zero_le (show 0 ≤ p by omega)
    have hq : q ≤ n := by omega
    clear ho
    have hr : Hid (openI l q = openB l q) := by
      show openI l q = _
      unfold openI; rw [if_neg (by rw [hlen.out]; omega)]; simp
    by_cases h8 : n - q < 8
    · have hr2 : Hid (openI l q = ⟨10, [], 0⟩) := by
        show openI l q = _
        rw [hr.out]; unfold openB; rw [if_pos (by rw [List.length_drop, hlen.out]; exact h8)]
      go_enter Try.func54, Try.ntmps54
      go_wp2_with fail
      all_goals
        go_ret3
        rw [hr2.out]
        exact openPost_err 10 w _ (Below.refl _ _)
    · obtain ⟨ad, rfl, hblk, hc0⟩ := h.at_ (show 0 < n by omega) (by rw [hlen.out]; omega)
      clear hc0
      have hcut := h.cut hq
      rw [if_neg (by omega)] at hcut
      simp only [Option.map_some] at hcut
      have hnl : Hid ((l.drop q).length = n - q) := by show _ = _; rw [List.length_drop, hlen.out]
      have h4 := hcut.upto (show 4 ≤ n - q by omega)
      go_enter Try.func54, Try.ntmps54
      go_wp2_with fail
      refine (rnumber_any _ _ _ _ h4).mono ?_
      rintro e W1 ⟨rfl, m, hW1⟩
      have hN : numB ((l.drop q).take 4) < 4294967296 := numB4_lt _ (List.length_take_le _ _)
      have hres : Hid (openI l q = if 65536 < numB ((l.drop q).take 4) then ⟨11, [], 0⟩ else if n - q - 8 < numB ((l.drop q).take 4) then ⟨10, [], 0⟩
          else if Crc.crc (((l.drop q).drop 8).take (numB ((l.drop q).take 4))) ≠ numB (((l.drop q).drop 4).take 4) then ⟨20, [], 0⟩
          else ⟨0, ((l.drop q).drop 8).take (numB ((l.drop q).take 4)), q + 8 + numB ((l.drop q).take 4)⟩) := by
        show openI l q = _
        rw [hr.out]; unfold openB; rw [hnl.out, if_neg h8]
      have hh : RdB W1 W1.heap.size (some ad) n c l := by rw [hW1]; exact h
      have hB1 : Below w.heap.size w W1 := by rw [hW1]; exact below_drewN' (Below.refl _ _) _
      clear hW1 h4 hcut h hr
      have hblk := hblk
      clear hblk
      generalize hNN : numB ((l.drop q).take 4) = N at *
      clear hNN
      have hs4 := (hh.upto (show q + 8 ≤ n by omega)).cut (show q + 4 ≤ q + 8 by omega)
      rw [if_neg (by omega)] at hs4
      have el : (l.take (q + 8)).drop (q + 4) = ((l.drop q).drop 4).take 4 := by
        rw [List.drop_take, List.drop_drop]; congr 1; omega
      rw [el, show q + 8 - (q + 4) = 4 from by omega] at hs4
      simp only [Option.map_some] at hs4
      clear el
      by_cases hbig : 65536 < N
      · go_wp2_with fail
        go_ret3
        rw [hres.out, if_pos hbig]
        exact openPost_err 11 w _ hB1
      · by_cases hsh : n - q - 8 < N
        · have hsh' : ((n : Int) - (q : Int) - 8) < (N : Int) := by omega
          go_wp2_with fail
          go_ret3
          rw [hres.out, if_neg hbig, if_pos hsh]
          exact openPost_err 10 w _ hB1
        · have hsh' : ¬ ((n : Int) - (q : Int) - 8) < (N : Int) := by omega
          have hb := (hh.upto (show q + 8 + N ≤ n by omega)).cut (show q + 8 ≤ q + 8 + N by omega)
          have hlb : (l.take (q + 8 + N)).drop (q + 8) = ((l.drop q).drop 8).take N := by
            rw [List.drop_take, List.drop_drop]; congr 1; omega
          rw [hlb, Nat.add_sub_cancel_left] at hb
          have hbl : (((l.drop q).drop 8).take N).length = N := by rw [List.length_take, List.length_drop, hnl.out]; omega
          have HBL := Lib.hid hbl
          clear hlb hbl
          have hcrc := Crc.crc_lt (((l.drop q).drop 8).take N)
          generalize ((l.drop q).drop 8).take N = body at *
          generalize ((l.drop q).drop 4).take 4 = s4l at *
          generalize hSS : numB s4l = S at *
          have HS := Lib.hid hSS
          clear hSS
          have hfin : ∀ (v : Value) (w' : World), w'.ownsRow w.heap.size 5 1 v N (bv body) → Below w.heap.size w w' → Crc.crc body = S →
              OpenPost (openI l q) w (.returned (.tuple #[v, .int .i64 ((q : Int) + 8 + (N : Int)), .int .i64 0])) w' := by
            intro v w' ho hB e
            rw [hres.out, if_neg hbig, if_neg hsh, if_neg (by simpa using e)]
            refine ⟨v, ?_, by rw [HBL.out]; exact ho, hB⟩
            simp
          have hfin2 : ∀ (w' : World), Below w.heap.size w w' → Crc.crc body ≠ S →
              OpenPost (openI l q) w (.returned (.tuple #[.slice none 0 0, .int .i64 0, .int .i64 20])) w' := by
            intro w' hB e
            rw [hres.out, if_neg hbig, if_neg hsh, if_pos e]
            exact openPost_err 20 w _ hB
          have Hf := Lib.hid hfin
          have Hf2 := Lib.hid hfin2
          clear hfin hfin2
          rcases Nat.decEq c (q + 8) with h8c | h8c
          · rw [if_neg h8c] at hb
            simp only [Option.map_some] at hb
            go_wp2_with fail
            rw [show q + 8 + N - (q + 8) = N from by omega]
            generalize ad.add (q + 8) = ad8 at *
            have k1 : IntKind.i64.wrap ((q : Int) + 4) = (q : Int) + 4 := IntWalk.i64_in _ (by omega)
            have k2 : IntKind.i64.wrap ((q : Int) + 8) = (q : Int) + 8 := IntWalk.i64_in _ (by omega)
            have k3 : (0 : Int) ≤ (q : Int) + 4 := by omega
            have k4 : (q : Int) + 4 ≤ (q : Int) + 8 := by omega
            have k5 : (q : Int) + 8 ≤ (c : Int) := by omega
            have k6 : ((q : Int) + 4).toNat = q + 4 := by omega
            have k7 : ((q : Int) + 8).toNat = q + 8 := by omega
            have k8 : ¬ c = q + 4 := by omega
            have k9 : q + 8 - (q + 4) = 4 := by omega
            go_quiet (first | (go_at_call 60; (with_reducible refine quiet_eq (rsum_any _ _ _ _ _ (hb.drewN _)))) | (go_at_call 69; (with_reducible refine quiet_add (rnumber_any _ _ _ _ (hs4.drewN _)))))
            clear k1 k2 k6 k7 k9
            rw [HS.out]
            by_cases hS2 : Crc.crc body = S
            · have e2 : (((Crc.crc body : Nat) : Int) != (S : Int)) = false := by simp [hS2]
              have HS2 := Lib.hid hS2
              clear hS2
              go_wp2_with fail
              refine (rcopy_any _ N _ _ _ (hb.drewN nq) (by omega)).mono ?_
              rintro e w2 ⟨v2, rfl, hown2, hb2⟩
              have hB : Below w.heap.size w w2 := hB1.trans (((below_drewN' (Below.refl _ W1) nq).trans (b := W1.drewN nq) hb2).mono hB1.size)
              go_wp2_with fail
              go_ret3
              exact Hf.out _ _ (own_mono hown2 hB1.size) hB HS2.out
            · have e2 : (((Crc.crc body : Nat) : Int) != (S : Int)) = true := by rw [bne_iff_ne]; omega
              go_wp2_with fail
              go_ret3
              exact Hf2.out _ (below_drewN' hB1 _) hS2
          · subst h8c
            simp only [if_true, Nat.sub_self] at hb
            rw [show q + 8 - (q + 4) = 4 from by omega] at hs4
            go_wp2_with fail
            rw [show q + 8 + N - (q + 8) = N from by omega]
            have k1 : IntKind.i64.wrap ((q : Int) + 4) = (q : Int) + 4 := IntWalk.i64_in _ (by omega)
            have k2 : IntKind.i64.wrap ((q : Int) + 8) = (q : Int) + 8 := IntWalk.i64_in _ (by omega)
            have k3 : (0 : Int) ≤ (q : Int) + 4 := by omega
            have k4 : (q : Int) + 4 ≤ (q : Int) + 8 := by omega
            have k5 : (q : Int) + 8 ≤ ((q + 8 : Nat) : Int) := by omega
            have k6 : ((q : Int) + 4).toNat = q + 4 := by omega
            have k7 : ((q : Int) + 8).toNat = q + 8 := by omega
            have k8 : ¬ q + 8 = q + 4 := by omega
            have k9 : q + 8 - (q + 4) = 4 := by omega
            go_quiet (first | (go_at_call 60; (with_reducible refine quiet_eq (rsum_any _ _ _ _ _ (hb.drewN _)))) | (go_at_call 69; (with_reducible refine quiet_add (rnumber_any _ _ _ _ (hs4.drewN _)))))
            clear k1 k2 k6 k7 k9
            rw [HS.out]
            by_cases hS2 : Crc.crc body = S
            · have e2 : (((Crc.crc body : Nat) : Int) != (S : Int)) = false := by simp [hS2]
              have HS2 := Lib.hid hS2
              clear hS2
              go_wp2_with fail
              refine (rcopy_any _ N _ _ _ (hb.drewN nq) (by omega)).mono ?_
              rintro e w2 ⟨v2, rfl, hown2, hb2⟩
              have hB : Below w.heap.size w w2 := hB1.trans (((below_drewN' (Below.refl _ W1) nq).trans (b := W1.drewN nq) hb2).mono hB1.size)
              go_wp2_with fail
              go_ret3
              exact Hf.out _ _ (own_mono hown2 hB1.size) hB HS2.out
            · have e2 : (((Crc.crc body : Nat) : Int) != (S : Int)) = true := by rw [bne_iff_ne]; omega
              go_wp2_with fail
              go_ret3
              exact Hf2.out _ (below_drewN' hB1 _) hS2
end Go.Proofs.Ytfacdoemgalodaa
