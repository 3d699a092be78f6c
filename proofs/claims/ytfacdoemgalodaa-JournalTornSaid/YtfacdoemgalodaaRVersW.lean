/-
  The walk of the reference's versions.
-/
import Derived.Test.YtfacdoemgalodaaVersW
namespace Go.Proofs.Ytfacdoemgalodaa
open Go.RowKit
set_option linter.unusedVariables false
set_option linter.unusedSimpArgs false

/-- What the reference's versions answers. -/
def RVersPost (r : Option (List Ver)) (w : World) (e : Ending) (w' : World) : Prop :=
  ∃ v us, e = .returned (.tuple #[v, .bool r.isSome]) ∧ OwnV w' w.heap.size v us ∧ (∀ vs, r = some vs → us = vs) ∧ Below w.heap.size w w'

set_option maxRecDepth 100000 in
set_option maxHeartbeats 4000000 in
theorem rvers_any (k : Nat) (A : Option Addr) (m c : Nat) (l : List UInt8) (w : World) (h : RdB w w.heap.size A m c l) (hm : m ≤ 1048576) (hk : k ≤ 1048577) :
    Calls Try.prog 33 #[.slice A m c, .int .i64 k] w (RVersPost (Jn.versB l k) w) := by
  have h1 := h.max
  have h2 := h.le
  have hlen := Lib.hid h.len
  have hsl := Jn.scanL_len l
  rw [hlen.out] at hsl
  obtain ⟨ls, hls⟩ : ∃ ls, ls = (Jn.scanL l).map (·.1) := ⟨_, rfl⟩
  have hln : ls.length = (Jn.scanL l).length := by rw [hls, List.length_map]
  have HB : Hid (∀ x ∈ ls, x.length ≤ 65536) := by show ∀ x ∈ ls, _; rw [hls]; exact (scan_is_frames l (Jn.scanL l) 0 (Nat.zero_le _) (Jn.scanL_ok l)).2.1
  obtain ⟨G, hG⟩ : ∃ G, G = Jn.goodN l := ⟨_, rfl⟩
  obtain ⟨R, hR⟩ : ∃ R, R = Jn.versB l k := ⟨_, rfl⟩
  rw [← hR]
  have HV : Hid (R = if G = m then Jn.versL ls k else none) := by show _ = _; rw [hR]; unfold Jn.versB; rw [hG, hls, hlen.out]
  clear hR
  have HG : Hid ((((Jn.scanL l).getLast?.map (·.2)).getD 0) = G) := by show _ = _; rw [hG]; rfl
  go_enter Try.func33, Try.ntmps33
  go_wp2_with fail
  refine (rscan_any A m c l (Jn.scanL l) w h (by omega) (Jn.scanL_ok l) (by omega)).mono ?_
  intro e w2 hpost
  obtain ⟨v, rfl, hs, hb⟩ := hpost.own
  rw [HG.out]
  rw [← hls] at hs
  clear hpost hls hG
  have hbt := hb
  obtain ⟨Ab, cb, rfl, hrb⟩ := hs.rd
  have hm1 := hrb.max
  have hm2 := hrb.le
  clear hrb hb
  obtain ⟨n, hn⟩ : ∃ n, n = ls.length := ⟨_, rfl⟩
  rw [← hn] at hs hm2 hln ⊢
  have hnm : n ≤ m := by omega
  have HN := Lib.hid hn
  clear hn hln
  go_wp2_with fail
  go_loopw [8, 20] (fun lv iv wr => ∃ (i : Nat) (vs : List Ver), i ≤ n ∧ iv = .int .i64 i ∧ vs.length = i ∧ Jn.versL ls k = (Jn.versL (ls.drop i) (k + i)).map (vs ++ ·) ∧ OwnV wr w.heap.size lv vs ∧
    ScanOwn wr w.heap.size (.slice Ab n cb) ls ∧ Below w.heap.size w wr) (fun _ i _ => n - (intOf i).toNat)
  case atStart => exact ⟨0, [], by omega, rfl, rfl, by simp, OwnV.nil _ _, hs, hbt⟩
  case round =>
    clear hs hbt
    obtain ⟨i, vs, hi, rfl, hvl, hR, hov, hs, hbt⟩ := hrel
    have HR := Lib.hid hR
    have HL := Lib.hid hvl
    clear hR hvl
    by_cases hin : i < n
    · have d2 : decide ((i : Int) < (n : Int)) = true := by simp; omega
      have hil : i < ls.length := by rw [← HN.out]; exact hin
      obtain ⟨Ab', cb', e', hrb⟩ := hs.rd
      injection e' with e1 e2 e3
      subst e1 e3
      clear e2
      obtain ⟨ad, A1, c1, rfl, _, hc1, hr1⟩ := hrb.at_ hil hil
      clear hrb
      have HD := Lib.hid (Jn.versL_drop (k := k + i) hil)
      have hbig : ls[i].length ≤ 1073741824 := by have := HB.out ls[i] (List.getElem_mem hil); omega
      obtain ⟨x, hx⟩ : ∃ x, ls[i] = x := ⟨_, rfl⟩
      rw [hx] at hc1 hr1 HD hbig
      clear hx
      obtain ⟨xl, hxl⟩ : ∃ xl, x.length = xl := ⟨_, rfl⟩
      rw [hxl] at hc1 hr1 hbig
      clear hxl
      go_wp2_with fail
      refine (rread_any A1 xl c1 x wr hr1 hbig).mono ?_
      rintro e w4 ⟨no, v, cost, bst, ps, rfl, ho, hokp, hok1, hok2, hsome, hb⟩
      obtain ⟨Av, cv, rfl, _⟩ := own_rdK ho
      replace hs := hs.below hb
      replace hov := hov.below hb
      replace ho := own_mono ho hbt.size
      replace hbt := hbt.trans (hb.mono hbt.size)
      clear hb hc1 hr1
      obtain ⟨V5, hV⟩ : ∃ V5, V5 = w4.alloc (.cells #[.int .i64 no, .slice Av ps.length cv, .int .i64 cost, .bool bst] 42) := ⟨_, rfl⟩
      have b5 := blk_new hV
      have hb := below_new hV
      replace hs := hs.below hb
      replace hov := hov.below hb
      replace ho := own_below ho hb
      replace hbt := hbt.trans (hb.mono hbt.size)
      clear hb
      have HVV := Lib.hid hV.symm
      clear hV
      have HS := Lib.hid hsome
      clear hsome
      have c0 := blk_cell (j := 0) b5
      have c1 := blk_cell (j := 1) b5
      have c2 := blk_cell (j := 2) b5
      have c3 := blk_cell (j := 3) b5
      simp only [List.getElem?_toArray, List.getElem?_cons_zero, List.getElem?_cons_succ] at c0 c1 c2 c3
      cases hrv : Jn.readV x with
      | none =>
        rw [hrv] at HD HS
        dsimp only at HD
        rw [HD.out, Option.map_none] at HR
        have HZ : Hid (R = none) := by show R = none; rw [HV.out, HR.out]; split <;> rfl
        simp only [Option.isSome_none]
        go_wp2_with fail
        rw [HVV.out]
        go_ret2
        exact ⟨_, [], by rw [HZ.out]; rfl, OwnV.nil _ _, fun vs hv => (by rw [HZ.out] at hv; cases hv), hbt⟩
      | some u =>
        rw [hrv] at HD HS
        obtain rfl := HS.out u rfl
        dsimp only at HD
        clear HS hrv
        simp only [Option.isSome_some]
        by_cases hno : no = ((k + i : Nat) : Int)
        · have d3 : (no != (k : Int) + (i : Int)) = false := by simp; omega
          rw [if_pos hno] at HD
          clear hno
          have eV := HVV.out
          clear HVV
          subst eV
          obtain ⟨Al, cl, rfl, _⟩ := hov.rd
          have hb := below_new (rfl : (w4.alloc (.cells #[.int .i64 no, .slice Av ps.length cv, .int .i64 cost, .bool bst] 42)).alloc (.cells #[.int .i64 no, .slice Av ps.length cv, .int .i64 cost, .bool bst] 42) = _)
          have hrk := RdK.new 4 (w4.alloc (.cells #[.int .i64 no, .slice Av ps.length cv, .int .i64 cost, .bool bst] 42)) #[.int .i64 no, .slice Av ps.length cv, .int .i64 cost, .bool bst] 42 (0, 0) 1 rfl (by omega)
          replace hov := hov.below hb
          replace ho := own_below ho hb
          replace hs := hs.below hb
          replace hbt := hbt.trans (hb.mono hbt.size)
          have hw7 := hbt.size
          clear hb
          rw [World.size_alloc] at hrk
          have how := hov.own
          have hvn : vs.length ≤ 1048576 := by rw [HL.out]; omega
          go_wp2_with (at_builtin; refine wpList_appK _ _ elV how hrk (by intro u hu; simp at hu; rcases hu with rfl | rfl | rfl | rfl <;> rfl) (by omega) (by omega) hw7 rfl rfl rfl rfl ?_; intro v2 w8 ho8 hg8 hat8)
          have hrt := RowT.own how
          have hov8 := hov.step (u := ⟨no, ps, cost, bst⟩) hg8 ho8 ho hokp hok1 hok2
          replace hs := hs.kept hg8 hrt (by decide) (by decide)
          replace hbt := hbt.grown hg8 hbt.size (own_lt how)
          go_roundw
          case rel =>
            refine ⟨i + 1, vs ++ [⟨no, ps, cost, bst⟩], by omega, by go_num, by rw [List.length_append, HL.out]; rfl, ?_, hov8, hs, hbt⟩
            rw [HR.out, HD.out, Option.map_map]
            show _ = Option.map _ (Jn.versL _ (k + i + 1))
            congr 1
            funext t
            simp
          case measure => simp [intOf]; omega
        · have d3 : (no != (k : Int) + (i : Int)) = true := by simp; omega
          rw [if_neg hno] at HD
          rw [HD.out, Option.map_none] at HR
          have HZ : Hid (R = none) := by show R = none; rw [HV.out, HR.out]; split <;> rfl
          rw [← HVV.out] at c0 c1 c2 c3
          go_wp2_with fail
          rw [HVV.out]
          go_ret2
          exact ⟨_, [], by rw [HZ.out]; rfl, OwnV.nil _ _, fun vs hv => (by rw [HZ.out] at hv; cases hv), hbt⟩
    · obtain rfl : i = n := by omega
      have d2 : decide ((i : Int) < (i : Int)) = false := by simp
      obtain ⟨Av, cv, rfl, _⟩ := hov.rd
      have HZ : Hid (Jn.versL ls k = some vs) := by
        show _ = _
        rw [HR.out, List.drop_of_length_le (by rw [← HN.out]; omega)]
        simp [Jn.versL]
      go_wp2_with fail
      go_ret2
      refine ⟨_, vs, ?_, hov, fun us hu => ?_, hbt⟩
      · rw [HV.out, HZ.out]
        by_cases hg : G = m
        · subst hg; simp
        · rw [if_neg hg]; simp; omega
      · rw [HV.out, HZ.out] at hu
        split at hu
        · injection hu
        · cases hu
end Go.Proofs.Ytfacdoemgalodaa
