/-
  The walks of the journal's from, versions, Read, Check, and of the reference's.
-/
import Derived.Test.YtfacdoemgalodaaReadW2
import Derived.Test.YtfacdoemgalodaaOwnV
import Derived.Test.YtfacdoemgalodaaPlanG
namespace Go.Proofs.Ytfacdoemgalodaa
open Go.RowKit
set_option linter.unusedVariables false
set_option linter.unusedSimpArgs false

theorem ScanPost.own {sc : List (List UInt8 × Nat)} {w : World} {e : Ending} {w' : World} (h : ScanPost sc w e w') :
    ∃ v, e = .returned (.tuple #[v, .int .i64 (((sc.getLast?.map (·.2)).getD 0 : Nat) : Int)]) ∧ ScanOwn w' w.heap.size v (sc.map (·.1)) ∧ Below w.heap.size w w' := by
  obtain ⟨v, vs, h1, h2, h3, h4⟩ := h
  refine ⟨v, h1, ⟨vs, by rw [List.length_map]; exact h2, fun i b hi => ?_⟩, h4⟩
  rw [List.getElem?_map] at hi
  obtain ⟨⟨b', q⟩, hb, rfl⟩ := Option.map_eq_some_iff.1 hi
  exact h3 i b' q hb

theorem jfrom_any (n : Int) (w : World) : Calls Try.prog 31 #[.int .i64 n] w fun e w' => e = .returned (.func (.func 49) #[] #[.pointer (some ⟨w.heap.size, 0, none⟩)]) ∧ w' = w.alloc (.cells #[.int .i64 n] 3) := by
  go_enter Try.func31, Try.ntmps31
  go_wp2
  go_ret
  exact ⟨rfl, rfl⟩
theorem jfrom1_any (bN k : Nat) (w : World) (b : w.heap[bN]? = some (.cells #[.int .i64 (k : Int)] 3)) (hk : k ≤ 1073741824) :
    Calls Try.prog 49 #[.pointer (some ⟨bN, 0, none⟩)] w fun e w' => e = .returned (.int .i64 (k : Int)) ∧ w'.heap[bN]? = some (.cells #[.int .i64 ((k + 1 : Nat) : Int)] 3) ∧ w.grownBy w' (some bN) := by
  have c0 := blk_cell (j := 0) b
  simp only [List.getElem?_toArray, List.getElem?_cons_zero] at c0
  have f0 := blk_frozen 0 b
  have b2 := blk_set (k := 0) (.int .i64 ((k : Int) + 1)) b
  simp only [List.setIfInBounds_toArray, List.set_cons_zero] at b2
  have c2 := blk_cell (j := 0) b2
  simp only [List.getElem?_toArray, List.getElem?_cons_zero] at c2
  go_enter Try.func49, Try.ntmps49
  go_wp2
  go_ret
  exact ⟨ret_int (by omega), b2, grown_set (World.grownBy.refl _ _)⟩
theorem elV : ElK Try.prog 4 27 42 (.agg #[.int .i64 0, .slice none 0 0, .int .i64 0, .bool false]) 48 := ⟨Try.underlying27, by kernel_rfl, rfl, by omega⟩
/-- What versions answers: the list or ErrTorn; the counter stands behind the last. -/
def VersPost (r : Option (List Ver)) (bN k : Nat) (w : World) (e : Ending) (w' : World) : Prop :=
  w.grownBy w' (some bN) ∧ ((r = none ∧ e = .returned (.tuple #[.slice none 0 0, .int .i64 340]) ∧ ∃ q : Int, w'.heap[bN]? = some (.cells #[.int .i64 q] 3)) ∨
    ∃ vs v, r = some vs ∧ e = .returned (.tuple #[v, .int .i64 0]) ∧ OwnV w' w.heap.size v vs ∧ w'.heap[bN]? = some (.cells #[.int .i64 ((k + vs.length : Nat) : Int)] 3))

theorem Jn.versL_drop {ls : List (List UInt8)} {i k : Nat} (hi : i < ls.length) : Jn.versL (ls.drop i) k = match Jn.readV ls[i] with | none => none | some v => if v.no = (k : Int) then (Jn.versL (ls.drop (i + 1)) (k + 1)).map (v :: ·) else none := by
  rw [List.drop_eq_getElem_cons hi]; rfl

set_option maxRecDepth 100000 in
set_option maxHeartbeats 4000000 in
theorem jvers_any (bN k : Nat) (A : Option Addr) (m c : Nat) (l : List UInt8) (w : World) (h : RdB w w.heap.size A m c l) (b : w.heap[bN]? = some (.cells #[.int .i64 (k : Int)] 3)) (hm : m ≤ 1048576) (hk : k ≤ 1048577) :
    Calls Try.prog 32 #[.slice A m c, .func (.func 49) #[] #[.pointer (some ⟨bN, 0, none⟩)]] w (VersPost (Jn.versB l k) bN k w) := by
  have h1 := h.max
  have h2 := h.le
  have hlen := Lib.hid h.len
  have hsl := Jn.scanL_len l
  rw [hlen.out] at hsl
  have hbN := blk_lt b
  obtain ⟨ls, hls⟩ : ∃ ls, ls = (Jn.scanL l).map (·.1) := ⟨_, rfl⟩
  have hln : ls.length = (Jn.scanL l).length := by rw [hls, List.length_map]
  have HB : Hid (∀ x ∈ ls, x.length ≤ 65536) := by show ∀ x ∈ ls, _; rw [hls]; exact (scan_is_frames l (Jn.scanL l) 0 (Nat.zero_le _) (Jn.scanL_ok l)).2.1
  obtain ⟨G, hG⟩ : ∃ G, G = Jn.goodN l := ⟨_, rfl⟩
  obtain ⟨R, hR⟩ : ∃ R, R = Jn.versB l k := ⟨_, rfl⟩
  rw [← hR]
  have HV : Hid (R = if G = m then Jn.versL ls k else none) := by show _ = _; rw [hR]; unfold Jn.versB; rw [hG, hls, hlen.out]
  clear hR
  have HG : Hid ((((Jn.scanL l).getLast?.map (·.2)).getD 0) = G) := by show _ = _; rw [hG]; rfl
  go_enter Try.func32, Try.ntmps32
  go_wp2_with fail
  refine (scan_any A m c l (Jn.scanL l) w h (by omega) (Jn.scanL_ok l) (by omega)).mono ?_
  intro e w2 hpost
  obtain ⟨v, rfl, hs, hb⟩ := hpost.own
  rw [HG.out]
  rw [← hls] at hs
  clear hpost hls hG
  replace b := blk_below b hb
  have hgw : w.grownBy w2 (some bN) := grown_of_below hb
  obtain ⟨Ab, cb, rfl, hrb⟩ := hs.rd
  have hm1 := hrb.max
  have hm2 := hrb.le
  clear hrb
  have hw2 := hb.size
  by_cases hgm : G = m
  · have d1 : ((G : Int) != (m : Int)) = false := by simp; omega
    rw [if_pos hgm] at HV
    clear HG
    obtain ⟨n, hn⟩ : ∃ n, n = ls.length := ⟨_, rfl⟩
    rw [← hn] at hs hm2 hln ⊢
    have hnm : n ≤ m := by omega
    have HN := Lib.hid hn
    clear hn hln
    go_wp2_with fail
    go_loopw [4, 23] (fun lv iv wr => ∃ (i : Nat) (vs : List Ver), i ≤ n ∧ iv = .int .i64 i ∧ vs.length = i ∧ Jn.versL ls k = (Jn.versL (ls.drop i) (k + i)).map (vs ++ ·) ∧ OwnV wr w.heap.size lv vs ∧
      wr.heap[bN]? = some (.cells #[.int .i64 ((k + i : Nat) : Int)] 3) ∧ ScanOwn wr w.heap.size (.slice Ab n cb) ls ∧ w.grownBy wr (some bN)) (fun _ i _ => n - (intOf i).toNat)
    case atStart => exact ⟨0, [], by omega, rfl, rfl, by simp, OwnV.nil _ _, by simpa using b, hs, hgw⟩
    case round =>
      clear b hs hgw
      obtain ⟨i, vs, hi, rfl, hvl, hR, hov, b, hs, hgw⟩ := hrel
      have HR := Lib.hid hR
      have HL := Lib.hid hvl
      clear hR hvl
      by_cases hin : i < n
      · have d2 : decide ((i : Int) < (n : Int)) = true := by simp; omega
        have hil : i < ls.length := by rw [← HN.out]; exact hin
        obtain ⟨Ab', cb', e', hrb⟩ := hs.rd
        injection e' with e1 e2 e3
        subst e1 e3
        clear e2
        obtain ⟨ad, A1, c1, rfl, _, hc1, hr1⟩ := hrb.at_ hil hil
        clear hrb
        have HD := Lib.hid (Jn.versL_drop (k := k + i) hil)
        have hbig : ls[i].length ≤ 1073741824 := by have := HB.out ls[i] (List.getElem_mem hil); omega
        obtain ⟨x, hx⟩ : ∃ x, ls[i] = x := ⟨_, rfl⟩
        rw [hx] at hc1 hr1 HD hbig
        clear hx
        obtain ⟨xl, hxl⟩ : ∃ xl, x.length = xl := ⟨_, rfl⟩
        rw [hxl] at hc1 hr1 hbig
        clear hxl
        go_wp2_with fail
        refine (jread_any A1 xl c1 x wr hr1 hbig).mono ?_
        rintro e w4 ⟨no, v, cost, bst, ps, rfl, ho, hokp, hok1, hok2, hsome, hb⟩
        obtain ⟨Av, cv, rfl, _⟩ := own_rdK ho
        replace hs := hs.below hb
        replace hov := hov.below hb
        replace b := blk_below b hb
        replace ho := own_mono ho hgw.size
        replace hgw := grown_trans hgw (grown_of_below hb)
        have hz4 : bN < w4.heap.size := Nat.lt_of_lt_of_le hbN hgw.size
        clear hb hc1 hr1
        obtain ⟨V5, hV⟩ : ∃ V5, V5 = w4.alloc (.cells #[.int .i64 no, .slice Av ps.length cv, .int .i64 cost, .bool bst] 42) := ⟨_, rfl⟩
        have b5 := blk_new hV
        have hb := below_new hV
        replace hs := hs.below hb
        replace hov := hov.below hb
        replace b := blk_below b hb
        replace ho := own_below ho hb
        replace hgw := grown_trans hgw (grown_of_below hb)
        clear hb
        have HVV := Lib.hid hV.symm
        clear hV
        have HS := Lib.hid hsome
        clear hsome
        have hbr := blk_lt b5
        cases hrv : Jn.readV x with
        | none =>
          rw [hrv] at HD HS
          dsimp only at HD
          rw [HD.out, Option.map_none, ← HV.out] at HR
          simp only [Option.isSome_none]
          go_wp2_with fail
          rw [HVV.out]
          clear HVV
          refine wp_region_planG (some bN) [([0, 1, 2, 3, 4, 5], some 6), ([7, 8], none)] (by kernel_rfl) (by kernel_rfl) ?_
          intro wd hsz hb
          clear hsz
          replace hs := hs.below hb
          replace hov := hov.below hb
          replace b := blk_below b hb
          replace b5 := blk_below b5 hb
          replace ho := own_below ho hb
          replace hgw := grown_trans hgw (grown_of_below hb)
          clear hb
          simp only [pickP, pick, List.map_cons, List.map_nil, Option.map_some, Option.map_none, List.getD_cons_zero, List.getD_cons_succ]
          refine plang_cons ?_
          (repeat (go_big_quiet_step (fail)))
          refine plang_nil ?_
          refine plang_pass (by kernel_rfl) ?_
          simp only [Act.put, List.setIfInBounds_toArray, List.set_cons_zero, List.set_cons_succ]
          refine plang_cons ?_
          (repeat (go_big_quiet_step (fail)))
          refine plang_nil ?_
          refine plang_end ?_
          go_wp2_with fail
          go_ret2
          exact ⟨hgw, .inl ⟨HR.out, rfl, _, b⟩⟩
        | some u =>
          rw [hrv] at HD HS
          obtain rfl := HS.out u rfl
          dsimp only at HD
          clear HS hrv
          simp only [Option.isSome_some]
          go_wp2_with fail
          rw [HVV.out]
          clear HVV
          refine wp_region_planG (some bN) [([0, 1, 2, 3, 4, 5], some 6), ([7, 8], none)] (by kernel_rfl) (by kernel_rfl) ?_
          intro wd hsz hb
          clear hsz
          replace hs := hs.below hb
          replace hov := hov.below hb
          replace b := blk_below b hb
          replace b5 := blk_below b5 hb
          replace ho := own_below ho hb
          replace hgw := grown_trans hgw (grown_of_below hb)
          clear hb
          simp only [pickP, pick, List.map_cons, List.map_nil, Option.map_some, Option.map_none, List.getD_cons_zero, List.getD_cons_succ]
          have cb : ∀ x : ExtG (some bN) wd, x.val.cell? ⟨w4.heap.size, 0, none⟩ = some (.int .i64 no) := fun x => blk_cell (blk_grown b5 x.ok (by simp; omega))
          refine plang_cons ?_
          (repeat (go_big_quiet_step (fail)))
          refine plang_nil ?_
          clear cb
          refine plang_call (by kernel_rfl) (fun K hK => ?_)
          go_simp
          refine (jfrom1_any bN (k + i) wd b (by omega)).mono ?_
          rintro e w6 ⟨rfl, b6, hg⟩
          refine hK.out _ _ hg ?_
          clear hK K
          (try simp only [Act.put, List.setIfInBounds_toArray, List.set_cons_zero, List.set_cons_succ])
          have hrt := RowT.blk b
          replace hs := hs.kept hg hrt (by decide) (by decide)
          replace hov := hov.kept hg hrt (by decide) (by decide)
          replace b5 := blk_kept b5 hg hrt (by decide)
          replace ho := own_kept ho hg hrt (by decide)
          replace hgw := grown_trans hgw hg
          clear hrt b hg
          have cb : ∀ x : ExtG (some bN) w6, x.val.cell? ⟨w4.heap.size, 0, none⟩ = some (.int .i64 no) := fun x => blk_cell (blk_grown b5 x.ok (by simp; omega))
          by_cases hno : no = ((k + i : Nat) : Int)
          · have d3 : (no != (k : Int) + (i : Int)) = false := by simp; omega
            rw [if_pos hno] at HD
            clear hno
            refine plang_cons ?_
            (repeat (go_big_quiet_step (fail)))
            refine plang_nil ?_
            refine plang_end ?_
            clear cb d3
            have c0 := blk_cell (j := 0) b5
            have c1 := blk_cell (j := 1) b5
            have c2 := blk_cell (j := 2) b5
            have c3 := blk_cell (j := 3) b5
            simp only [List.getElem?_toArray, List.getElem?_cons_zero, List.getElem?_cons_succ] at c0 c1 c2 c3
            obtain ⟨Al, cl, rfl, _⟩ := hov.rd
            have hb := below_new (rfl : w6.alloc (.cells #[.int .i64 no, .slice Av ps.length cv, .int .i64 cost, .bool bst] 42) = _)
            have hrk := RdK.new 4 w6 #[.int .i64 no, .slice Av ps.length cv, .int .i64 cost, .bool bst] 42 (0, 0) 1 rfl (by omega)
            replace hov := hov.below hb
            replace ho := own_below ho hb
            replace hs := hs.below hb
            replace b6 := blk_below b6 hb
            replace hgw := grown_trans hgw (grown_of_below hb)
            have hw7 := hgw.size
            clear hb
            have how := hov.own
            have hvn : vs.length ≤ 1048576 := by rw [HL.out]; omega
            go_wp2_with (at_builtin; refine wpList_appK _ _ elV how hrk (by intro u hu; simp at hu; rcases hu with rfl | rfl | rfl | rfl <;> rfl) (by omega) (by omega) hw7 rfl rfl rfl rfl ?_; intro v2 w8 ho8 hg8 hat8)
            have hrt := RowT.own how
            have hov8 := hov.step (u := ⟨no, ps, cost, bst⟩) hg8 ho8 ho hokp hok1 hok2
            replace hs := hs.kept hg8 hrt (by decide) (by decide)
            replace b6 := blk_kept b6 hg8 hrt (by decide)
            go_roundw
            case rel =>
              refine ⟨i + 1, vs ++ [⟨no, ps, cost, bst⟩], by omega, by go_num, by rw [List.length_append, HL.out]; rfl, ?_, hov8, b6, hs, ?_⟩
              · rw [HR.out, HD.out, Option.map_map]
                show _ = Option.map _ (Jn.versL _ (k + i + 1))
                congr 1
                funext t
                simp
              · exact grown_then hgw hg8 (own_lt how)
            case measure => simp [intOf]; omega
          · have d3 : (no != (k : Int) + (i : Int)) = true := by simp; omega
            rw [if_neg hno] at HD
            rw [HD.out, Option.map_none, ← HV.out] at HR
            refine plang_cons ?_
            (repeat (go_big_quiet_step (fail)))
            refine plang_nil ?_
            refine plang_end ?_
            go_wp2_with fail
            go_ret2
            exact ⟨hgw, .inl ⟨HR.out, rfl, _, b6⟩⟩
      · obtain rfl : i = n := by omega
        have d2 : decide ((i : Int) < (i : Int)) = false := by simp
        obtain ⟨Av, cv, rfl, _⟩ := hov.rd
        go_wp2_with fail
        go_ret2
        refine ⟨hgw, .inr ⟨vs, _, ?_, rfl, hov, ?_⟩⟩
        · rw [HV.out, HR.out, List.drop_of_length_le (by rw [← HN.out]; omega)]
          simp [Jn.versL]
        · rw [HL.out]; exact b
  · have d1 : ((G : Int) != (m : Int)) = true := by simp; omega
    rw [if_neg hgm] at HV
    go_wp2_with fail
    go_ret2
    exact ⟨hgw, .inl ⟨HV.out, rfl, _, b⟩⟩
end Go.Proofs.Ytfacdoemgalodaa
