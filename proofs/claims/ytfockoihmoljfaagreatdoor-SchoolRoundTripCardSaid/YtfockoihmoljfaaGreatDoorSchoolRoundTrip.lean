/-
  SchoolRoundTrip, walked.
-/
import Derived.Test.YtfockoihmoljfaaGreatDoorLive3
import Derived.Test.YtfockoihmoljfaaGreatDoorFewW3
import Derived.Laws.Bits128
import Derived.Laws.OwnMore
namespace Go.Proofs.YtfockoihmoljfaaGreatDoor
open Go.RowKit Go.Shelf
set_option linter.unusedVariables false
set_option linter.unusedSimpArgs false

theorem i64_and65535 (n : Int) : bits .and .i64 n 65535 = n % 65536 := by
  have h1 : (BitVec.ofInt 64 65535).toNat = 2 ^ 16 - 1 := by decide
  have key : (BitVec.ofInt 64 n &&& BitVec.ofInt 64 65535).toNat = (n % ((2 ^ 64 : Nat) : Int)).toNat % 2 ^ 16 := by
    rw [BitVec.toNat_and, BitVec.toNat_ofInt, h1, Nat.and_two_pow_sub_one_eq_mod]
  show IntKind.i64.wrap ((BitVec.ofInt 64 n &&& BitVec.ofInt 64 65535).toNat : Nat) = n % 65536
  rw [key, IntKind.wrap_i64]
  omega

set_option maxRecDepth 100000 in
set_option maxHeartbeats 8000000 in
theorem schoolRoundTrip_any (f : Sc.Five) (s : Sc.Sch) (u : UInt8) (x : Int) (mx : Int) (w : World) (hS : Sc.RdSch w w.heap.size f s) (hF : f.nS ≤ 5864062014805 ∧ f.nR ≤ 5864062014805 ∧ f.nP ≤ 5864062014805 ∧ f.nG ≤ 5864062014805 ∧ f.nL ≤ 5864062014805) (hx : okI x) (hm : w.cell? ⟨0, 0, none⟩ = some (.int .i64 mx)) :
    Calls Tryz.prog 5 #[.agg f.vals, .int .u8 (u.toNat : Int), .int .i64 x] w fun e w' => e = .returned (.bool true) ∧ Below w.heap.size w w' := by
  have hbt := Below.refl w.heap.size w
  have HF := Lib.hid hF
  clear hF
  have HLN := Lib.hid hS.lens
  have mS : f.nS ≤ f.cS ∧ f.cS ≤ 9223372036854775807 := ⟨hS.slots.le, hS.slots.max⟩
  have mR : f.nR ≤ f.cR ∧ f.cR ≤ 9223372036854775807 := ⟨hS.rooms.le, hS.rooms.max⟩
  have mP : f.nP ≤ f.cP ∧ f.cP ≤ 9223372036854775807 := ⟨hS.people.le, hS.people.max⟩
  have mG : f.nG ≤ f.cG ∧ f.cG ≤ 9223372036854775807 := ⟨hS.groups.le, hS.groups.max⟩
  have mL : f.nL ≤ f.cL ∧ f.cL ≤ 9223372036854775807 := ⟨hS.lessons.le, hS.lessons.max⟩
  obtain ⟨V1, hV⟩ : ∃ V1, V1 = w.alloc (.cells #[.slice f.aS f.nS f.cS, .slice f.aR f.nR f.cR, .slice f.aP f.nP f.cP, .slice f.aG f.nG f.cG, .slice f.aL f.nL f.cL] 28) := ⟨_, rfl⟩
  have b0 := blk_new hV
  have hb := below_new hV
  replace hS := (hS.below hb).more hb.size
  replace hm := (hb.cell (World.block_lt_of_cell? _ _ hm)).trans hm
  replace hbt := hbt.trans (hb.mono hbt.size)
  clear hb
  have HSV1 : Hid (V1.heap.size = w.heap.size + 1) := by show V1.heap.size = _; rw [hV, World.size_alloc]
  have HVV1 := Lib.hid hV.symm
  clear hV
  clear HSV1
  unfold Sc.Five.vals
  go_enter Tryz.func5, Tryz.ntmps5
  go_wp2_with fail
  rw [HVV1.out]
  clear HVV1
  refine (live3_any mx V1 hm).mono ?_
  rintro e w1 ⟨rfl, hb⟩
  replace hS := (hS.below hb).more hb.size
  replace hm := (hb.cell (World.block_lt_of_cell? _ _ hm)).trans hm
  replace b0 := blk_below b0 hb
  replace hbt := hbt.trans (hb.mono hbt.size)
  clear hb
  have c0 := blk_cell (j := 0) b0
  simp only [List.getElem?_toArray, List.getElem?_cons_zero, List.getElem?_cons_succ] at c0
  have c1 := blk_cell (j := 1) b0
  simp only [List.getElem?_toArray, List.getElem?_cons_zero, List.getElem?_cons_succ] at c1
  have c2 := blk_cell (j := 2) b0
  simp only [List.getElem?_toArray, List.getElem?_cons_zero, List.getElem?_cons_succ] at c2
  have c3 := blk_cell (j := 3) b0
  simp only [List.getElem?_toArray, List.getElem?_cons_zero, List.getElem?_cons_succ] at c3
  have c4 := blk_cell (j := 4) b0
  simp only [List.getElem?_toArray, List.getElem?_cons_zero, List.getElem?_cons_succ] at c4
  go_wp2_with fail
  clear c0 c1 c2 c3 c4
  refine (rFew3_any f s w1 hS HF.out).mono ?_
  rintro e w2 ⟨bo, rfl, hbo, hb⟩
  have HB := Lib.hid hbo
  clear hbo
  replace hS := (hS.below hb).more hb.size
  replace hm := (hb.cell (World.block_lt_of_cell? _ _ hm)).trans hm
  replace b0 := blk_below b0 hb
  replace hbt := hbt.trans (hb.mono hbt.size)
  clear hb
  cases bo with
  | false =>
    go_wp2_with fail
    go_ret
    exact ⟨rfl, hbt⟩
  | true =>
    have hz := HB.out rfl
    have HZ := Lib.hid hz
    clear hz HB
    unfold okI at hx
    have c0 := blk_cell (j := 0) b0
    simp only [List.getElem?_toArray, List.getElem?_cons_zero, List.getElem?_cons_succ] at c0
    have c1 := blk_cell (j := 1) b0
    simp only [List.getElem?_toArray, List.getElem?_cons_zero, List.getElem?_cons_succ] at c1
    have c2 := blk_cell (j := 2) b0
    simp only [List.getElem?_toArray, List.getElem?_cons_zero, List.getElem?_cons_succ] at c2
    have c3 := blk_cell (j := 3) b0
    simp only [List.getElem?_toArray, List.getElem?_cons_zero, List.getElem?_cons_succ] at c3
    have c4 := blk_cell (j := 4) b0
    simp only [List.getElem?_toArray, List.getElem?_cons_zero, List.getElem?_cons_succ] at c4
    go_wp2_with fail
    clear c0 c1 c2 c3 c4
    refine (sPut_any f s mx w2 hS hm).mono ?_
    rintro e w3 ⟨v3, rfl, ho3, hb⟩
    obtain ⟨A3, q3, rfl, h3⟩ := own_rdB ho3
    clear ho3
    replace hS := (hS.below hb).more hb.size
    replace hm := (hb.cell (World.block_lt_of_cell? _ _ hm)).trans hm
    replace b0 := blk_below b0 hb
    replace hbt := hbt.trans (hb.mono hbt.size)
    clear hb
    have m31 := h3.max
    have m32 := h3.le
    by_cases he : Sc.chk s = 0
    · have HOK := Lib.hid he
      have hR : Sc.putR s = (Sc.putB s, 0) := by unfold Sc.putR; rw [if_neg (fun h => h he)]
      rw [hR] at h3 m32 ⊢
      clear hR he
      dsimp only at h3 m32 ⊢
      obtain ⟨P, hP⟩ : ∃ P, P = Sc.putB s := ⟨_, rfl⟩
      have hp1 := Sc.putB_pos (s := s)
      have hp2 := Sc.putB_len HOK.out
      rw [← hP] at h3 m32 hp1 hp2 ⊢
      have HP := Lib.hid hP
      clear hP
      obtain ⟨pn, hpn⟩ : ∃ pn, pn = P.length := ⟨_, rfl⟩
      rw [← hpn] at h3 m32 hp1 hp2 ⊢
      have HPN := Lib.hid hpn
      clear hpn
      go_wp2_with fail
      refine (sGet_any A3 pn q3 P mx w3 h3 (by omega) hm).mono ?_
      rintro e w4 ⟨X, rfl, hX, hb⟩
      rw [HP.out, Sc.getR_put HOK.out] at hX ⊢
      dsimp only at hX ⊢
      replace hS := (hS.below hb).more hb.size
      replace hm := (hb.cell (World.block_lt_of_cell? _ _ hm)).trans hm
      replace b0 := blk_below b0 hb
      replace h3 := (h3.below hb).more hb.size
      replace hbt := hbt.trans (hb.mono hbt.size)
      clear hb
      obtain ⟨V5, hV⟩ : ∃ V5, V5 = w4.alloc (.cells #[.slice X.aS X.nS X.cS, .slice X.aR X.nR X.cR, .slice X.aP X.nP X.cP, .slice X.aG X.nG X.cG, .slice X.aL X.nL X.cL] 28) := ⟨_, rfl⟩
      have b5 := blk_new hV
      have hb := below_new hV
      replace hS := (hS.below hb).more hb.size
      replace hm := (hb.cell (World.block_lt_of_cell? _ _ hm)).trans hm
      replace b0 := blk_below b0 hb
      replace h3 := (h3.below hb).more hb.size
      replace hX := (hX.below hb).more hb.size
      replace hbt := hbt.trans (hb.mono hbt.size)
      clear hb
      have HSV5 : Hid (V5.heap.size = w4.heap.size + 1) := by show V5.heap.size = _; rw [hV, World.size_alloc]
      have HVV5 := Lib.hid hV.symm
      clear hV
      clear HSV5
      unfold Sc.Five.vals
      have d0 := blk_cell (j := 0) b5
      simp only [List.getElem?_toArray, List.getElem?_cons_zero, List.getElem?_cons_succ] at d0
      have d1 := blk_cell (j := 1) b5
      simp only [List.getElem?_toArray, List.getElem?_cons_zero, List.getElem?_cons_succ] at d1
      have d2 := blk_cell (j := 2) b5
      simp only [List.getElem?_toArray, List.getElem?_cons_zero, List.getElem?_cons_succ] at d2
      have d3 := blk_cell (j := 3) b5
      simp only [List.getElem?_toArray, List.getElem?_cons_zero, List.getElem?_cons_succ] at d3
      have d4 := blk_cell (j := 4) b5
      simp only [List.getElem?_toArray, List.getElem?_cons_zero, List.getElem?_cons_succ] at d4
      have c0 := blk_cell (j := 0) b0
      simp only [List.getElem?_toArray, List.getElem?_cons_zero, List.getElem?_cons_succ] at c0
      have c1 := blk_cell (j := 1) b0
      simp only [List.getElem?_toArray, List.getElem?_cons_zero, List.getElem?_cons_succ] at c1
      have c2 := blk_cell (j := 2) b0
      simp only [List.getElem?_toArray, List.getElem?_cons_zero, List.getElem?_cons_succ] at c2
      have c3 := blk_cell (j := 3) b0
      simp only [List.getElem?_toArray, List.getElem?_cons_zero, List.getElem?_cons_succ] at c3
      have c4 := blk_cell (j := 4) b0
      simp only [List.getElem?_toArray, List.getElem?_cons_zero, List.getElem?_cons_succ] at c4
      rw [← HVV5.out] at c0 c1 c2 c3 c4 d0 d1 d2 d3 d4
      go_wp2_with fail
      rw [HVV5.out]
      clear HVV5 c0 c1 c2 c3 c4 d0 d1 d2 d3 d4
      refine (rSame3_same X f s V5 hX hS).mono ?_
      rintro e w6 ⟨rfl, hb⟩
      replace hS := (hS.below hb).more hb.size
      replace hm := (hb.cell (World.block_lt_of_cell? _ _ hm)).trans hm
      replace b0 := blk_below b0 hb
      replace h3 := (h3.below hb).more hb.size
      replace hX := (hX.below hb).more hb.size
      replace b5 := blk_below b5 hb
      replace hbt := hbt.trans (hb.mono hbt.size)
      clear hb
      clear hX b5 hS b0
      have t1 : ((pn : Int) == 0) = false := by simp; omega
      have t2 : (pn == 0) = false := by simp; omega
      have o0 : (w6.alloc (.cells #[] 5)).ownsRow w6.heap.size 5 1 (.slice (some ⟨w6.heap.size, 0, none⟩) 0 0) 0 [] := World.ownsRow_lit w6 #[] 0 (Nat.le_refl _) (by unfold maxLen; omega) rfl
      have h3' := h3.alloc (Nat.le_refl _) (.cells #[] 5)
      go_wp2_with (first
        | (at_builtin; refine wpList_app _ _ elB o0 h3' (bv_one _) (by omega) (by omega) (by simp) rfl rfl rfl rfl ?_; intro v7 w7 o7 g7 t7; simp only [Nat.zero_add, List.nil_append] at o7; have hs7 : w6.heap.size ≤ w7.heap.size := by (have := g7.size; simp at this; omega))
        | (at_builtin; refine wpList_app _ _ elB (o7.alloc _) (Rd.one w7 _ _) (one_u8 _) (by omega) (by omega) (by simp; omega) rfl rfl rfl rfl ?_; intro v8 w8 o8 g8 t8))
      have hb7 : Below w6.heap.size w6 w7 := ((Below.refl _ w6).alloc (Nat.le_refl _) _).trans (below_of_grown g7 (by simp) (fun g hg => by cases hg; exact Nat.le_refl _))
      have hb8 : Below w6.heap.size w7 w8 := ((Below.refl _ w7).alloc hs7 _).trans (below_of_grown g8 (by simp; omega) (own_lt o7))
      have hb := hb7.trans hb8
      have e8 : bv P ++ [Value.int .u8 (u.toNat : Int)] = bv (P ++ [u]) := by rw [bv_append]; rfl
      rw [e8] at o8
      clear e8 hb7 hb8 g7 g8 t7 t8 o7 o0 h3'
      obtain ⟨A8, q8, rfl, h8⟩ := own_rdB o8
      clear o8
      replace hm := (hb.cell (World.block_lt_of_cell? _ _ hm)).trans hm
      replace h3 := (h3.below hb).more hb.size
      replace hbt := hbt.trans (hb.mono hbt.size)
      clear hb
      have m81 := h8.max
      have m82 := h8.le
      refine (sGet_any A8 (pn + 1) q8 (P ++ [u]) mx w8 h8 (by omega) hm).mono ?_
      rintro e w9 ⟨Y, rfl, hY, hb⟩
      rw [HP.out, Sc.getR_more HOK.out (by simp)] at hY ⊢
      dsimp only at hY ⊢
      clear hY
      replace hm := (hb.cell (World.block_lt_of_cell? _ _ hm)).trans hm
      replace h3 := (h3.below hb).more hb.size
      replace h8 := (h8.below hb).more hb.size
      replace hbt := hbt.trans (hb.mono hbt.size)
      clear hb
      clear h8
      clear m81 m82
      obtain ⟨V9, hV⟩ : ∃ V9, V9 = w9.alloc (.cells #[.slice Y.aS Y.nS Y.cS, .slice Y.aR Y.nR Y.cR, .slice Y.aP Y.nP Y.cP, .slice Y.aG Y.nG Y.cG, .slice Y.aL Y.nL Y.cL] 28) := ⟨_, rfl⟩
      have b9 := blk_new hV
      have hb := below_new hV
      replace hm := (hb.cell (World.block_lt_of_cell? _ _ hm)).trans hm
      replace h3 := (h3.below hb).more hb.size
      replace hbt := hbt.trans (hb.mono hbt.size)
      clear hb
      have HSV9 : Hid (V9.heap.size = w9.heap.size + 1) := by show V9.heap.size = _; rw [hV, World.size_alloc]
      have HVV9 := Lib.hid hV.symm
      clear hV
      clear HSV9
      unfold Sc.Five.vals
      obtain ⟨kk, hkk⟩ : ∃ kk : Nat, kk = (x % 65536).toNat % pn := ⟨_, rfl⟩
      have hk1 : kk < pn := by rw [hkk]; exact Nat.mod_lt _ hp1
      have ek : (bits .and .i64 x 65535).tmod (pn : Int) = (kk : Int) := by
        rw [i64_and65535, hkk]
        have h0 : 0 ≤ x % 65536 := Int.emod_nonneg _ (by omega)
        rw [Int.tmod_eq_emod_of_nonneg h0, Int.natCast_emod, Int.toNat_of_nonneg h0]
      clear hkk
      have e1 : (kk : Int) ≤ (q3 : Int) := by omega
      have e2 : kk ≤ q3 := by omega
      go_wp2_with fail
      rw [HVV9.out]
      clear HVV9
      have hcut := h3.upto (k := kk) (by omega)
      refine (sGet_any A3 kk q3 (P.take kk) mx V9 hcut (by omega) hm).mono ?_
      rintro e w10 ⟨Z, rfl, hZ, hb⟩
      rw [HP.out, Sc.getR_part HOK.out (by rw [← HP.out, ← HPN.out]; exact hk1)] at hZ ⊢
      dsimp only at hZ ⊢
      clear hZ hcut
      replace hm := (hb.cell (World.block_lt_of_cell? _ _ hm)).trans hm
      replace h3 := (h3.below hb).more hb.size
      replace b9 := blk_below b9 hb
      replace hbt := hbt.trans (hb.mono hbt.size)
      clear hb
      obtain ⟨V10, hV⟩ : ∃ V10, V10 = w10.alloc (.cells #[.slice Z.aS Z.nS Z.cS, .slice Z.aR Z.nR Z.cR, .slice Z.aP Z.nP Z.cP, .slice Z.aG Z.nG Z.cG, .slice Z.aL Z.nL Z.cL] 28) := ⟨_, rfl⟩
      have b10 := blk_new hV
      have hb := below_new hV
      replace hm := (hb.cell (World.block_lt_of_cell? _ _ hm)).trans hm
      replace h3 := (h3.below hb).more hb.size
      replace b9 := blk_below b9 hb
      replace hbt := hbt.trans (hb.mono hbt.size)
      clear hb
      have HSV10 : Hid (V10.heap.size = w10.heap.size + 1) := by show V10.heap.size = _; rw [hV, World.size_alloc]
      have HVV10 := Lib.hid hV.symm
      clear hV
      clear HSV10
      unfold Sc.Five.vals
      go_wp2_with fail
      rw [HVV10.out]
      go_wp2_with fail
      go_ret
      exact ⟨rfl, hbt⟩
    · have HE := Lib.hid he
      have hR : Sc.putR s = ([], Sc.chk s) := by unfold Sc.putR; rw [if_pos he]
      rw [hR] at h3 m32 ⊢
      clear hR
      obtain ⟨er, her⟩ : ∃ er, er = Sc.chk s := ⟨_, rfl⟩
      rw [← her] at he ⊢
      have HER := Lib.hid her
      clear her
      have d5 : (er != 0) = true := by simp [he]
      clear he
      dsimp only [List.length_nil] at h3 m32 ⊢
      have c0 := blk_cell (j := 0) b0
      simp only [List.getElem?_toArray, List.getElem?_cons_zero, List.getElem?_cons_succ] at c0
      have c1 := blk_cell (j := 1) b0
      simp only [List.getElem?_toArray, List.getElem?_cons_zero, List.getElem?_cons_succ] at c1
      have c2 := blk_cell (j := 2) b0
      simp only [List.getElem?_toArray, List.getElem?_cons_zero, List.getElem?_cons_succ] at c2
      have c3 := blk_cell (j := 3) b0
      simp only [List.getElem?_toArray, List.getElem?_cons_zero, List.getElem?_cons_succ] at c3
      have c4 := blk_cell (j := 4) b0
      simp only [List.getElem?_toArray, List.getElem?_cons_zero, List.getElem?_cons_succ] at c4
      go_wp2_with fail
      clear c0 c1 c2 c3 c4
      refine (sCheck_any f s mx w3 hS hm).mono ?_
      rintro e w4 ⟨rfl, hb⟩
      rw [← HER.out]
      replace hS := (hS.below hb).more hb.size
      replace hm := (hb.cell (World.block_lt_of_cell? _ _ hm)).trans hm
      replace b0 := blk_below b0 hb
      replace h3 := (h3.below hb).more hb.size
      replace hbt := hbt.trans (hb.mono hbt.size)
      clear hb
      have E1 : (er == er) = true := by simp
      go_wp2_with fail
      go_ret
      exact ⟨rfl, hbt⟩

end Go.Proofs.YtfockoihmoljfaaGreatDoor
