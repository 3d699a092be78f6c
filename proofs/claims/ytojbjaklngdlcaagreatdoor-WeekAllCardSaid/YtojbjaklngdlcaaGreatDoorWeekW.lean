/-
  The walks of week.Put and Get and of the reference's.
-/
import Derived.Test.YtojbjaklngdlcaaGreatDoorWeekP
import Derived.Test.YtojbjaklngdlcaaGreatDoorLotA
import Derived.Test.YtojbjaklngdlcaaGreatDoorIterW
import Derived.Test.YtojbjaklngdlcaaGreatDoorGetW
import Derived.Test.YtojbjaklngdlcaaGreatDoorRGetW
namespace Go.Proofs.YtojbjaklngdlcaaGreatDoor
open Go.RowKit
set_option linter.unusedVariables false
set_option linter.unusedSimpArgs false

set_option maxRecDepth 100000 in
set_option maxHeartbeats 4000000 in
theorem wPut_any (A : Option Addr) (m c : Nat) (l : List UInt8) (A' : Option Addr) (n c' : Nat) (ps : List Pl) (w : World) (h : RdB w w.heap.size A m c l) (h' : RdP w w.heap.size A' n c' ps) (hm : m ≤ 1073741824) (hn : n ≤ 1048576) :
    Calls Tryz.prog 29 #[.slice A m c, .agg #[.slice A' n c']] w (RetNew 5 (m + (Vi.putW ps).length) (bv (l ++ Vi.putW ps)) w) := by
  have h1 := h'.max
  have h2 := h'.le
  have hlen := Lib.hid h'.len
  have hI := putI_len (n := (n : Int)) (by omega)
  obtain ⟨P, hP⟩ : ∃ P, P = Vi.putI (n : Int) := ⟨_, rfl⟩
  have HP : Hid (Vi.putW ps = P ++ ps.flatMap Vi.pairB) := by show Vi.putW ps = _; unfold Vi.putW; rw [hlen.out, hP]
  have hbt := Below.refl w.heap.size w
  obtain ⟨V1, hV⟩ : ∃ V1, V1 = w.alloc (.cells #[.slice A' n c'] 31) := ⟨_, rfl⟩
  have b1 := blk_new hV
  have hb := below_new hV
  replace h := (h.below hb).more hb.size
  replace h' := (h'.below hb).more hb.size
  replace hbt := hbt.trans (hb.mono hbt.size)
  clear hb
  have HSV1 : Hid (V1.heap.size = w.heap.size + 1) := by show V1.heap.size = _; rw [hV, World.size_alloc]
  have HVV1 := Lib.hid hV.symm
  clear hV
  go_enter Tryz.func29, Tryz.ntmps29
  have cb10 := cell_of_row V1 w.heap.size 0 _ _ _ b1
  simp only [List.getElem?_toArray, List.getElem?_cons_zero, List.getElem?_cons_succ] at cb10
  rw [← HVV1.out] at cb10
  go_wp2_with fail
  rw [HVV1.out]
  clear HVV1
  clear cb10
  refine (putInt_any A m c l (n : Int) V1 h (by omega) (by omega)).mono ?_
  rintro e w2 ⟨v, rfl, ho, hb⟩
  rw [← hP] at ho hI
  clear hP h
  replace ho := own_mono ho hbt.size
  replace h' := (h'.below hb).more hb.size
  replace b1 := blk_below b1 hb
  replace hbt := hbt.trans (hb.mono hbt.size)
  clear hb
  have cb10 := cell_of_row w2 w.heap.size 0 _ _ _ b1
  simp only [List.getElem?_toArray, List.getElem?_cons_zero, List.getElem?_cons_succ] at cb10
  go_wp2_with fail
  clear cb10
  go_loopw [0, 15] (fun v i wr => ∃ k : Nat, k ≤ n ∧ i = .int .i64 k ∧ wr.ownsRow w.heap.size 5 1 v (m + P.length + ((ps.take k).flatMap Vi.pairB).length) (bv (l ++ P ++ (ps.take k).flatMap Vi.pairB)) ∧ Below w2.heap.size w2 wr) (fun _ i _ => n - (intOf i).toNat)
  case atStart => exact ⟨0, by omega, rfl, by simpa [Nat.add_assoc] using ho, Below.refl _ _⟩
  case round =>
    obtain ⟨k, hk, rfl, ho', hb⟩ := hrel
    clear ho
    have hbr := hb
    replace h' := (h'.below hb).more hb.size
    replace b1 := blk_below b1 hb
    replace hbt := hbt.trans (hb.mono hbt.size)
    clear hb
    have hok : okPs (ps.take k) := fun z hz => h'.2 z (List.mem_of_mem_take hz)
    have hfl := Vi.pairs_len hok
    rw [List.length_take, hlen.out] at hfl
    clear hok
    by_cases hkn : k < n
    · have d1 : decide ((k : Int) < (n : Int)) = true := by simp; omega
      have hkl : k < ps.length := by rw [hlen.out]; exact hkn
      obtain ⟨ad, rfl, hab, c1, c2, ok1, ok2⟩ := h'.at_ hkn hkl
      clear c1 c2
      have HT : Hid ((ps.take (k + 1)).flatMap Vi.pairB = (ps.take k).flatMap Vi.pairB ++ (Vi.putI ps[k].1 ++ Vi.putI ps[k].2)) := by
        show List.flatMap _ _ = _
        rw [List.take_succ_eq_append_getElem hkl, List.flatMap_append]
        simp [Vi.pairB]
      obtain ⟨ad', e', _, c1, c2, _, _⟩ := h'.at_ hkn hkl
      injection e' with e'
      subst e'
      have l1 := putI_len ok1
      have l2 := putI_len ok2
      generalize ps[k] = q at *
      obtain ⟨Q, hQ⟩ : ∃ Q, Q = (ps.take k).flatMap Vi.pairB := ⟨_, rfl⟩
      rw [← hQ] at ho' HT hfl
      clear hQ
      obtain ⟨A5, k5, rfl, q5⟩ := own_rdB ho'
      obtain ⟨u, t⟩ := q
      dsimp only at *
      obtain ⟨V3, hV⟩ : ∃ V3, V3 = wr.alloc (.cells #[.int .i64 u, .int .i64 t] 62) := ⟨_, rfl⟩
      have b3 := blk_new hV
      have hb := below_new hV
      replace h' := (h'.below hb).more hb.size
      replace b1 := blk_below b1 hb
      replace hbr := hbr.trans (hb.mono hbr.size)
      replace q5 := (q5.below hb).more hb.size
      replace hbt := hbt.trans (hb.mono hbt.size)
      clear hb
      have HSV3 : Hid (V3.heap.size = wr.heap.size + 1) := by show V3.heap.size = _; rw [hV, World.size_alloc]
      have HVV3 := Lib.hid hV.symm
      clear hV
      have cb1 := blk_cell (j := 0) b1
      simp only [List.getElem?_toArray, List.getElem?_cons_zero] at cb1
      go_wp2_with fail
      rw [HVV3.out]
      clear HVV3 cb1
      refine wp_region_plan [([0, 1, 2, 4, 5], some 3), ([], some 6), ([7], none)] (by kernel_rfl) (by kernel_rfl) ?_
      intro wd hsz hb
      clear hsz
      replace h' := (h'.below hb).more hb.size
      replace b1 := blk_below b1 hb
      replace hbr := hbr.trans (hb.mono hbr.size)
      replace q5 := (q5.below hb).more hb.size
      replace b3 := blk_below b3 hb
      replace hbt := hbt.trans (hb.mono hbt.size)
      clear hb
      simp only [pickP, pick, List.map_cons, List.map_nil, Option.map_some, Option.map_none, List.getD_cons_zero, List.getD_cons_succ]
      have cb30 : ∀ x : Ext wd.heap.size wd, x.val.cell? ⟨wr.heap.size, 0, none⟩ = some (.int .i64 u) := fun x => (x.cell (blk_lt b3)).trans (blk_cell b3)
      have cb31 : ∀ x : Ext wd.heap.size wd, x.val.cell? ⟨wr.heap.size, 1, none⟩ = some (.int .i64 t) := fun x => (x.cell (blk_lt b3)).trans (blk_cell b3)
      refine plan_cons ?_
      (repeat (go_big_quiet_step (fail)))
      refine plan_nil ?_
      clear cb30 cb31
      refine plan_call (by kernel_rfl) (fun K hK => ?_)
      go_simp
      refine (putInt_any A5 (m + P.length + Q.length) k5 (l ++ P ++ Q) u _ q5 (by omega) ok1).mono ?_
      rintro e w4 ⟨v4, rfl, o4, hb⟩
      obtain ⟨A4, k4, rfl, q4⟩ := own_rdB o4
      clear o4 q5
      refine hK.out _ _ hb ?_
      clear hK K
      (try simp only [Act.put, List.setIfInBounds_toArray, List.set_cons_zero, List.set_cons_succ])
      replace h' := (h'.below hb).more hb.size
      replace b1 := blk_below b1 hb
      replace hbr := hbr.trans (hb.mono hbr.size)
      replace b3 := blk_below b3 hb
      replace hbt := hbt.trans (hb.mono hbt.size)
      clear hb
      refine plan_cons ?_
      (repeat (go_big_quiet_step (fail)))
      refine plan_nil ?_
      refine plan_call (by kernel_rfl) (fun K hK => ?_)
      go_simp
      refine (putInt_any A4 (m + P.length + Q.length + (Vi.putI u).length) k4 (l ++ P ++ Q ++ Vi.putI u) t _ q4 (by omega) ok2).mono ?_
      rintro e w6 ⟨v6, rfl, o6, hb⟩
      replace o6 := own_mono o6 hbt.size
      clear q4
      refine hK.out _ _ hb ?_
      clear hK K
      (try simp only [Act.put, List.setIfInBounds_toArray, List.set_cons_zero, List.set_cons_succ])
      replace h' := (h'.below hb).more hb.size
      replace b1 := blk_below b1 hb
      replace hbr := hbr.trans (hb.mono hbr.size)
      replace b3 := blk_below b3 hb
      replace hbt := hbt.trans (hb.mono hbt.size)
      clear hb
      refine plan_cons ?_
      (repeat (go_big_quiet_step (fail)))
      refine plan_nil ?_
      refine plan_end ?_
      go_wp2
      go_roundw
      case rel =>
        refine ⟨k + 1, by omega, by go_num, ?_, ?_⟩
        · rw [HT.out]
          simpa [Nat.add_assoc] using o6
        · exact hbr
      case measure => simp [intOf]; omega
    · obtain rfl : k = n := by omega
      have d1 : decide ((k : Int) < (k : Int)) = false := by simp
      have cb1 := blk_cell (j := 0) b1
      simp only [List.getElem?_toArray, List.getElem?_cons_zero] at cb1
      go_wp2_with fail
      go_ret
      refine ⟨_, rfl, ?_, hbt⟩
      rw [List.take_of_length_le (by rw [hlen.out]; omega)] at ho'
      rw [HP.out, List.length_append, ← List.append_assoc, ← Nat.add_assoc]
      exact ho'

end Go.Proofs.YtojbjaklngdlcaaGreatDoor
