/-
  The walks of week.Get and of the reference's.
-/
import Derived.Test.YtojbjaklngdlcaaGreatDoorWeekP
import Derived.Test.YtojbjaklngdlcaaGreatDoorApplyW
import Derived.Test.YtojbjaklngdlcaaGreatDoorLotA
import Derived.Test.YtojbjaklngdlcaaGreatDoorGetW
import Derived.Test.YtojbjaklngdlcaaGreatDoorRGetW
namespace Go.Proofs.YtojbjaklngdlcaaGreatDoor
open Go.RowKit
set_option linter.unusedVariables false
set_option linter.unusedSimpArgs false

/-- A week in new memory, an offset, an error. -/
def WPost (R : List Pl × Int × Int) (w : World) (e : Ending) (w' : World) : Prop :=
  ∃ v, e = .returned (.tuple #[.agg #[v], .int .i64 R.2.1, .int .i64 R.2.2]) ∧ w'.ownsRow w.heap.size 62 2 v R.1.length (pv R.1) ∧ Below w.heap.size w w'
theorem wpost_err {R : List Pl × Int × Int} {er : Int} {w w' : World} (hR : R = ([], 0, er)) (hb : Below w.heap.size w w') : WPost R w (.returned (.tuple #[.agg #[.slice none 0 0], .int .i64 0, .int .i64 er])) w' := by
  subst hR
  exact ⟨.slice none 0 0, rfl, World.ownsRow_nil _ _ _ _, hb⟩
theorem made_places (n : Nat) : (madeCells (Value.agg #[.int .i64 0, .int .i64 0]).cells (n * 2)).toList = pv (List.replicate n (0, 0)) := by
  have h1 : (madeCells (Value.agg #[.int .i64 0, .int .i64 0]).cells (n * 2)).toList = List.replicate (n * 2) (.int .i64 0) := by
    rw [List.eq_replicate_iff]
    refine ⟨by simp [madeCells], fun b hb => ?_⟩
    simp only [madeCells, Array.toList_map, List.mem_map] at hb
    obtain ⟨x, _, rfl⟩ := hb
    have hx : x % 2 = 0 ∨ x % 2 = 1 := by omega
    show (#[Value.int .i64 0, .int .i64 0] : Array Value)[x % 2]! = _
    rcases hx with hx | hx <;> rw [hx] <;> rfl
  have h2 : pv (List.replicate n (0, 0)) = List.replicate (n * 2) (.int .i64 0) := by
    rw [List.eq_replicate_iff]
    refine ⟨by rw [pv_length, List.length_replicate], fun b hb => ?_⟩
    simp only [pv, List.mem_flatMap] at hb
    obtain ⟨p, hp, hb⟩ := hb
    rw [(List.mem_replicate.1 hp).2] at hb
    simp [pcell] at hb
    exact hb
  rw [h1, h2]
theorem pv_set0 (acc : List Pl) (q : Pl) (zs : List Pl) (u : Int) {k : Nat} (hk : acc.length = k) : (pv (acc ++ q :: zs)).set (k * 2) (.int .i64 u) = pv (acc ++ (u, q.2) :: zs) := by
  subst hk
  have e : ∀ q : Pl, pv (acc ++ q :: zs) = pv acc ++ (.int .i64 q.1 :: .int .i64 q.2 :: pv zs) := fun q => by rw [pv_append]; rfl
  rw [e, e, List.set_append_right _ _ (by rw [pv_length]; omega), pv_length, Nat.sub_self]
  rfl
theorem pv_set1 (acc : List Pl) (q : Pl) (zs : List Pl) (u : Int) {k : Nat} (hk : acc.length = k) : (pv (acc ++ q :: zs)).set (k * 2 + 1) (.int .i64 u) = pv (acc ++ (q.1, u) :: zs) := by
  subst hk
  have e : ∀ q : Pl, pv (acc ++ q :: zs) = pv acc ++ (.int .i64 q.1 :: .int .i64 q.2 :: pv zs) := fun q => by rw [pv_append]; rfl
  rw [e, e, List.set_append_right _ _ (by rw [pv_length]; omega), pv_length, Nat.add_sub_cancel_left]
  rfl

set_option maxRecDepth 100000 in
set_option maxHeartbeats 4000000 in
theorem wGet_any (A : Option Addr) (m c : Nat) (l : List UInt8) (a : Int) (w : World) (h : RdB w w.heap.size A m c l) (ha : -9223372036854775808 ≤ a ∧ a ≤ 9223372036854775807) (hm : m ≤ 1073741824) :
    Calls Tryz.prog 28 #[.slice A m c, .int .i64 a] w (WPost (Vi.getW l a) w) := by
  have h1 := h.max
  have h2 := h.le
  have h0 := h
  have hl0 := Lib.hid h.len
  have hbt := Below.refl w.heap.size w
  obtain ⟨V1, hV⟩ : ∃ V1, V1 = w.alloc (.cells #[.slice none 0 0] 31) := ⟨_, rfl⟩
  have b1 := blk_new hV
  have hb := below_new hV
  replace h := (h.below hb).more hb.size
  replace hbt := hbt.trans (hb.mono hbt.size)
  clear hb
  have hs0 : w.heap.size < V1.heap.size := by rw [hV, World.size_alloc]; omega
  have HVV1 := Lib.hid hV.symm
  clear hV
  have cb10 := blk_cell (j := 0) b1
  simp only [List.getElem?_toArray, List.getElem?_cons_zero, List.getElem?_cons_succ] at cb10
  have hR : ∃ R, R = Vi.getW l a := ⟨_, rfl⟩
  obtain ⟨R, hR⟩ := hR
  rw [← hR]
  have hok := getI_ok (l := l) (a := a)
  rw [h.len] at hok
  have HR : Hid (R = Vi.getW l a) := Lib.hid hR
  clear hR
  go_enter Tryz.func28, Tryz.ntmps28
  go_wp2_with fail
  rw [HVV1.out]
  clear HVV1
  have cf10 := blk_frozen 0 b1
  have hbe : Below w.heap.size w (V1.setCell ⟨w.heap.size, 0, none⟩ (.slice none 0 0)) := hbt.setCell (p := ⟨w.heap.size, 0, none⟩) (Nat.le_refl _) _
  have hbl := blk_set (k := 0) (.slice none 0 0) b1
  have cbe : (V1.setCell ⟨w.heap.size, 0, none⟩ (.slice none 0 0)).cell? ⟨w.heap.size, 0, none⟩ = some (.slice none 0 0) := blk_cell (j := 0) (blk_set (k := 0) (.slice none 0 0) b1)
  refine (getInt_any A m c l a V1 h ha).mono ?_
  rintro e w' ⟨rfl, rfl⟩
  have HW : Hid (Vi.getW l a = if (Vi.getI l a).2.2 ≠ 0 then ([], 0, (Vi.getI l a).2.2) else if (Vi.getI l a).1 < 0 then ([], 0, 11) else if 64 < (Vi.getI l a).1 then ([], 0, 2) else Vi.getP l (Vi.getI l a).1.toNat (Vi.getI l a).2.1 []) := by
    show _ = _
    unfold Vi.getW Vi.cnt
    split
    · rename_i h; simp [h]
    · split
      · simp
      · split
        · simp
        · simp
  generalize Vi.getI l a = G at *
  obtain ⟨n, nx, er⟩ := G
  dsimp only at *
  by_cases he : er = 0
  · subst he
    have hb := hok rfl
    clear hok
    by_cases hn : n < 0
    · have d1 : decide (n < 0) = true := by simp; omega
      go_wp2_with fail
      refine bodyPost_ret (results_cell_row3 rfl _ _ w.heap.size 31 #[.slice none 0 0] (0, 0) _ rfl hbl Tryz.underlying31 rfl infoWeek) rfl ?_
      refine wpost_err ?_ hbe
      rw [HR.out, HW.out, if_neg (by simp), if_pos (by omega)]
    · have d1 : decide (n < 0) = false := by simp; omega
      by_cases hn2 : 64 < n
      · have d2 : decide (64 < n) = true := by simp; omega
        go_wp2_with fail
        refine bodyPost_ret (results_cell_row3 rfl _ _ w.heap.size 31 #[.slice none 0 0] (0, 0) _ rfl hbl Tryz.underlying31 rfl infoWeek) rfl ?_
        refine wpost_err ?_ hbe
        rw [HR.out, HW.out, if_neg (by simp), if_neg (by omega), if_pos (by omega)]
      · have d2 : decide (64 < n) = false := by simp; omega
        have HP : Hid (R = Vi.getP l n.toNat nx []) := by
          show _ = _
          rw [HR.out, HW.out, if_neg (by simp), if_neg hn, if_neg hn2]
        clear HR HW hbe cbe
        obtain ⟨N, rfl⟩ : ∃ N : Nat, n = N := ⟨n.toNat, by omega⟩
        obtain ⟨X, rfl⟩ : ∃ X : Nat, nx = X := ⟨nx.toNat, by omega⟩
        rw [Int.toNat_natCast] at HP
        obtain ⟨i0, hi, hz0, hz1, hz2⟩ := info_parts elP.i
        have H2 := Lib.hid hz2
        clear hz2
        have hs1 := hbt.size
        go_wp2_with (at_make; refine wpList_make_full _ rfl _ _ 29 rfl w.heap.size 62 i0 (.agg #[.int .i64 0, .int .i64 0]) 2 Tryz.underlying29 hi hz0 hz1 _ _ _ _ N rfl rfl rfl rfl (by rw [H2.out]; omega) (by unfold maxLen; omega) hs1 ?_; intro w2 hown2 hg2)
        have hb2 : Below V1.heap.size V1 w2 := below_of_grown hg2 (Nat.le_refl _) (fun g hg => by cases hg)
        rw [made_places] at hown2
        have hz1 : V1.heap.size < w2.heap.size := own_some_lt hown2
        obtain ⟨V3, hV⟩ : ∃ V3, V3 = w2.alloc (.cells #[.slice (some ⟨V1.heap.size, 0, none⟩) N N] 31) := ⟨_, rfl⟩
        have b3 := blk_new hV
        have hb3 := below_new hV
        have o3 := own_below hown2 hb3
        replace b1 := blk_below (blk_below b1 hb2) hb3
        replace hbt := (hbt.trans (hb2.mono hbt.size)).trans (hb3.mono (Nat.le_trans hbt.size hb2.size))
        rw [← hV]
        clear hV hb3 hb2 hg2 hown2 h
        generalize V1.heap.size = bR at *
        generalize w2.heap.size = bX at *
        go_loopw [5, 6, 38] (fun nv ev iv wr => ∃ (k X : Nat) (acc : List Pl), k ≤ N ∧ iv = .int .i64 k ∧ nv = .int .i64 X ∧ ev = .int .i64 0 ∧ X ≤ m ∧ acc.length = k ∧ okPs acc ∧ R = Vi.getP l (N - k) X acc ∧
          wr.ownsRow w.heap.size 62 2 (.slice (some ⟨bR, 0, none⟩) N N) N (pv (acc ++ List.replicate (N - k) (0, 0))) ∧
          wr.heap[bX]? = some (.cells #[.slice (some ⟨bR, 0, none⟩) N N] 31) ∧ wr.heap[w.heap.size]? = some (.cells #[.slice none 0 0] 31) ∧ Below w.heap.size w wr) (fun _ _ i _ => N - (intOf i).toNat)
        case atStart => exact ⟨0, X, [], by omega, rfl, rfl, rfl, by omega, rfl, by simp [okPs], HP.out, o3, b3, b1, hbt⟩
        case round =>
          clear HP o3 b3 b1 hbt
          obtain ⟨k, X, acc, hk, rfl, rfl, rfl, hX, hacc, hoka, hR, ho, b3, b1, hbt⟩ := hrel
          have HR := Lib.hid hR
          have HA := Lib.hid hacc
          clear hR hacc
          by_cases hkn : k < N
          · have d3 : decide ((k : Int) < (N : Int)) = true := by simp; omega
            have cX := blk_cell (j := 0) b3
            simp only [List.getElem?_toArray, List.getElem?_cons_zero] at cX
            go_wp2_with fail
            refine wp_region_plan [([0, 1, 2, 3, 4, 5, 6, 7, 8, 9, 12], some 10), ([11], none)] (by kernel_rfl) (by kernel_rfl) ?_
            intro wd hsz hb
            have hbd2 : bX < wd.heap.size ∧ bR < wd.heap.size := by rw [hsz]; exact ⟨blk_lt b3, own_some_lt ho⟩
            clear hsz
            replace ho := own_below ho hb
            replace b3 := blk_below b3 hb
            replace b1 := blk_below b1 hb
            replace hbt := hbt.trans (hb.mono hbt.size)
            clear hb cX
            simp only [pickP, pick, List.map_cons, List.map_nil, Option.map_some, Option.map_none, List.getD_cons_zero, List.getD_cons_succ]
            have cX : ∀ x : Ext wd.heap.size wd, x.val.cell? ⟨bX, 0, none⟩ = some (.slice (some ⟨bR, 0, none⟩) N N) := fun x => (x.cell (blk_lt b3)).trans (blk_cell b3)
            refine plan_cons ?_
            (repeat (go_big_quiet_step (fail)))
            refine plan_nil ?_
            clear cX
            refine plan_call (by kernel_rfl) (fun K hK => ?_)
            go_simp
            obtain ⟨V5, hV⟩ : ∃ V5, V5 = wd.alloc (.cells #[.pointer (some ⟨bR, k * 2, none⟩), .pointer (some ⟨bR, k * 2 + 1, none⟩)] 107) := ⟨_, rfl⟩
            have b5 := blk_new hV
            have hb := below_new hV
            rw [← hV]
            clear hV
            refine hK.out _ _ hb ?_
            clear hK K
            (try simp only [Act.put, List.setIfInBounds_toArray, List.set_cons_zero, List.set_cons_succ])
            replace ho := own_below ho hb
            replace b3 := blk_below b3 hb
            replace b1 := blk_below b1 hb
            replace hbt := hbt.trans (hb.mono hbt.size)
            have hbd := hb.size
            clear hb
            refine plan_cons ?_
            (repeat (go_big_quiet_step (fail)))
            refine plan_nil ?_
            refine plan_end ?_
            go_wp2_with fail
            generalize wd.heap.size = bP at *
            go_loopw [5, 6, 53] (fun nv ev iv wr => ∃ (j Y : Nat) (q : Pl), iv = .int .i64 j ∧ nv = .int .i64 Y ∧ ev = .int .i64 0 ∧ Y ≤ m ∧
              ((j = 0 ∧ Y = X ∧ q = (0, 0)) ∨ (j = 1 ∧ (Vi.getI l X).2.2 = 0 ∧ (Y : Int) = (Vi.getI l X).2.1 ∧ q = ((Vi.getI l X).1, 0)) ∨
                (j = 2 ∧ (Vi.getI l X).2.2 = 0 ∧ (Vi.getI l (Vi.getI l X).2.1).2.2 = 0 ∧ (Y : Int) = (Vi.getI l (Vi.getI l X).2.1).2.1 ∧ q = ((Vi.getI l X).1, (Vi.getI l (Vi.getI l X).2.1).1))) ∧
              wr.ownsRow w.heap.size 62 2 (.slice (some ⟨bR, 0, none⟩) N N) N (pv (acc ++ q :: List.replicate (N - k - 1) (0, 0))) ∧
              wr.heap[bX]? = some (.cells #[.slice (some ⟨bR, 0, none⟩) N N] 31) ∧ wr.heap[w.heap.size]? = some (.cells #[.slice none 0 0] 31) ∧
              wr.heap[bP]? = some (.cells #[.pointer (some ⟨bR, k * 2, none⟩), .pointer (some ⟨bR, k * 2 + 1, none⟩)] 107) ∧ Below w.heap.size w wr) (fun _ _ i _ => 2 - (intOf i).toNat)
            case atStart =>
              refine ⟨0, X, (0, 0), rfl, rfl, rfl, hX, .inl ⟨rfl, rfl, rfl⟩, ?_, b3, b1, b5, hbt⟩
              rw [show N - k = (N - k - 1) + 1 by omega, List.replicate_succ] at ho
              exact ho
            case round =>
              clear ho b3 b1 b5 hbt
              obtain ⟨j, Y, q, rfl, rfl, rfl, hY, hcase, ho, b3, b1, b5, hbt⟩ := hrel
              rcases hcase with ⟨rfl, rfl, rfl⟩ | ⟨rfl, g1, g2, rfl⟩ | ⟨rfl, g1, g2, g3, rfl⟩
              · rw [show ((0 : Nat) : Int) = 0 from rfl]
                have hG := getI_ok (l := l) (a := (Y : Int))
                rw [hl0.out] at hG
                have cP := blk_cell (j := 0) b5
                simp only [List.getElem?_toArray, List.getElem?_cons_zero, List.getElem?_cons_succ] at cP
                obtain ⟨u0, cR⟩ := own_cell ho (j := k * 2) (by omega)
                have fR := ho.frozenAt (k * 2)
                have hst := fun z : Int => (ho.stored (k * 2) (.int .i64 z)).1
                have e3 := fun z : Int => blk_other (p := ⟨bR, k * 2, none⟩) (.int .i64 z) b3 (by simp; omega)
                have e1 := fun z : Int => blk_other (p := ⟨bR, k * 2, none⟩) (.int .i64 z) b1 (by simp; omega)
                have e5 := fun z : Int => blk_other (p := ⟨bR, k * 2, none⟩) (.int .i64 z) b5 (by simp; omega)
                have ebt := fun z : Int => hbt.setCell (p := ⟨bR, k * 2, none⟩) (by simp; omega) (.int .i64 z)
                have HST := Lib.hid hst
                have E3 := Lib.hid e3
                have E1 := Lib.hid e1
                have E5 := Lib.hid e5
                have EBT := Lib.hid ebt
                clear hst e3 e1 e5 ebt
                go_wp2_with fail
                refine (getInt_any A m c l (Y : Int) wr ((h0.below hbt).more hbt.size) (by omega)).mono ?_
                rintro e w' ⟨rfl, rfl⟩
                have HF : Hid ((Vi.getI l (Y : Int)).2.2 ≠ 0 → R = ([], 0, (Vi.getI l (Y : Int)).2.2)) := fun hne => by
                  rw [HR.out, show N - k = (N - k - 1) + 1 by omega, Vi.getP, if_pos hne]
                obtain ⟨G, hGG⟩ : ∃ G, G = Vi.getI l (Y : Int) := ⟨_, rfl⟩
                rw [← hGG] at hG HF ⊢
                have HGG := Lib.hid hGG.symm
                clear hGG
                obtain ⟨z, nx, er⟩ := G
                dsimp only at hG HF ⊢
                by_cases he : er = 0
                · subst he
                  obtain ⟨_, _, hnm, _, _, _⟩ := hG rfl
                  obtain ⟨ny, rfl⟩ : ∃ ny : Nat, nx = ny := ⟨nx.toNat, by omega⟩
                  clear hG
                  go_wp2_with fail
                  go_roundw
                  case rel =>
                    refine ⟨1, ny, (z, 0), by go_num, rfl, rfl, by omega, .inr (.inl ⟨rfl, by rw [HGG.out], by rw [HGG.out], by rw [HGG.out]⟩), ?_, E3.out z, E1.out z, E5.out z, EBT.out z⟩
                    have e := HST.out z
                    rw [pv_set0 acc _ _ z HA.out] at e
                    exact e
                  case measure => simp [intOf]
                · have d5 : (er != 0) = true := by simp; omega
                  have cW := blk_cell (j := 0) (E1.out z)
                  simp only [List.getElem?_toArray, List.getElem?_cons_zero] at cW
                  have fW := blk_frozen 0 (E1.out z)
                  clear hG
                  go_wp2_with fail
                  refine bodyPost_ret (results_cell_row3 rfl _ _ w.heap.size 31 #[.slice none 0 0] (0, 0) _ rfl (blk_set (k := 0) (.slice none 0 0) (E1.out z)) Tryz.underlying31 rfl infoWeek) rfl ?_
                  exact wpost_err (HF.out he) ((EBT.out z).setCell (p := ⟨w.heap.size, 0, none⟩) (Nat.le_refl _) _)
              · rw [show ((1 : Nat) : Int) = 1 from rfl]
                have G1 := Lib.hid g1
                have G2 := Lib.hid g2
                clear g1 g2
                have hG := getI_ok (l := l) (a := (Y : Int))
                rw [hl0.out] at hG
                have cP := blk_cell (j := 1) b5
                simp only [List.getElem?_toArray, List.getElem?_cons_zero, List.getElem?_cons_succ] at cP
                obtain ⟨u0, cR⟩ := own_cell ho (j := k * 2 + 1) (by omega)
                have fR := ho.frozenAt (k * 2 + 1)
                have hst := fun z : Int => (ho.stored (k * 2 + 1) (.int .i64 z)).1
                have e3 := fun z : Int => blk_other (p := ⟨bR, k * 2 + 1, none⟩) (.int .i64 z) b3 (by simp; omega)
                have e1 := fun z : Int => blk_other (p := ⟨bR, k * 2 + 1, none⟩) (.int .i64 z) b1 (by simp; omega)
                have e5 := fun z : Int => blk_other (p := ⟨bR, k * 2 + 1, none⟩) (.int .i64 z) b5 (by simp; omega)
                have ebt := fun z : Int => hbt.setCell (p := ⟨bR, k * 2 + 1, none⟩) (by simp; omega) (.int .i64 z)
                have HST := Lib.hid hst
                have E3 := Lib.hid e3
                have E1 := Lib.hid e1
                have E5 := Lib.hid e5
                have EBT := Lib.hid ebt
                clear hst e3 e1 e5 ebt
                go_wp2_with fail
                refine (getInt_any A m c l (Y : Int) wr ((h0.below hbt).more hbt.size) (by omega)).mono ?_
                rintro e w' ⟨rfl, rfl⟩
                have HF : Hid ((Vi.getI l (Y : Int)).2.2 ≠ 0 → R = ([], 0, (Vi.getI l (Y : Int)).2.2)) := fun hne => by
                  rw [HR.out, show N - k = (N - k - 1) + 1 by omega, Vi.getP, if_neg (by rw [G1.out]; simp), ← G2.out, if_pos hne]
                obtain ⟨G, hGG⟩ : ∃ G, G = Vi.getI l (Y : Int) := ⟨_, rfl⟩
                rw [← hGG] at hG HF ⊢
                have HGG := Lib.hid hGG.symm
                clear hGG
                obtain ⟨z, nx, er⟩ := G
                dsimp only at hG HF ⊢
                by_cases he : er = 0
                · subst he
                  obtain ⟨_, _, hnm, _, _, _⟩ := hG rfl
                  obtain ⟨ny, rfl⟩ : ∃ ny : Nat, nx = ny := ⟨nx.toNat, by omega⟩
                  clear hG
                  go_wp2_with fail
                  go_roundw
                  case rel =>
                    refine ⟨2, ny, ((Vi.getI l (X : Int)).1, z), by go_num, rfl, rfl, by omega, .inr (.inr ⟨rfl, G1.out, by rw [← G2.out, HGG.out], by rw [← G2.out, HGG.out], by rw [← G2.out, HGG.out]⟩), ?_, E3.out z, E1.out z, E5.out z, EBT.out z⟩
                    have e := HST.out z
                    rw [pv_set1 acc _ _ z HA.out] at e
                    exact e
                  case measure => simp [intOf]
                · have d5 : (er != 0) = true := by simp; omega
                  have cW := blk_cell (j := 0) (E1.out z)
                  simp only [List.getElem?_toArray, List.getElem?_cons_zero] at cW
                  have fW := blk_frozen 0 (E1.out z)
                  clear hG
                  go_wp2_with fail
                  refine bodyPost_ret (results_cell_row3 rfl _ _ w.heap.size 31 #[.slice none 0 0] (0, 0) _ rfl (blk_set (k := 0) (.slice none 0 0) (E1.out z)) Tryz.underlying31 rfl infoWeek) rfl ?_
                  exact wpost_err (HF.out he) ((EBT.out z).setCell (p := ⟨w.heap.size, 0, none⟩) (Nat.le_refl _) _)
              · rw [show ((2 : Nat) : Int) = 2 from rfl]
                have G1 := Lib.hid g1
                have G2 := Lib.hid g2
                have G3 := Lib.hid g3
                clear g1 g2 g3
                go_wp2_with fail
                go_roundw
                case rel =>
                  refine ⟨k + 1, Y, acc ++ [((Vi.getI l X).1, (Vi.getI l (Vi.getI l X).2.1).1)], by omega, by go_num, rfl, rfl, hY, by rw [List.length_append, HA.out]; rfl, ?_, ?_, ?_, b3, b1, hbt⟩
                  · intro z hz
                    rcases List.mem_append.1 hz with hz | hz
                    · exact hoka z hz
                    · simp at hz; subst hz; exact ⟨(getI_ok G1.out).2.2.2.2, (getI_ok G2.out).2.2.2.2⟩
                  · rw [HR.out, show N - k = (N - (k + 1)) + 1 by omega, Vi.getP, if_neg (by rw [G1.out]; simp), if_neg (by rw [G2.out]; simp), G3.out]
                  · rw [List.append_assoc]
                    exact ho
                case measure => simp [intOf]; omega
          · obtain rfl : k = N := by omega
            have d3 : decide ((k : Int) < (k : Int)) = false := by simp
            have cX := blk_cell (j := 0) b3
            simp only [List.getElem?_toArray, List.getElem?_cons_zero] at cX
            have c1 := blk_cell (j := 0) b1
            simp only [List.getElem?_toArray, List.getElem?_cons_zero] at c1
            have f1 := blk_frozen 0 b1
            go_wp2_with fail
            refine bodyPost_ret (results_cell_row3 rfl _ _ w.heap.size 31 #[.slice (some ⟨bR, 0, none⟩) k k] (0, 0) _ rfl (blk_set (k := 0) _ b1) Tryz.underlying31 rfl infoWeek) rfl ?_
            rw [Nat.sub_self, Vi.getP] at HR
            rw [HR.out]
            refine ⟨_, rfl, ?_, hbt.setCell (p := ⟨w.heap.size, 0, none⟩) (Nat.le_refl _) _⟩
            rw [Nat.sub_self, List.replicate_zero, List.append_nil] at ho
            dsimp only
            rw [HA.out]
            exact own_set ho (fun g hg => by simp [Value.ownBlock] at hg; subst hg; simp; omega)
  · have d1 : (er != 0) = true := by simp; omega
    go_wp2_with fail
    refine bodyPost_ret (results_cell_row3 rfl _ _ w.heap.size 31 #[.slice none 0 0] (0, 0) _ rfl hbl Tryz.underlying31 rfl infoWeek) rfl ?_
    refine wpost_err ?_ hbe
    rw [HR.out, HW.out, if_pos he]



end Go.Proofs.YtojbjaklngdlcaaGreatDoor
