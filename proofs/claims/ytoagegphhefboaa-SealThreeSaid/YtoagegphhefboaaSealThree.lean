/-
  SealThree: for every three byte slices the law returns true and the slices read as before. No condition.
-/
import Derived.Test.YtoagegphhefboaaLiveW
import Derived.Test.YtoagegphhefboaaExt
import Derived.Deep.RegionHeld3
namespace Go.Proofs.Ytoagegphhefboaa
open Go.RowKit
set_option linter.unusedVariables false

theorem xor3_snoc (a b c : List UInt8) (k : Nat) (ha : k < a.length) (hb : k < b.length) (hc : k < c.length) :
    Crc.xor3 (a.take (k + 1)) (b.take (k + 1)) (c.take (k + 1)) = Crc.xor3 (a.take k) (b.take k) (c.take k) ++ [a[k] ^^^ b[k] ^^^ c[k]] := by
  rw [List.take_succ_eq_append_getElem ha, List.take_succ_eq_append_getElem hb, List.take_succ_eq_append_getElem hc]
  unfold Crc.xor3
  rw [List.zip_append (by rw [List.length_take, List.length_take]; omega), List.zip_append (by simp [List.length_zip, List.length_take]; omega), List.map_append]
  rfl
theorem xor3_length (a b c : List UInt8) (k : Nat) (ha : k ≤ a.length) (hb : k ≤ b.length) (hc : k ≤ c.length) :
    (Crc.xor3 (a.take k) (b.take k) (c.take k)).length = k := by
  unfold Crc.xor3
  simp [List.length_zip, List.length_take]; omega
theorem bits_xor3 (x y z : UInt8) : bits .xor .u8 (bits .xor .u8 (x.toNat : Int) (y.toNat : Int)) (z.toNat : Int) = (((x ^^^ y ^^^ z).toNat : Nat) : Int) := by
  have hx := x.toNat_lt
  have hy := y.toNat_lt
  have hz := z.toNat_lt
  rw [u8_xor_nat _ _ (by omega) (by omega), u8_xor_nat _ _ (Nat.xor_lt_two_pow (n := 8) (by omega) (by omega)) (by omega), UInt8.toNat_xor, UInt8.toNat_xor]

def min3 (a b c : Nat) : Nat := min a (min b c)
theorem min3_le (a b c : Nat) : min3 a b c ≤ a ∧ min3 a b c ≤ b ∧ min3 a b c ≤ c := by unfold min3; omega
theorem run_min3 {P : Program} (w : World) (ts : Array TypeId) (t : TypeId) (k : IntKind) (a b c : Nat) :
    (Builtin.min_ ts t #[.int k (a : Int), .int k (b : Int), .int k (c : Int)]).run P w = .ok (.int k ((min3 a b c : Nat) : Int)) w := by
  have h : (Builtin.min_ ts t #[.int k (a : Int), .int k (b : Int), .int k (c : Int)]).run P w = .ok (.int k (if (c : Int) < (if (b : Int) < a then (b : Int) else a) then (c : Int) else (if (b : Int) < a then (b : Int) else a))) w := by
    simp [Builtin.min_, Builtin.min2]
  rw [h]
  congr 2
  unfold min3
  split <;> split <;> omega

set_option maxHeartbeats 2000000 in
theorem sealThree_walk (A1 A2 A3 : Option Addr) (n1 c1 n2 c2 n3 c3 : Nat) (l1 l2 l3 : List UInt8) (w : World) (h1 : RdB w w.heap.size A1 n1 c1 l1) (h2 : RdB w w.heap.size A2 n2 c2 l2) (h3 : RdB w w.heap.size A3 n3 c3 l3) :
    Calls Try.prog 6 #[.slice A1 n1 c1, .slice A2 n2 c2, .slice A3 n3 c3] w fun e w' => e = .returned (.bool true) ∧ Below w.heap.size w w' := by
  have m1 := h1.max
  have m2 := h2.max
  have m3 := h3.max
  have le1 := h1.le
  have le2 := h2.le
  have le3 := h3.le
  have L1 := Lib.hid h1.len
  have L2 := Lib.hid h2.len
  have L3 := Lib.hid h3.len
  go_enter Try.func6, Try.ntmps6
  go_wp2_with fail
  refine (live2_any w).mono ?_
  rintro e w1 ⟨rfl, hb1⟩
  have hmin := fun (w : World) => run_min3 (P := Try.prog) w #[3, 3, 3] 3 .i64 n1 n2 n3
  have hml := min3_le n1 n2 n3
  generalize min3 n1 n2 n3 = m at hmin hml
  obtain ⟨q1, q2, q3⟩ := hml
  by_cases hbig : 2000 < m
  · go_wp2_with fail
    go_ret
    exact ⟨rfl, hb1⟩
  · have g1 := (h1.below hb1).more hb1.size
    have g2 := (h2.below hb1).more hb1.size
    have g3 := (h3.below hb1).more hb1.size
    go_wp2_with fail
    clear hmin
    go_loopw [8, 22] (fun v i wr => ∃ k : Nat, k ≤ m ∧ i = .int .i64 k ∧ wr.ownsRow w1.heap.size 5 1 v k (bv (Crc.xor3 (l1.take k) (l2.take k) (l3.take k))) ∧ Below w1.heap.size w1 wr) (fun _ i _ => m - (intOf i).toNat)
    case atStart => exact ⟨0, by omega, rfl, World.ownsRow_nil _ _ _ _, Below.refl _ _⟩
    case round =>
      obtain ⟨k, hk, rfl, hown, hB⟩ := hrel
      by_cases hlt : k < m
      · have e1 : k < l1.length := by rw [L1.out]; omega
        have e2 : k < l2.length := by rw [L2.out]; omega
        have e3 : k < l3.length := by rw [L3.out]; omega
        obtain ⟨ad1, rfl, bl1, cc1⟩ := (g1.at_ (show k < n1 by omega) e1)
        obtain ⟨ad2, rfl, bl2, cc2⟩ := (g2.at_ (show k < n2 by omega) e2)
        obtain ⟨ad3, rfl, bl3, cc3⟩ := (g3.at_ (show k < n3 by omega) e3)
        have hkeep : Hid (∀ W, Below w1.heap.size w1 W → W.cell? (ad1.add k) = some (.int .u8 (l1[k].toNat : Int)) ∧ W.cell? (ad2.add k) = some (.int .u8 (l2[k].toNat : Int)) ∧ W.cell? (ad3.add k) = some (.int .u8 (l3[k].toNat : Int))) := fun W hW =>
          ⟨(hW.cell (by rw [add_block]; exact bl1)).trans cc1, (hW.cell (by rw [add_block]; exact bl2)).trans cc2, (hW.cell (by rw [add_block]; exact bl3)).trans cc3⟩
        obtain ⟨cc1, cc2, cc3⟩ := hkeep.out wr hB
        have hlt0 := own_lt hown
        have hsn := Lib.hid (xor3_snoc l1 l2 l3 k e1 e2 e3)
        have hxb := Lib.hid (bits_xor3 l1[k] l2[k] l3[k])
        generalize l1[k] = x1 at *
        generalize l2[k] = x2 at *
        generalize l3[k] = x3 at *
        go_wp2_with fail
        have i0 : (0 : Int) ≤ (k : Int) := by omega
        have i1 : (k : Int) < (n1 : Int) := by omega
        have i2 : (k : Int) < (n2 : Int) := by omega
        have i3 : (k : Int) < (n3 : Int) := by omega
        go_region_held3 (fun w' => w'.cell? (ad1.add k) = some (.int .u8 (x1.toNat : Int)) ∧ w'.cell? (ad2.add k) = some (.int .u8 (x2.toNat : Int)) ∧ w'.cell? (ad3.add k) = some (.int .u8 (x3.toNat : Int)))
          (first | go_keep | exact hkeep.out _ (((hB.alloc hB.size _).drew).grown hg2 (by simp; have := hB.size; omega) hlt0)) ((refine step_app (v := u8) _ _ elB (by rfl) (by rfl) (by rfl) (by rfl) (by exact own_drew (hown.alloc _)) (by exact Rd.drew (Rd.one _ _ _)) (by simp [Value.oneCell']) (by omega) (by omega) (by simp; have := hB.size; omega) ?_; intro v2 w2 hown2 hg2 hat2))
        have hB2 : Below w1.heap.size w1 w2 := ((hB.alloc hB.size _).drew).grown hg2 (by simp; have := hB.size; omega) hlt0
        have hown3 : Hid (w2.ownsRow w1.heap.size 5 1 v2 (k + 1) (bv (Crc.xor3 (l1.take (k + 1)) (l2.take (k + 1)) (l3.take (k + 1))))) := by
          show World.ownsRow _ _ _ _ _ _ _
          rw [hsn.out, bv_append]
          have e : bv [x1 ^^^ x2 ^^^ x3] = [.int .u8 (bits .xor .u8 (bits .xor .u8 (x1.toNat : Int) (x2.toNat : Int)) (x3.toNat : Int))] := by
            rw [hxb.out]; rfl
          rw [e]
          exact hown2
        clear hown2 hg2 hat2 hown
        go_wp2
        go_roundw
        case rel => exact ⟨k + 1, by omega, by go_num, hown3.out, hB2⟩
        case measure => simp [intOf]; omega
      · obtain rfl : k = m := by omega
        obtain ⟨A4, c4, rfl, hr4⟩ := own_rdB hown
        have f1 := ((g1.below hB).more hB.size).upto q1
        have f2 := ((g2.below hB).more hB.size).upto q2
        have f3 := ((g3.below hB).more hB.size).upto q3
        have hfin := Crc.crc_three (l1.take k) (l2.take k) (l3.take k) (by rw [List.length_take, List.length_take, L1.out, L2.out]; omega) (by rw [List.length_take, List.length_take, L2.out, L3.out]; omega)
        have Hfin := Lib.hid hfin
        clear hfin
        generalize Crc.xor3 (l1.take k) (l2.take k) (l3.take k) = y at *
        generalize l1.take k = y1 at *
        generalize l2.take k = y2 at *
        generalize l3.take k = y3 at *
        go_wp2_with fail
        refine wp_region_ext wr.heap.size (by kernel_rfl) (by kernel_rfl) ?_
        repeat (go_big_quiet_step (first
          | (go_at_call 13; (with_reducible refine ext_call (Nat.le_refl _) (sum_any _ _ _ _ _ (hr4.ext _ (Nat.le_refl _)))))
          | (go_at_call 13; (with_reducible refine ext_call (Nat.le_refl _) (sum_any _ _ _ _ _ (f1.ext _ (Nat.le_refl _)))))
          | (go_at_call 13; (with_reducible refine ext_call (Nat.le_refl _) (sum_any _ _ _ _ _ (f2.ext _ (Nat.le_refl _)))))
          | (go_at_call 13; (with_reducible refine ext_call (Nat.le_refl _) (sum_any _ _ _ _ _ (f3.ext _ (Nat.le_refl _)))))))
        refine wpQuiet_nil ?_
        rintro _ ⟨⟨W, hW⟩, rfl⟩
        have hBB := (hb1.trans (hB.mono hb1.size)).trans (hW.mono (Nat.le_trans hb1.size hB.size))
        go_wp2
        go_ret
        refine ⟨ret_bool ?_, hBB⟩
        rw [bits_xor_u32 _ _ (Crc.crc_lt y1) (Crc.crc_lt y2), bits_xor_u32 _ _ (Crc.xor_lt32 (Crc.crc_lt y1) (Crc.crc_lt y2)) (Crc.crc_lt y3), Hfin.out]
        simp
end Go.Proofs.Ytoagegphhefboaa
