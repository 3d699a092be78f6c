/-
  The walk of each over a list of empty structs.
-/
import Derived.Test.YtfockoihmoljfaaGreatDoorRowW
import Derived.Test.YtfockoihmoljfaaGreatDoorShelf
import Derived.Stop.RegionWithIn
namespace Go.Proofs.YtfockoihmoljfaaGreatDoor
open Go.RowKit Go.Shelf
set_option linter.unusedVariables false
set_option linter.unusedSimpArgs false
attribute [local go_sem] Oper.semAt_some
theorem run_equalIn_nilNil {P : Program} {t : TypeId} {ps rs : Array TypeId} {v : Bool} (ht : P.underlying t = some (.func ps rs v)) (d : Nat) (w : World) : (Op.equalIn (d + 1) t .nilFunc .nilFunc).run P w = .ok true w := by
  rw [Op.equalIn]
  simp only [Sem.run_bind, run_underlying ht, Result.andThen_ok, Sem.run_pure]
theorem run_neq_nilNil {P : Program} {t : TypeId} {ps rs : Array TypeId} {v : Bool} (ht : P.underlying t = some (.func ps rs v)) (w : World) : (binOp .neq t .nilFunc .nilFunc).run P w = .ok (.bool false) w := by
  have h := run_equalIn_nilNil ht (Op.maxDepth - 1) w
  have e : Op.maxDepth - 1 + 1 = Op.maxDepth := rfl
  rw [e] at h
  simp [binOp, go_sem, Op.equal, h]
/-- What a round keeps: what lay below m, two boxes, and every block of cells from n6 on. -/
def KpF (m bK bS n6 : Nat) (A B : World) : Prop := Below m A B ∧ B.heap[bK]? = A.heap[bK]? ∧ B.heap[bS]? = A.heap[bS]? ∧ ∀ (k : Nat) (cs : Array Value) (t : TypeId) (fr : Nat × Nat), n6 ≤ k → A.heap[k]? = some (.cells cs t fr) → B.heap[k]? = some (.cells cs t fr)
def dgt (i : Nat) : ByteArray := ⟨(Lib.decDigits i).toArray⟩
theorem dgt_eq {i : Nat} (h : i < 10) : dgt i = strOf [UInt8.ofNat (48 + i)] := by
  have : ∀ i < 10, Lib.decDigits i = [UInt8.ofNat (48 + i)] := by decide +kernel
  unfold dgt strOf
  rw [this i h]
theorem cat_of (l r : List UInt8) : strOf l ++ strOf r = strOf (l ++ r) := by
  apply ByteArray.ext
  rw [ByteArray.data_append]
  simp [strOf]

set_option maxRecDepth 100000 in
set_option maxHeartbeats 4000000 in
theorem seachU_in (l0 bU bW bY m bK bS n6 n : Nat) (word : List UInt8) (ls : List (List UInt8)) (hls : ls = Sc.numbered word n) (hw : word.length ≤ 90) (hn : n ≤ 8) (J Jx : Nat → World → Prop) (W : World)
    (hU : n6 ≤ bU) (hW : n6 ≤ bW) (hY6 : n6 ≤ bY) (bu : W.heap[bU]? = some (.cells #[] 137)) (b1 : W.heap[bW]? = some (.cells #[.string (strOf word)] 9)) (b2 : W.heap[bY]? = some (.cells #[.func (.yield l0) #[] #[]] 125))
    (hJ : ∀ i A B, J i A → Below A.heap.size A B → J i B)
    (hY : ∀ i args W1, i < ls.length → J i W1 → elY ls i args W1 → YieldAt Fence.wide 1 Tryz.prog l0 args W1 fun e W' =>
      (e = .returned (.bool true) ∧ J (i + 1) W' ∧ KpF m bK bS n6 W1 W') ∨ (e = .returned (.bool false) ∧ Jx (i + 1) W'))
    (h0 : J 0 W) :
    Calls Tryz.prog 98 #[.slice (some ⟨bU, 0, none⟩) n n, .nilFunc, .func (.func 127) #[] #[.pointer (some ⟨bY, 0, none⟩), .pointer (some ⟨bW, 0, none⟩)]] W fun e W' => (∃ v, e = .returned v) ∧ (J ls.length W' ∨ ∃ i, i ≤ ls.length ∧ Jx i W') := by
  have hl : ls.length = n := by rw [hls]; simp [Sc.numbered]
  rw [hl]
  have HL := Lib.hid hl
  have HLS := Lib.hid hls
  have HJ := Lib.hid hJ
  have HY := Lib.hid hY
  clear hJ hY hl hls
  refine (callsIn_wide (n := 2)).1 ?_
  refine callsIn_of_wp Tryz.func98 rfl trivial ?_ rfl
  simp only [Tryz.ntmps98, List.size_toArray, List.length_cons, List.length_nil, Nat.reduceAdd, Nat.reduceSub, Array.replicate_succ, Array.replicate_zero, List.push_toArray, List.append_toArray, List.nil_append, List.cons_append]
  gi_wp2
  gi_loopw [11] (fun p wr => ∃ j : Nat, p = .int .i64 j ∧ j ≤ n ∧ J j wr ∧ wr.heap[bU]? = some (.cells #[] 137) ∧ wr.heap[bW]? = some (.cells #[.string (strOf word)] 9) ∧ wr.heap[bY]? = some (.cells #[.func (.yield l0) #[] #[]] 125)) (fun p _ => n - (intOf p).toNat)
  case atStart => exact ⟨0, rfl, by omega, h0, bu, b1, b2⟩
  case round =>
    clear bu b1 b2 h0
    obtain ⟨j, rfl, hj, hJs, bu, b1, b2⟩ := hrel
    by_cases hjn : j < n
    · have d1 : decide ((j : Int) < (n : Int)) = true := by simp; omega
      have d2 : decide (j < n) = true := by simp; omega
      have hneq := fun w => run_neq_nilNil (P := Tryz.prog) Tryz.underlying166 w
      gi_wp2_with fail
      have hlt : j < ls.length := by rw [HL.out]; exact hjn
      have hnm : ls[j]? = some (word ++ [UInt8.ofNat (48 + j)]) := by rw [HLS.out]; unfold Sc.numbered; rw [List.getElem?_map, List.getElem?_range hjn]; rfl
      have hb1 : Below wr.heap.size wr (wr.alloc (.cells #[] 137)) := (Below.refl _ _).alloc (Nat.le_refl _) _
      have hb2 : Below wr.heap.size wr (wr.alloc (.cells #[] 137)).drew := hb1.drew
      have HYj := HY.out j #[.int .i64 (j : Int), .string (strOf (word ++ [UInt8.ofNat (48 + j)]))] _ hlt (HJ.out j _ _ hJs hb2) ⟨_, hnm, rfl⟩
      have HZ : YieldAt Fence.wide 1 Tryz.prog l0 #[.int .i64 (j : Int), .string (strOf (word ++ [UInt8.ofNat (48 + j)]))] (wr.alloc (.cells #[] 137)).drew fun e W' => ∃ b, e = .returned (.bool b) ∧ ((b = true ∧ J (j + 1) W' ∧ KpF m bK bS n6 (wr.alloc (.cells #[] 137)).drew W') ∨ (b = false ∧ Jx (j + 1) W')) := by
        obtain ⟨fn, tmps, assign, body, hq, hR⟩ := HYj
        refine ⟨fn, tmps, assign, body, hq, hR.mono ?_⟩
        rintro e W' (⟨rfl, h⟩ | ⟨rfl, h⟩)
        · exact ⟨true, rfl, .inl ⟨rfl, h⟩⟩
        · exact ⟨false, rfl, .inr ⟨rfl, h⟩⟩
      refine ⟨trivial, ?_⟩
      refine CallsIn.mono (callsIn_wide.2 (callsIn_wide.1 (srow1_in l0 bW bY j (strOf word) (strOf (word ++ [UInt8.ofNat (48 + j)])) ⟨#[]⟩ (by omega) (wr.alloc (.cells #[] 137)) (blk_below b1 hb1) (blk_below b2 hb1) (strOf [UInt8.ofNat (48 + j)]) (dgt_eq (by omega)) (cat_of _ _) ⟨by show word.length ≤ 100; omega, by show (1 : Nat) ≤ 100; omega⟩ (fun b W' => (b = true ∧ J (j + 1) W' ∧ KpF m bK bS n6 (wr.alloc (.cells #[] 137)).drew W') ∨ (b = false ∧ Jx (j + 1) W')) HZ))) ?_
      clear HZ HYj
      rintro e W3 ⟨b, rfl, (⟨rfl, hJ3, hk3⟩ | ⟨rfl, hJx3⟩)⟩
      · have bu3 := hk3.2.2.2 bU _ _ _ hU (blk_below bu hb2)
        have b13 := hk3.2.2.2 bW _ _ _ hW (blk_below b1 hb2)
        have b23 := hk3.2.2.2 bY _ _ _ hY6 (blk_below b2 hb2)
        gi_wp2
        go_roundw
        case rel => exact ⟨j + 1, by go_num, by omega, hJ3, bu3, b13, b23⟩
        case measure => simp [intOf]; omega
      · gi_wp2
        refine bodyPost_ret (results_none rfl _ _ _) rfl ?_
        exact ⟨⟨_, rfl⟩, .inr ⟨j + 1, by omega, hJx3⟩⟩
    · obtain rfl : j = n := by omega
      have d1 : decide ((j : Int) < (j : Int)) = false := by simp
      gi_wp2
      refine bodyPost_end (results_none rfl _ _ _) rfl ?_
      exact ⟨⟨_, rfl⟩, .inl hJs⟩
end Go.Proofs.YtfockoihmoljfaaGreatDoor
