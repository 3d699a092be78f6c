/-
  The walk of the iterator of elements, at whatever sort.
-/
import Derived.Test.YtfockoihmoljfaaGreatDoorUnitW
import Derived.Test.YtfockoihmoljfaaGreatDoorLotN
import Derived.Laws.MakeOwn
namespace Go.Proofs.YtfockoihmoljfaaGreatDoor
open Go.RowKit Go.Shelf
set_option linter.unusedVariables false
set_option linter.unusedSimpArgs false
attribute [local go_sem] Oper.semAt_some
theorem Iter.imp {P : Program} {g : Nat} {lb : Array Value} {St Kp Kp' : World → World → Prop} {m : Nat} {Y : Nat → Array Value → World → Prop} {w : World} (h : Iter P g lb St Kp m Y w) (hK : ∀ A B, Kp' A B → Kp A B) : Iter P g lb St Kp' m Y w := by
  intro l J Jx W hw hJ hJx hY h0
  refine h l J Jx W (hK _ _ hw) hJ hJx (fun i args W1 hi hj hy => ?_) h0
  obtain ⟨fn, tmps, assign, body, hq, hR⟩ := hY i args W1 hi hj hy
  refine ⟨fn, tmps, assign, body, hq, hR.mono ?_⟩
  rintro e W' (⟨rfl, h1, h2⟩ | h1)
  · exact .inl ⟨rfl, h1, hK _ _ h2⟩
  · exact .inr h1

theorem infoUnit : (Tryz.prog.info? 137).map (fun i => (i.zero, i.size, i.bytes)) = some (some (.agg #[]), 0, 0) := by kernel_rfl
set_option maxRecDepth 100000 in
theorem run_units (n : Nat) (hn : n ≤ 100) (w : World) : (Instr.makeSlice 138 (.int .i64 (n : Int)) (.int .i64 (n : Int))).run Tryz.prog w = .ok (.slice (some ⟨w.heap.size, 0, none⟩) n n) (w.alloc (.cells #[] 137)) := by
  obtain ⟨i, hi, e⟩ := Option.map_eq_some_iff.1 infoUnit
  injection e with e1 e2
  injection e2 with e2 e3
  have h := run_make (P := Tryz.prog) w 138 137 i (.agg #[]) Tryz.underlying138 hi e1 .i64 .i64 (n : Int) (n : Int) (by omega) (by omega) (by rw [e3]; omega) (by omega)
  rw [h, e2]
  have e : madeCells (Value.agg #[]).cells ((n : Int).toNat * 0) = #[] := by rw [Nat.mul_zero]; exact Array.eq_empty_of_size_eq_zero (size_madeCells _ _)
  rw [e]; rfl

theorem three_blocks (W : World) (a b c : Obj) : (((W.alloc a).alloc b).alloc c).drew.heap[W.heap.size]? = some a ∧ (((W.alloc a).alloc b).alloc c).drew.heap[W.heap.size + 1]? = some b ∧ (((W.alloc a).alloc b).alloc c).drew.heap[W.heap.size + 1 + 1]? = some c ∧ Below W.heap.size W (((W.alloc a).alloc b).alloc c).drew := by
  have s1 : (W.alloc a).heap.size = W.heap.size + 1 := World.size_alloc _ _
  have s2 : ((W.alloc a).alloc b).heap.size = W.heap.size + 1 + 1 := by rw [World.size_alloc, s1]
  have hb : Below W.heap.size W (((W.alloc a).alloc b).alloc c) := (((Below.refl _ W).alloc (Nat.le_refl _) a).alloc (by rw [s1]; omega) b).alloc (by rw [s2]; omega) c
  refine ⟨?_, ?_, ?_, hb.drew⟩
  · show (((W.alloc a).alloc b).alloc c).heap[W.heap.size]? = _
    rw [Below.heap_alloc _ _ _ (by rw [s2]; omega), Below.heap_alloc _ _ _ (by rw [s1]; omega)]
    exact World.alloc_heap_new W a
  · show (((W.alloc a).alloc b).alloc c).heap[W.heap.size + 1]? = _
    rw [Below.heap_alloc _ _ _ (by rw [s2]; omega), ← s1]
    exact World.alloc_heap_new _ b
  · show (((W.alloc a).alloc b).alloc c).heap[W.heap.size + 1 + 1]? = _
    rw [← s2]
    exact World.alloc_heap_new _ c

set_option maxRecDepth 100000 in
set_option maxHeartbeats 4000000 in
theorem elements1_iter6 (bK bS m : Nat) (w : World) (b1 : w.heap[bK]? = some (.cells #[.int .i64 6] 3)) (hm : m ≤ w.heap.size) :
    Iter Tryz.prog 87 #[.pointer (some ⟨bK, 0, none⟩), .pointer (some ⟨bS, 0, none⟩)] (fun A B => Below A.heap.size A B) (KpF m bK bS w.heap.size) Sc.days.length (elY Sc.days) w := by
  intro l0 J Jx W hKw hJ hJx hY h0
  have b1 := hKw.2.1.trans b1
  have hsz : w.heap.size ≤ W.heap.size := hKw.1.size
  have HE : Hid (∀ (p q r : Nat) (X : World), W.heap.size ≤ p → W.heap.size ≤ q → W.heap.size ≤ r → X.heap[p]? = some (.cells #[] 137) → X.heap[q]? = some (.cells #[.string (strOf [100, 97, 121])] 9) → X.heap[r]? = some (.cells #[.func (.yield l0) #[] #[]] 125) → Below W.heap.size W X →
      Calls Tryz.prog 98 #[.slice (some ⟨p, 0, none⟩) 7 7, .nilFunc, .func (.func 127) #[] #[.pointer (some ⟨r, 0, none⟩), .pointer (some ⟨q, 0, none⟩)]] X fun e W' => (∃ v, e = .returned v) ∧ (J Sc.days.length W' ∨ ∃ i, i ≤ Sc.days.length ∧ Jx i W')) := fun p q r X hp hq hr h1 h2 h3 hb =>
    seachU_in l0 p q r m bK bS w.heap.size 7 [100, 97, 121] Sc.days rfl (by decide) (by omega) J Jx X (by omega) (by omega) (by omega) h1 h2 h3 hJ hY (hJ 0 _ _ h0 hb)
  clear hJ hJx hY hKw h0
  have c0 := blk_cell (j := 0) b1
  simp only [List.getElem?_toArray, List.getElem?_cons_zero, List.getElem?_cons_succ] at c0
  refine callsIn_of_wp Tryz.func87 rfl trivial ?_ rfl
  simp only [Tryz.ntmps87, List.size_toArray, List.length_cons, List.length_nil, Nat.reduceAdd, Nat.reduceSub, Array.replicate_succ, Array.replicate_zero, List.push_toArray, List.append_toArray, List.nil_append, List.cons_append]
  have hm7 : ∀ w, (Instr.makeSlice 138 (.int .i64 7) (.int .i64 7)).run Tryz.prog w = .ok (.slice (some ⟨w.heap.size, 0, none⟩) 7 7) (w.alloc (.cells #[] 137)) := fun w => run_units 7 (by omega) w
  have T1 := Lib.hid (three_blocks W (.cells #[] 137) (.cells #[.string (strOf [100, 97, 121])] 9) (.cells #[.func (.yield l0) #[] #[]] 125))
  have T2 := Lib.hid (three_blocks W (.cells #[.string (strOf [100, 97, 121])] 9) (.cells #[.func (.yield l0) #[] #[]] 125) (.cells #[] 137))
  gi_wp2
  gi_region_with (first | (refine ⟨trivial, CallsIn.mono (callsIn_wide.2 (srow_any _ _ rfl _)) ?_⟩; rintro e w' ⟨rfl, rfl⟩) | (refine ⟨trivial, CallsIn.mono (callsIn_wide.2 (HE.out _ _ _ _ (by omega) (by omega) (by omega) T1.out.1 T1.out.2.1 T1.out.2.2.1 T1.out.2.2.2)) ?_⟩; rintro e w' ⟨⟨v, rfl⟩, hend⟩) | (refine ⟨trivial, CallsIn.mono (callsIn_wide.2 (HE.out _ _ _ _ (by omega) (by omega) (by omega) T2.out.2.2.1 T2.out.1 T2.out.2.1 T2.out.2.2.2)) ?_⟩; rintro e w' ⟨⟨v, rfl⟩, hend⟩))
  all_goals gi_wp2
  all_goals (refine bodyPost_end (results_none rfl _ _ _) rfl ?_; exact ⟨⟨_, rfl⟩, hend⟩)

set_option maxRecDepth 100000 in
set_option maxHeartbeats 4000000 in
theorem elements1_iter7 (bK bS m : Nat) (w : World) (b1 : w.heap[bK]? = some (.cells #[.int .i64 7] 3)) (hm : m ≤ w.heap.size) :
    Iter Tryz.prog 87 #[.pointer (some ⟨bK, 0, none⟩), .pointer (some ⟨bS, 0, none⟩)] (fun A B => Below A.heap.size A B) (KpF m bK bS w.heap.size) Sc.houses.length (elY Sc.houses) w := by
  intro l0 J Jx W hKw hJ hJx hY h0
  have b1 := hKw.2.1.trans b1
  have hsz : w.heap.size ≤ W.heap.size := hKw.1.size
  have HE : Hid (∀ (p q r : Nat) (X : World), W.heap.size ≤ p → W.heap.size ≤ q → W.heap.size ≤ r → X.heap[p]? = some (.cells #[] 137) → X.heap[q]? = some (.cells #[.string (strOf [104, 111, 117, 115, 101])] 9) → X.heap[r]? = some (.cells #[.func (.yield l0) #[] #[]] 125) → Below W.heap.size W X →
      Calls Tryz.prog 98 #[.slice (some ⟨p, 0, none⟩) 8 8, .nilFunc, .func (.func 127) #[] #[.pointer (some ⟨r, 0, none⟩), .pointer (some ⟨q, 0, none⟩)]] X fun e W' => (∃ v, e = .returned v) ∧ (J Sc.houses.length W' ∨ ∃ i, i ≤ Sc.houses.length ∧ Jx i W')) := fun p q r X hp hq hr h1 h2 h3 hb =>
    seachU_in l0 p q r m bK bS w.heap.size 8 [104, 111, 117, 115, 101] Sc.houses rfl (by decide) (by omega) J Jx X (by omega) (by omega) (by omega) h1 h2 h3 hJ hY (hJ 0 _ _ h0 hb)
  clear hJ hJx hY hKw h0
  have c0 := blk_cell (j := 0) b1
  simp only [List.getElem?_toArray, List.getElem?_cons_zero, List.getElem?_cons_succ] at c0
  refine callsIn_of_wp Tryz.func87 rfl trivial ?_ rfl
  simp only [Tryz.ntmps87, List.size_toArray, List.length_cons, List.length_nil, Nat.reduceAdd, Nat.reduceSub, Array.replicate_succ, Array.replicate_zero, List.push_toArray, List.append_toArray, List.nil_append, List.cons_append]
  have hm7 : ∀ w, (Instr.makeSlice 138 (.int .i64 8) (.int .i64 8)).run Tryz.prog w = .ok (.slice (some ⟨w.heap.size, 0, none⟩) 8 8) (w.alloc (.cells #[] 137)) := fun w => run_units 8 (by omega) w
  have T1 := Lib.hid (three_blocks W (.cells #[] 137) (.cells #[.string (strOf [104, 111, 117, 115, 101])] 9) (.cells #[.func (.yield l0) #[] #[]] 125))
  have T2 := Lib.hid (three_blocks W (.cells #[.string (strOf [104, 111, 117, 115, 101])] 9) (.cells #[.func (.yield l0) #[] #[]] 125) (.cells #[] 137))
  gi_wp2
  gi_region_with (first | (refine ⟨trivial, CallsIn.mono (callsIn_wide.2 (srow_any _ _ rfl _)) ?_⟩; rintro e w' ⟨rfl, rfl⟩) | (refine ⟨trivial, CallsIn.mono (callsIn_wide.2 (HE.out _ _ _ _ (by omega) (by omega) (by omega) T1.out.1 T1.out.2.1 T1.out.2.2.1 T1.out.2.2.2)) ?_⟩; rintro e w' ⟨⟨v, rfl⟩, hend⟩) | (refine ⟨trivial, CallsIn.mono (callsIn_wide.2 (HE.out _ _ _ _ (by omega) (by omega) (by omega) T2.out.2.2.1 T2.out.1 T2.out.2.1 T2.out.2.2.2)) ?_⟩; rintro e w' ⟨⟨v, rfl⟩, hend⟩))
  all_goals gi_wp2
  all_goals (refine bodyPost_end (results_none rfl _ _ _) rfl ?_; exact ⟨⟨_, rfl⟩, hend⟩)

set_option maxRecDepth 100000 in
set_option maxHeartbeats 4000000 in
theorem elements1_iter0 (bK bS m : Nat) (k : Int) (w : World) (b1 : w.heap[bK]? = some (.cells #[.int .i64 k] 3)) (hk : k < 1 ∨ 7 < k) (hm : m ≤ w.heap.size) :
    Iter Tryz.prog 87 #[.pointer (some ⟨bK, 0, none⟩), .pointer (some ⟨bS, 0, none⟩)] (fun A B => Below A.heap.size A B) (KpF m bK bS w.heap.size) 0 (elY []) w := by
  intro l0 J Jx W hKw hJ hJx hY h0
  have b1 := hKw.2.1.trans b1
  clear hJ hJx hY hKw
  have c0 := blk_cell (j := 0) b1
  simp only [List.getElem?_toArray, List.getElem?_cons_zero, List.getElem?_cons_succ] at c0
  have d1 : (k == 1) = false := by simp; omega
  have d2 : (k == 2) = false := by simp; omega
  have d3 : (k == 3) = false := by simp; omega
  have d4 : (k == 4) = false := by simp; omega
  have d5 : (k == 5) = false := by simp; omega
  have d6 : (k == 6) = false := by simp; omega
  have d7 : (k == 7) = false := by simp; omega
  refine callsIn_of_wp Tryz.func87 rfl trivial ?_ rfl
  simp only [Tryz.ntmps87, List.size_toArray, List.length_cons, List.length_nil, Nat.reduceAdd, Nat.reduceSub, Array.replicate_succ, Array.replicate_zero, List.push_toArray, List.append_toArray, List.nil_append, List.cons_append]
  gi_wp2_with fail
  refine bodyPost_end (results_none rfl _ _ _) rfl ?_
  exact ⟨⟨_, rfl⟩, .inl h0⟩
/-- The iterator of elements, at whatever sort: it yields the names in order. -/
theorem elements_iter (bK bS m : Nat) (k : Int) (f : Sc.Five) (s : Sc.Sch) (w : World) (b1 : w.heap[bK]? = some (.cells #[.int .i64 k] 3)) (b2 : w.heap[bS]? = some (.cells f.vals 28)) (h : Sc.RdSch w m f s) (hm : m ≤ w.heap.size) :
    Iter Tryz.prog 87 #[.pointer (some ⟨bK, 0, none⟩), .pointer (some ⟨bS, 0, none⟩)] (fun A B => Below A.heap.size A B) (KpF m bK bS w.heap.size) (Sc.names s k).length (elY (Sc.names s k)) w := by
  by_cases h1 : 1 ≤ k ∧ k ≤ 5
  · exact (elements1_iter bK bS m k f s w b1 b2 h hm h1.1 h1.2).imp fun A B hk => ⟨hk.1, hk.2.1, hk.2.2.1⟩
  · by_cases h6 : k = 6
    · subst h6; exact elements1_iter6 bK bS m w b1 hm
    · by_cases h7 : k = 7
      · subst h7; exact elements1_iter7 bK bS m w b1 hm
      · have e : Sc.names s k = [] := by
          unfold Sc.names
          rw [if_neg (by omega), if_neg (by omega), if_neg (by omega), if_neg (by omega), if_neg (by omega), if_neg (by omega), if_neg (by omega)]
        rw [e]
        exact elements1_iter0 bK bS m k w b1 (by omega) hm
end Go.Proofs.YtfockoihmoljfaaGreatDoor
