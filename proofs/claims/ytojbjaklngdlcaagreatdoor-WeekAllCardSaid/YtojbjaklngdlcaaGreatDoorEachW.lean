/-
  The walks of each and of the closures that name elements.
-/
import Derived.Test.YtojbjaklngdlcaaGreatDoorChkW
import Derived.Test.YtojbjaklngdlcaaGreatDoorLotA
namespace Go.Proofs.YtojbjaklngdlcaaGreatDoor
open Go.RowKit Go.Shelf
set_option linter.unusedVariables false
set_option linter.unusedSimpArgs false

attribute [local go_sem] Oper.semAt_some
theorem run_equalIn_nilFunc {P : Program} {t : TypeId} {ps rs : Array TypeId} {v : Bool} (ht : P.underlying t = some (.func ps rs v)) (fn : Fn) (a b : Array Value) (d : Nat) (w : World) : (Op.equalIn (d + 1) t (.func fn a b) .nilFunc).run P w = .ok false w := by
  rw [Op.equalIn]
  simp only [Sem.run_bind, run_underlying ht, Result.andThen_ok, Sem.run_pure]
theorem run_neq_nilFunc {P : Program} {t : TypeId} {ps rs : Array TypeId} {v : Bool} (ht : P.underlying t = some (.func ps rs v)) (fn : Fn) (a b : Array Value) (w : World) : (binOp .neq t (.func fn a b) .nilFunc).run P w = .ok (.bool true) w := by
  have h := run_equalIn_nilFunc ht fn a b (Op.maxDepth - 1) w
  have e : Op.maxDepth - 1 + 1 = Op.maxDepth := rfl
  rw [e] at h
  simp [binOp, go_sem, Op.equal, h]
/-- What yield is handed: the index and the name. -/
def elY (ls : List (List UInt8)) (i : Nat) (args : Array Value) (W : World) : Prop := ∃ s, ls[i]? = some s ∧ args = #[.int .i64 (i : Int), .string (strOf s)]
/-- What a round keeps for the iterator: what lay below n. -/
def KpN (n : Nat) (A B : World) : Prop := Below n A B


theorem sname1_any (s : List UInt8) (u1 : Value) (u2 : Value) (w : World) (hu1 : u1.oneCell' = true) (hu2 : u2.oneCell' = true) :
    Calls Tryz.prog 62 #[.agg #[.string (strOf s), u1, u2]] w fun e w' => e = .returned (.string (strOf s)) ∧ Below w.heap.size w w' := by
  have hb := (Below.refl w.heap.size w).alloc (Nat.le_refl _) (.cells #[.string (strOf s), u1, u2] 84)
  go_enter Tryz.func62, Tryz.ntmps62
  go_wp2_with fail
  go_ret
  exact ⟨rfl, hb⟩


set_option maxRecDepth 100000 in
set_option maxHeartbeats 4000000 in
theorem seachL_in (l0 : Nat) (A : Option Addr) (n c : Nat) (l : List Sc.Les) (n₀ : Nat) (J Jx : Nat → World → Prop) (W : World) (h : RdS 3 Sc.RLes W n₀ A n c l) (hn₀ : n₀ ≤ W.heap.size)
    (hJ : ∀ i A B, J i A → Below A.heap.size A B → J i B)
    (hY : ∀ i args W1, i < l.length → J i W1 → elY (l.map (·.name)) i args W1 → YieldAt Fence.wide 1 Tryz.prog l0 args W1 fun e W' =>
      (e = .returned (.bool true) ∧ J (i + 1) W' ∧ KpN n₀ W1 W') ∨ (e = .returned (.bool false) ∧ Jx (i + 1) W'))
    (h0 : J 0 W) :
    Calls Tryz.prog 61 #[.slice A n c, .func (.func 62) #[] #[], .func (.yield l0) #[] #[]] W fun e W' => (∃ v, e = .returned v) ∧ (J l.length W' ∨ ∃ i, i ≤ l.length ∧ Jx i W') := by
  have h1 := h.max
  have h2 := h.le
  have hl := Lib.hid (h.len (by omega))
  have HJ := Lib.hid hJ
  have HY := Lib.hid hY
  clear hJ hY
  refine (callsIn_wide (n := 2)).1 ?_
  refine callsIn_of_wp Tryz.func61 rfl trivial ?_ rfl
  simp only [Tryz.ntmps61, List.size_toArray, List.length_cons, List.length_nil, Nat.reduceAdd, Nat.reduceSub, Array.replicate_succ, Array.replicate_zero, List.push_toArray, List.append_toArray, List.nil_append, List.cons_append]
  gi_wp2
  gi_loopw [11] (fun p wr => ∃ j : Nat, p = .int .i64 j ∧ j ≤ n ∧ J j wr ∧ RdS 3 Sc.RLes wr n₀ A n c l ∧ n₀ ≤ wr.heap.size) (fun p _ => n - (intOf p).toNat)
  case atStart => exact ⟨0, rfl, by omega, h0, h, hn₀⟩
  case round =>
    clear h h0
    obtain ⟨j, rfl, hj, hJs, h, hsz⟩ := hrel
    by_cases hjn : j < n
    · have hjl : j < l.length := by rw [hl.out]; exact hjn
      obtain ⟨ad, r, rfl, hadb, hr, hR, hc⟩ := RdS.at_ (by omega) h hjn hjl
      have d1 : decide ((j : Int) < (n : Int)) = true := by simp; omega
      have d2 : decide (j < n) = true := by simp; omega
      obtain ⟨A1, c1, A2, c2, rfl, _, _, _⟩ := hR
      clear hr
      have x0 := hc 0 _ rfl
      have x1 := hc 1 _ rfl
      have x2 := hc 2 _ rfl
      rw [Nat.add_zero] at x0
      replace x1 := cell_sub x1
      replace x2 := cell_sub x2
      clear hc
      have HYj := Lib.hid (fun W1 hj1 => HY.out j #[.int .i64 (j : Int), .string (strOf l[j].name)] W1 hjl hj1 ⟨_, by rw [List.getElem?_map, List.getElem?_eq_getElem hjl]; rfl, rfl⟩)
      generalize l[j] = x at *
      have hneq := fun w => run_neq_nilFunc (P := Tryz.prog) Tryz.underlying116 (.func 62) #[] #[] w
      gi_wp2_with fail
      refine ⟨trivial, ?_⟩
      refine CallsIn.mono (callsIn_wide.2 (sname1_any x.name _ _ _ rfl rfl)) ?_
      rintro e w2 ⟨rfl, hb⟩
      have hb2 : Below wr.heap.size wr w2 := ((Below.refl _ wr).alloc (Nat.le_refl _) _).trans (hb.mono (by simp))
      have hJ2 := HJ.out _ _ _ hJs hb2
      have h2w := h.below Sc.lasts_Les (hb2.mono hsz)
      have hsz2 : n₀ ≤ w2.heap.size := Nat.le_trans hsz hb2.size
      obtain ⟨fn, tmps, assign, body, hy, hR⟩ := HYj.out w2 hJ2
      have HR := Lib.hid hR
      clear hR HYj hb
      gi_wp2
      refine HR.out.mono ?_
      rintro e W3 (⟨rfl, hJ3, hk3⟩ | ⟨rfl, hJx3⟩)
      · have h3w := h2w.below Sc.lasts_Les hk3
        gi_wp2
        go_roundw
        case rel => exact ⟨j + 1, by go_num, by omega, hJ3, h3w, Nat.le_trans hsz2 hk3.size⟩
        case measure => simp [intOf]; omega
      · gi_wp2
        refine bodyPost_ret (results_none rfl _ _ _) rfl ?_
        exact ⟨⟨_, rfl⟩, .inr ⟨j + 1, hjl, hJx3⟩⟩
    · obtain rfl : j = n := by omega
      have d1 : decide ((j : Int) < (j : Int)) = false := by simp
      gi_wp2
      refine bodyPost_end (results_none rfl _ _ _) rfl ?_
      exact ⟨⟨_, rfl⟩, .inl (by rw [hl.out]; exact hJs)⟩


theorem sname2_any (s : List UInt8) (u1 : Value) (u2 : Value) (w : World) (hu1 : u1.oneCell' = true) (hu2 : u2.oneCell' = true) :
    Calls Tryz.prog 64 #[.agg #[.string (strOf s), u1, u2]] w fun e w' => e = .returned (.string (strOf s)) ∧ Below w.heap.size w w' := by
  have hb := (Below.refl w.heap.size w).alloc (Nat.le_refl _) (.cells #[.string (strOf s), u1, u2] 79)
  go_enter Tryz.func64, Tryz.ntmps64
  go_wp2_with fail
  go_ret
  exact ⟨rfl, hb⟩


set_option maxRecDepth 100000 in
set_option maxHeartbeats 4000000 in
theorem seachS_in (l0 : Nat) (A : Option Addr) (n c : Nat) (l : List Sc.Slo) (n₀ : Nat) (J Jx : Nat → World → Prop) (W : World) (h : RdS 3 Sc.RSlo W n₀ A n c l) (hn₀ : n₀ ≤ W.heap.size)
    (hJ : ∀ i A B, J i A → Below A.heap.size A B → J i B)
    (hY : ∀ i args W1, i < l.length → J i W1 → elY (l.map (·.name)) i args W1 → YieldAt Fence.wide 1 Tryz.prog l0 args W1 fun e W' =>
      (e = .returned (.bool true) ∧ J (i + 1) W' ∧ KpN n₀ W1 W') ∨ (e = .returned (.bool false) ∧ Jx (i + 1) W'))
    (h0 : J 0 W) :
    Calls Tryz.prog 63 #[.slice A n c, .func (.func 64) #[] #[], .func (.yield l0) #[] #[]] W fun e W' => (∃ v, e = .returned v) ∧ (J l.length W' ∨ ∃ i, i ≤ l.length ∧ Jx i W') := by
  have h1 := h.max
  have h2 := h.le
  have hl := Lib.hid (h.len (by omega))
  have HJ := Lib.hid hJ
  have HY := Lib.hid hY
  clear hJ hY
  refine (callsIn_wide (n := 2)).1 ?_
  refine callsIn_of_wp Tryz.func63 rfl trivial ?_ rfl
  simp only [Tryz.ntmps63, List.size_toArray, List.length_cons, List.length_nil, Nat.reduceAdd, Nat.reduceSub, Array.replicate_succ, Array.replicate_zero, List.push_toArray, List.append_toArray, List.nil_append, List.cons_append]
  gi_wp2
  gi_loopw [11] (fun p wr => ∃ j : Nat, p = .int .i64 j ∧ j ≤ n ∧ J j wr ∧ RdS 3 Sc.RSlo wr n₀ A n c l ∧ n₀ ≤ wr.heap.size) (fun p _ => n - (intOf p).toNat)
  case atStart => exact ⟨0, rfl, by omega, h0, h, hn₀⟩
  case round =>
    clear h h0
    obtain ⟨j, rfl, hj, hJs, h, hsz⟩ := hrel
    by_cases hjn : j < n
    · have hjl : j < l.length := by rw [hl.out]; exact hjn
      obtain ⟨ad, r, rfl, hadb, hr, hR, hc⟩ := RdS.at_ (by omega) h hjn hjl
      have d1 : decide ((j : Int) < (n : Int)) = true := by simp; omega
      have d2 : decide (j < n) = true := by simp; omega
      obtain ⟨rfl, _, _, _⟩ := hR
      clear hr
      have x0 := hc 0 _ rfl
      have x1 := hc 1 _ rfl
      have x2 := hc 2 _ rfl
      rw [Nat.add_zero] at x0
      replace x1 := cell_sub x1
      replace x2 := cell_sub x2
      clear hc
      have HYj := Lib.hid (fun W1 hj1 => HY.out j #[.int .i64 (j : Int), .string (strOf l[j].name)] W1 hjl hj1 ⟨_, by rw [List.getElem?_map, List.getElem?_eq_getElem hjl]; rfl, rfl⟩)
      generalize l[j] = x at *
      have hneq := fun w => run_neq_nilFunc (P := Tryz.prog) Tryz.underlying118 (.func 64) #[] #[] w
      gi_wp2_with fail
      refine ⟨trivial, ?_⟩
      refine CallsIn.mono (callsIn_wide.2 (sname2_any x.name _ _ _ rfl rfl)) ?_
      rintro e w2 ⟨rfl, hb⟩
      have hb2 : Below wr.heap.size wr w2 := ((Below.refl _ wr).alloc (Nat.le_refl _) _).trans (hb.mono (by simp))
      have hJ2 := HJ.out _ _ _ hJs hb2
      have h2w := h.below Sc.lasts_Slo (hb2.mono hsz)
      have hsz2 : n₀ ≤ w2.heap.size := Nat.le_trans hsz hb2.size
      obtain ⟨fn, tmps, assign, body, hy, hR⟩ := HYj.out w2 hJ2
      have HR := Lib.hid hR
      clear hR HYj hb
      gi_wp2
      refine HR.out.mono ?_
      rintro e W3 (⟨rfl, hJ3, hk3⟩ | ⟨rfl, hJx3⟩)
      · have h3w := h2w.below Sc.lasts_Slo hk3
        gi_wp2
        go_roundw
        case rel => exact ⟨j + 1, by go_num, by omega, hJ3, h3w, Nat.le_trans hsz2 hk3.size⟩
        case measure => simp [intOf]; omega
      · gi_wp2
        refine bodyPost_ret (results_none rfl _ _ _) rfl ?_
        exact ⟨⟨_, rfl⟩, .inr ⟨j + 1, hjl, hJx3⟩⟩
    · obtain rfl : j = n := by omega
      have d1 : decide ((j : Int) < (j : Int)) = false := by simp
      gi_wp2
      refine bodyPost_end (results_none rfl _ _ _) rfl ?_
      exact ⟨⟨_, rfl⟩, .inl (by rw [hl.out]; exact hJs)⟩


theorem sname3_any (s : List UInt8) (u1 : Value) (u2 : Value) (u3 : Value) (w : World) (hu1 : u1.oneCell' = true) (hu2 : u2.oneCell' = true) (hu3 : u3.oneCell' = true) :
    Calls Tryz.prog 66 #[.agg #[.string (strOf s), u1, u2, u3]] w fun e w' => e = .returned (.string (strOf s)) ∧ Below w.heap.size w w' := by
  have hb := (Below.refl w.heap.size w).alloc (Nat.le_refl _) (.cells #[.string (strOf s), u1, u2, u3] 82)
  go_enter Tryz.func66, Tryz.ntmps66
  go_wp2_with fail
  go_ret
  exact ⟨rfl, hb⟩


set_option maxRecDepth 100000 in
set_option maxHeartbeats 4000000 in
theorem seachR_in (l0 : Nat) (A : Option Addr) (n c : Nat) (l : List Sc.Roo) (n₀ : Nat) (J Jx : Nat → World → Prop) (W : World) (h : RdS 4 Sc.RRoo W n₀ A n c l) (hn₀ : n₀ ≤ W.heap.size)
    (hJ : ∀ i A B, J i A → Below A.heap.size A B → J i B)
    (hY : ∀ i args W1, i < l.length → J i W1 → elY (l.map (·.name)) i args W1 → YieldAt Fence.wide 1 Tryz.prog l0 args W1 fun e W' =>
      (e = .returned (.bool true) ∧ J (i + 1) W' ∧ KpN n₀ W1 W') ∨ (e = .returned (.bool false) ∧ Jx (i + 1) W'))
    (h0 : J 0 W) :
    Calls Tryz.prog 65 #[.slice A n c, .func (.func 66) #[] #[], .func (.yield l0) #[] #[]] W fun e W' => (∃ v, e = .returned v) ∧ (J l.length W' ∨ ∃ i, i ≤ l.length ∧ Jx i W') := by
  have h1 := h.max
  have h2 := h.le
  have hl := Lib.hid (h.len (by omega))
  have HJ := Lib.hid hJ
  have HY := Lib.hid hY
  clear hJ hY
  refine (callsIn_wide (n := 2)).1 ?_
  refine callsIn_of_wp Tryz.func65 rfl trivial ?_ rfl
  simp only [Tryz.ntmps65, List.size_toArray, List.length_cons, List.length_nil, Nat.reduceAdd, Nat.reduceSub, Array.replicate_succ, Array.replicate_zero, List.push_toArray, List.append_toArray, List.nil_append, List.cons_append]
  gi_wp2
  gi_loopw [11] (fun p wr => ∃ j : Nat, p = .int .i64 j ∧ j ≤ n ∧ J j wr ∧ RdS 4 Sc.RRoo wr n₀ A n c l ∧ n₀ ≤ wr.heap.size) (fun p _ => n - (intOf p).toNat)
  case atStart => exact ⟨0, rfl, by omega, h0, h, hn₀⟩
  case round =>
    clear h h0
    obtain ⟨j, rfl, hj, hJs, h, hsz⟩ := hrel
    by_cases hjn : j < n
    · have hjl : j < l.length := by rw [hl.out]; exact hjn
      obtain ⟨ad, r, rfl, hadb, hr, hR, hc⟩ := RdS.at_ (by omega) h hjn hjl
      have d1 : decide ((j : Int) < (n : Int)) = true := by simp; omega
      have d2 : decide (j < n) = true := by simp; omega
      obtain ⟨A1, c1, rfl, _, _, _, _⟩ := hR
      clear hr
      have x0 := hc 0 _ rfl
      have x1 := hc 1 _ rfl
      have x2 := hc 2 _ rfl
      have x3 := hc 3 _ rfl
      rw [Nat.add_zero] at x0
      replace x1 := cell_sub x1
      replace x2 := cell_sub x2
      replace x3 := cell_sub x3
      clear hc
      have HYj := Lib.hid (fun W1 hj1 => HY.out j #[.int .i64 (j : Int), .string (strOf l[j].name)] W1 hjl hj1 ⟨_, by rw [List.getElem?_map, List.getElem?_eq_getElem hjl]; rfl, rfl⟩)
      generalize l[j] = x at *
      have hneq := fun w => run_neq_nilFunc (P := Tryz.prog) Tryz.underlying120 (.func 66) #[] #[] w
      gi_wp2_with fail
      refine ⟨trivial, ?_⟩
      refine CallsIn.mono (callsIn_wide.2 (sname3_any x.name _ _ _ _ rfl rfl rfl)) ?_
      rintro e w2 ⟨rfl, hb⟩
      have hb2 : Below wr.heap.size wr w2 := ((Below.refl _ wr).alloc (Nat.le_refl _) _).trans (hb.mono (by simp))
      have hJ2 := HJ.out _ _ _ hJs hb2
      have h2w := h.below Sc.lasts_Roo (hb2.mono hsz)
      have hsz2 : n₀ ≤ w2.heap.size := Nat.le_trans hsz hb2.size
      obtain ⟨fn, tmps, assign, body, hy, hR⟩ := HYj.out w2 hJ2
      have HR := Lib.hid hR
      clear hR HYj hb
      gi_wp2
      refine HR.out.mono ?_
      rintro e W3 (⟨rfl, hJ3, hk3⟩ | ⟨rfl, hJx3⟩)
      · have h3w := h2w.below Sc.lasts_Roo hk3
        gi_wp2
        go_roundw
        case rel => exact ⟨j + 1, by go_num, by omega, hJ3, h3w, Nat.le_trans hsz2 hk3.size⟩
        case measure => simp [intOf]; omega
      · gi_wp2
        refine bodyPost_ret (results_none rfl _ _ _) rfl ?_
        exact ⟨⟨_, rfl⟩, .inr ⟨j + 1, hjl, hJx3⟩⟩
    · obtain rfl : j = n := by omega
      have d1 : decide ((j : Int) < (j : Int)) = false := by simp
      gi_wp2
      refine bodyPost_end (results_none rfl _ _ _) rfl ?_
      exact ⟨⟨_, rfl⟩, .inl (by rw [hl.out]; exact hJs)⟩


theorem sname4_any (s : List UInt8) (u1 : Value) (w : World) (hu1 : u1.oneCell' = true) :
    Calls Tryz.prog 68 #[.agg #[.string (strOf s), u1]] w fun e w' => e = .returned (.string (strOf s)) ∧ Below w.heap.size w w' := by
  have hb := (Below.refl w.heap.size w).alloc (Nat.le_refl _) (.cells #[.string (strOf s), u1] 95)
  go_enter Tryz.func68, Tryz.ntmps68
  go_wp2_with fail
  go_ret
  exact ⟨rfl, hb⟩


set_option maxRecDepth 100000 in
set_option maxHeartbeats 4000000 in
theorem seachP_in (l0 : Nat) (A : Option Addr) (n c : Nat) (l : List Sc.Per) (n₀ : Nat) (J Jx : Nat → World → Prop) (W : World) (h : RdS 2 Sc.RPer W n₀ A n c l) (hn₀ : n₀ ≤ W.heap.size)
    (hJ : ∀ i A B, J i A → Below A.heap.size A B → J i B)
    (hY : ∀ i args W1, i < l.length → J i W1 → elY (l.map (·.name)) i args W1 → YieldAt Fence.wide 1 Tryz.prog l0 args W1 fun e W' =>
      (e = .returned (.bool true) ∧ J (i + 1) W' ∧ KpN n₀ W1 W') ∨ (e = .returned (.bool false) ∧ Jx (i + 1) W'))
    (h0 : J 0 W) :
    Calls Tryz.prog 67 #[.slice A n c, .func (.func 68) #[] #[], .func (.yield l0) #[] #[]] W fun e W' => (∃ v, e = .returned v) ∧ (J l.length W' ∨ ∃ i, i ≤ l.length ∧ Jx i W') := by
  have h1 := h.max
  have h2 := h.le
  have hl := Lib.hid (h.len (by omega))
  have HJ := Lib.hid hJ
  have HY := Lib.hid hY
  clear hJ hY
  refine (callsIn_wide (n := 2)).1 ?_
  refine callsIn_of_wp Tryz.func67 rfl trivial ?_ rfl
  simp only [Tryz.ntmps67, List.size_toArray, List.length_cons, List.length_nil, Nat.reduceAdd, Nat.reduceSub, Array.replicate_succ, Array.replicate_zero, List.push_toArray, List.append_toArray, List.nil_append, List.cons_append]
  gi_wp2
  gi_loopw [11] (fun p wr => ∃ j : Nat, p = .int .i64 j ∧ j ≤ n ∧ J j wr ∧ RdS 2 Sc.RPer wr n₀ A n c l ∧ n₀ ≤ wr.heap.size) (fun p _ => n - (intOf p).toNat)
  case atStart => exact ⟨0, rfl, by omega, h0, h, hn₀⟩
  case round =>
    clear h h0
    obtain ⟨j, rfl, hj, hJs, h, hsz⟩ := hrel
    by_cases hjn : j < n
    · have hjl : j < l.length := by rw [hl.out]; exact hjn
      obtain ⟨ad, r, rfl, hadb, hr, hR, hc⟩ := RdS.at_ (by omega) h hjn hjl
      have d1 : decide ((j : Int) < (n : Int)) = true := by simp; omega
      have d2 : decide (j < n) = true := by simp; omega
      obtain ⟨A1, c1, rfl, _, _⟩ := hR
      clear hr
      have x0 := hc 0 _ rfl
      have x1 := hc 1 _ rfl
      rw [Nat.add_zero] at x0
      replace x1 := cell_sub x1
      clear hc
      have HYj := Lib.hid (fun W1 hj1 => HY.out j #[.int .i64 (j : Int), .string (strOf l[j].name)] W1 hjl hj1 ⟨_, by rw [List.getElem?_map, List.getElem?_eq_getElem hjl]; rfl, rfl⟩)
      generalize l[j] = x at *
      have hneq := fun w => run_neq_nilFunc (P := Tryz.prog) Tryz.underlying122 (.func 68) #[] #[] w
      gi_wp2_with fail
      refine ⟨trivial, ?_⟩
      refine CallsIn.mono (callsIn_wide.2 (sname4_any x.name _ _ rfl)) ?_
      rintro e w2 ⟨rfl, hb⟩
      have hb2 : Below wr.heap.size wr w2 := ((Below.refl _ wr).alloc (Nat.le_refl _) _).trans (hb.mono (by simp))
      have hJ2 := HJ.out _ _ _ hJs hb2
      have h2w := h.below Sc.lasts_Per (hb2.mono hsz)
      have hsz2 : n₀ ≤ w2.heap.size := Nat.le_trans hsz hb2.size
      obtain ⟨fn, tmps, assign, body, hy, hR⟩ := HYj.out w2 hJ2
      have HR := Lib.hid hR
      clear hR HYj hb
      gi_wp2
      refine HR.out.mono ?_
      rintro e W3 (⟨rfl, hJ3, hk3⟩ | ⟨rfl, hJx3⟩)
      · have h3w := h2w.below Sc.lasts_Per hk3
        gi_wp2
        go_roundw
        case rel => exact ⟨j + 1, by go_num, by omega, hJ3, h3w, Nat.le_trans hsz2 hk3.size⟩
        case measure => simp [intOf]; omega
      · gi_wp2
        refine bodyPost_ret (results_none rfl _ _ _) rfl ?_
        exact ⟨⟨_, rfl⟩, .inr ⟨j + 1, hjl, hJx3⟩⟩
    · obtain rfl : j = n := by omega
      have d1 : decide ((j : Int) < (j : Int)) = false := by simp
      gi_wp2
      refine bodyPost_end (results_none rfl _ _ _) rfl ?_
      exact ⟨⟨_, rfl⟩, .inl (by rw [hl.out]; exact hJs)⟩


theorem sname5_any (s : List UInt8) (u1 : Value) (w : World) (hu1 : u1.oneCell' = true) :
    Calls Tryz.prog 70 #[.agg #[.string (strOf s), u1]] w fun e w' => e = .returned (.string (strOf s)) ∧ Below w.heap.size w w' := by
  have hb := (Below.refl w.heap.size w).alloc (Nat.le_refl _) (.cells #[.string (strOf s), u1] 98)
  go_enter Tryz.func70, Tryz.ntmps70
  go_wp2_with fail
  go_ret
  exact ⟨rfl, hb⟩


set_option maxRecDepth 100000 in
set_option maxHeartbeats 4000000 in
theorem seachG_in (l0 : Nat) (A : Option Addr) (n c : Nat) (l : List Sc.Gro) (n₀ : Nat) (J Jx : Nat → World → Prop) (W : World) (h : RdS 2 Sc.RGro W n₀ A n c l) (hn₀ : n₀ ≤ W.heap.size)
    (hJ : ∀ i A B, J i A → Below A.heap.size A B → J i B)
    (hY : ∀ i args W1, i < l.length → J i W1 → elY (l.map (·.name)) i args W1 → YieldAt Fence.wide 1 Tryz.prog l0 args W1 fun e W' =>
      (e = .returned (.bool true) ∧ J (i + 1) W' ∧ KpN n₀ W1 W') ∨ (e = .returned (.bool false) ∧ Jx (i + 1) W'))
    (h0 : J 0 W) :
    Calls Tryz.prog 69 #[.slice A n c, .func (.func 70) #[] #[], .func (.yield l0) #[] #[]] W fun e W' => (∃ v, e = .returned v) ∧ (J l.length W' ∨ ∃ i, i ≤ l.length ∧ Jx i W') := by
  have h1 := h.max
  have h2 := h.le
  have hl := Lib.hid (h.len (by omega))
  have HJ := Lib.hid hJ
  have HY := Lib.hid hY
  clear hJ hY
  refine (callsIn_wide (n := 2)).1 ?_
  refine callsIn_of_wp Tryz.func69 rfl trivial ?_ rfl
  simp only [Tryz.ntmps69, List.size_toArray, List.length_cons, List.length_nil, Nat.reduceAdd, Nat.reduceSub, Array.replicate_succ, Array.replicate_zero, List.push_toArray, List.append_toArray, List.nil_append, List.cons_append]
  gi_wp2
  gi_loopw [11] (fun p wr => ∃ j : Nat, p = .int .i64 j ∧ j ≤ n ∧ J j wr ∧ RdS 2 Sc.RGro wr n₀ A n c l ∧ n₀ ≤ wr.heap.size) (fun p _ => n - (intOf p).toNat)
  case atStart => exact ⟨0, rfl, by omega, h0, h, hn₀⟩
  case round =>
    clear h h0
    obtain ⟨j, rfl, hj, hJs, h, hsz⟩ := hrel
    by_cases hjn : j < n
    · have hjl : j < l.length := by rw [hl.out]; exact hjn
      obtain ⟨ad, r, rfl, hadb, hr, hR, hc⟩ := RdS.at_ (by omega) h hjn hjl
      have d1 : decide ((j : Int) < (n : Int)) = true := by simp; omega
      have d2 : decide (j < n) = true := by simp; omega
      obtain ⟨rfl, _, _⟩ := hR
      clear hr
      have x0 := hc 0 _ rfl
      have x1 := hc 1 _ rfl
      rw [Nat.add_zero] at x0
      replace x1 := cell_sub x1
      clear hc
      have HYj := Lib.hid (fun W1 hj1 => HY.out j #[.int .i64 (j : Int), .string (strOf l[j].name)] W1 hjl hj1 ⟨_, by rw [List.getElem?_map, List.getElem?_eq_getElem hjl]; rfl, rfl⟩)
      generalize l[j] = x at *
      have hneq := fun w => run_neq_nilFunc (P := Tryz.prog) Tryz.underlying124 (.func 70) #[] #[] w
      gi_wp2_with fail
      refine ⟨trivial, ?_⟩
      refine CallsIn.mono (callsIn_wide.2 (sname5_any x.name _ _ rfl)) ?_
      rintro e w2 ⟨rfl, hb⟩
      have hb2 : Below wr.heap.size wr w2 := ((Below.refl _ wr).alloc (Nat.le_refl _) _).trans (hb.mono (by simp))
      have hJ2 := HJ.out _ _ _ hJs hb2
      have h2w := h.below Sc.lasts_Gro (hb2.mono hsz)
      have hsz2 : n₀ ≤ w2.heap.size := Nat.le_trans hsz hb2.size
      obtain ⟨fn, tmps, assign, body, hy, hR⟩ := HYj.out w2 hJ2
      have HR := Lib.hid hR
      clear hR HYj hb
      gi_wp2
      refine HR.out.mono ?_
      rintro e W3 (⟨rfl, hJ3, hk3⟩ | ⟨rfl, hJx3⟩)
      · have h3w := h2w.below Sc.lasts_Gro hk3
        gi_wp2
        go_roundw
        case rel => exact ⟨j + 1, by go_num, by omega, hJ3, h3w, Nat.le_trans hsz2 hk3.size⟩
        case measure => simp [intOf]; omega
      · gi_wp2
        refine bodyPost_ret (results_none rfl _ _ _) rfl ?_
        exact ⟨⟨_, rfl⟩, .inr ⟨j + 1, hjl, hJx3⟩⟩
    · obtain rfl : j = n := by omega
      have d1 : decide ((j : Int) < (j : Int)) = false := by simp
      gi_wp2
      refine bodyPost_end (results_none rfl _ _ _) rfl ?_
      exact ⟨⟨_, rfl⟩, .inl (by rw [hl.out]; exact hJs)⟩

end Go.Proofs.YtojbjaklngdlcaaGreatDoor
