/-
  JournalNext, walked.
-/
import Derived.Test.YtfacdoemgalodaaLive34
import Derived.Test.YtfacdoemgalodaaFewW
namespace Go.Proofs.Ytfacdoemgalodaa
open Go.RowKit
set_option linter.unusedVariables false
set_option linter.unusedSimpArgs false

/-- A builtin append, once it is known what it does. -/
theorem wp_append {P : Program} {o : Oper} {a : Act} {K : Act → World → Prop} {Q : Exit → Act → World → Prop} {w w' : World} {ts : Array TypeId} {vs vx v' : Value} (s x : Operand)
    (ho : o.op = .call { callee := .builtin .append, args := #[s, x], argTypes := ts }) (hs : a.eval s = vs) (hx : a.eval x = vx)
    (hrun : (Builtin.append_ ts o.type #[vs, vx]).run P w = .ok v' w') (h : K (a.put o.dst v') w') : o.wp P a w K Q := by
  unfold Oper.wp execOp
  simp only [ho, resolve, invoke, builtin, Sem.run_bind, Sem.run_pure, Result.andThen_ok, List.map_toArray, List.map_cons, List.map_nil, hs, hx, hrun]
  exact h
theorem vcells_one (vs : List Ver) (ss : List Value) (h : ∀ s ∈ ss, s.oneCell' = true) : ∀ u ∈ (vs.zip ss).flatMap (fun x => vcell x.1 x.2), u.oneCell' = true := by
  intro u hu
  obtain ⟨⟨v, s⟩, hm, hu⟩ := List.mem_flatMap.1 hu
  have hs := h s (List.of_mem_zip hm).2
  simp [vcell] at hu
  rcases hu with rfl | rfl | rfl | rfl
  · rfl
  · exact hs
  · rfl
  · rfl
theorem RdV.slices {w : World} {B : Nat} {vs : List Ver} {ss : List Value} (hl : ss.length = vs.length) (h : ∀ (i : Nat) (v : Ver) (s : Value), vs[i]? = some v → ss[i]? = some s → ∃ A' c', s = .slice A' v.week.length c' ∧ RdP w B A' v.week.length c' v.week ∧ okI v.no ∧ okI v.cost) : ∀ s ∈ ss, s.oneCell' = true := by
  intro s hs
  obtain ⟨i, hi, rfl⟩ := List.getElem_of_mem hs
  obtain ⟨A', c', e, _⟩ := h i _ _ (List.getElem?_eq_getElem (by omega)) (List.getElem?_eq_getElem hi)
  rw [e]; rfl
/-- The versions read, and one more. -/
theorem RdV.snoc {w w' : World} {B base : Nat} {vs : List Ver} {ss : List Value} {v : Ver} {E : Option Addr} {ce : Nat} {v' : Value} (hl : ss.length = vs.length)
    (h : ∀ (i : Nat) (v : Ver) (s : Value), vs[i]? = some v → ss[i]? = some s → ∃ A' c', s = .slice A' v.week.length c' ∧ RdP w B A' v.week.length c' v.week ∧ okI v.no ∧ okI v.cost)
    (hv : RdP w B E v.week.length ce v.week) (hv1 : okI v.no) (hv2 : okI v.cost) (hb : Below B w w') (hB : B ≤ w'.heap.size)
    (ho : w'.ownsRow base 42 4 v' (vs.length + 1) (((vs.zip ss).flatMap fun x => vcell x.1 x.2) ++ vcell v (.slice E v.week.length ce))) :
    ∃ A' c', v' = .slice A' (vs.length + 1) c' ∧ RdV w' w'.heap.size A' (vs.length + 1) c' (vs ++ [v]) := by
  obtain ⟨A', c', e, hr⟩ := own_rdK ho
  refine ⟨A', c', e, ss ++ [.slice E v.week.length ce], by simp [hl], ?_, fun i u s hi hs => ?_⟩
  · rw [List.zip_append (by omega), List.flatMap_append]
    simpa using hr
  · rcases Nat.lt_or_ge i vs.length with hlt | hge
    · rw [List.getElem?_append_left hlt] at hi
      rw [List.getElem?_append_left (by omega)] at hs
      obtain ⟨A1, c1, e1, p1, p2⟩ := h i u s hi hs
      exact ⟨A1, c1, e1, (p1.below hb).more hB, p2⟩
    · rw [List.getElem?_append_right hge] at hi
      rw [List.getElem?_append_right (by omega)] at hs
      have h0 : i - vs.length = 0 := by
        rcases Nat.eq_zero_or_pos (i - vs.length) with h0 | h0
        · exact h0
        · rw [List.getElem?_eq_none (by simp; omega)] at hi; cases hi
      rw [h0] at hi
      rw [hl, h0] at hs
      simp at hi hs
      subst hi hs
      exact ⟨E, ce, rfl, (hv.below hb).more hB, hv1, hv2⟩

set_option maxRecDepth 100000 in
set_option maxHeartbeats 4000000 in
theorem journalNext_any (A : Option Addr) (n c : Nat) (s : List UInt8) (B : Option Addr) (m d : Nat) (o : List UInt8) (v : Ver) (E : Option Addr) (ce : Nat) (w : World) (h : RdB w w.heap.size A n c s) (h' : RdB w w.heap.size B m d o) (hn : n ≤ 140737488355328) (hm : m ≤ 140737488355328) (hv : RdP w w.heap.size E v.week.length ce v.week) (hv1 : okI v.no) (hv2 : okI v.cost) :
    Calls Try.prog 6 #[.agg #[.slice A n c, .slice B m d], .agg #[.int .i64 v.no, .slice E v.week.length ce, .int .i64 v.cost, .bool v.best]] w fun e w' => e = .returned (.bool true) ∧ Below w.heap.size w w' := by
  have h1 := h.max
  have h2 := h.le
  have h3 := h'.max
  have h4 := h'.le
  have hbt := Below.refl w.heap.size w
  have hsl := Lib.hid h.len
  have hol := Lib.hid h'.len
  obtain ⟨V1, hV⟩ : ∃ V1, V1 = w.alloc (.cells #[.slice A n c, .slice B m d] 24) := ⟨_, rfl⟩
  have b1 := blk_new hV
  have hb := below_new hV
  replace h := (h.below hb).more hb.size
  replace h' := (h'.below hb).more hb.size
  replace hv := (hv.below hb).more hb.size
  replace hbt := hbt.trans (hb.mono hbt.size)
  clear hb
  have HSV1 : Hid (V1.heap.size = w.heap.size + 1) := by show V1.heap.size = _; rw [hV, World.size_alloc]
  have HVV1 := Lib.hid hV.symm
  clear hV
  obtain ⟨V2, hV⟩ : ∃ V2, V2 = V1.alloc (.cells #[.int .i64 v.no, .slice E v.week.length ce, .int .i64 v.cost, .bool v.best] 42) := ⟨_, rfl⟩
  have b3 := blk_new hV
  have hb := below_new hV
  replace h := (h.below hb).more hb.size
  replace h' := (h'.below hb).more hb.size
  replace hv := (hv.below hb).more hb.size
  replace b1 := blk_below b1 hb
  replace hbt := hbt.trans (hb.mono hbt.size)
  clear hb
  have HSV2 : Hid (V2.heap.size = V1.heap.size + 1) := by show V2.heap.size = _; rw [hV, World.size_alloc]
  have HVV2 := Lib.hid hV.symm
  clear hV
  rw [HSV1.out] at b3
  rw [← HVV1.out] at HVV2
  go_enter Try.func6, Try.ntmps6
  go_wp2_with fail
  rw [HVV2.out]
  clear HVV2 HVV1 HSV1 HSV2
  refine (live_any V2).mono ?_
  rintro e w1 ⟨rfl, hb⟩
  replace h := (h.below hb).more hb.size
  replace h' := (h'.below hb).more hb.size
  replace hv := (hv.below hb).more hb.size
  replace b1 := blk_below b1 hb
  replace b3 := blk_below b3 hb
  replace hbt := hbt.trans (hb.mono hbt.size)
  clear hb
  have cb10 := cell_of_row w1 w.heap.size 0 _ _ _ b1
  simp only [List.getElem?_toArray, List.getElem?_cons_zero, List.getElem?_cons_succ] at cb10
  have cb11 := cell_of_row w1 w.heap.size 1 _ _ _ b1
  simp only [List.getElem?_toArray, List.getElem?_cons_zero, List.getElem?_cons_succ] at cb11
  go_wp2_with fail
  clear cb10 cb11
  refine (rFew_any A n c B m d w1).mono ?_
  rintro e w2 ⟨bf, rfl, hfew, hb⟩
  replace h := (h.below hb).more hb.size
  replace h' := (h'.below hb).more hb.size
  replace hv := (hv.below hb).more hb.size
  replace b1 := blk_below b1 hb
  replace b3 := blk_below b3 hb
  replace hbt := hbt.trans (hb.mono hbt.size)
  clear hb
  cases bf with
  | false =>
    have hf : ¬ (n ≤ 4000 ∧ m ≤ 4000) := fun hh => by have := hfew.2 hh; cases this
    clear hfew
    go_wp2_with fail
    go_ret
    exact ⟨ret_bool rfl, hbt⟩
  | true =>
    have hf := hfew.1 rfl
    clear hfew
    have hvm := hv.max
    have hvl := hv.le
    have e0 := blk_cell (j := 0) b3
    simp only [List.getElem?_toArray, List.getElem?_cons_zero, List.getElem?_cons_succ] at e0
    have e1 := blk_cell (j := 1) b3
    simp only [List.getElem?_toArray, List.getElem?_cons_zero, List.getElem?_cons_succ] at e1
    have e2 := blk_cell (j := 2) b3
    simp only [List.getElem?_toArray, List.getElem?_cons_zero, List.getElem?_cons_succ] at e2
    have e3 := blk_cell (j := 3) b3
    simp only [List.getElem?_toArray, List.getElem?_cons_zero, List.getElem?_cons_succ] at e3
    obtain ⟨V4, hV⟩ : ∃ V4, V4 = w2.alloc (.cells #[.int .i64 v.no, .slice E v.week.length ce, .int .i64 v.cost, .bool v.best] 42) := ⟨_, rfl⟩
    have b4 := blk_new hV
    have hb := below_new hV
    replace h := (h.below hb).more hb.size
    replace h' := (h'.below hb).more hb.size
    replace hv := (hv.below hb).more hb.size
    replace b1 := blk_below b1 hb
    replace b3 := blk_below b3 hb
    replace hbt := hbt.trans (hb.mono hbt.size)
    clear hb
    have HSV4 : Hid (V4.heap.size = w2.heap.size + 1) := by show V4.heap.size = _; rw [hV, World.size_alloc]
    have HVV4 := Lib.hid hV.symm
    clear hV
    go_wp2_with fail
    rw [HVV4.out]
    clear HVV4 HSV4 e0 e1 e2 e3
    have qv : RdV V4 V4.heap.size (some ⟨w2.heap.size, 0, none⟩) 1 1 [v] := by
      refine ⟨[.slice E v.week.length ce], rfl, RdK.blk 4 b4 rfl (by omega), fun i u s hi hs => ?_⟩
      cases i with
      | zero =>
        simp at hi hs
        subst hi hs
        exact ⟨E, ce, rfl, hv, hv1, hv2⟩
      | succ i => simp at hi
    refine (fewVs_any (some ⟨w2.heap.size, 0, none⟩) 1 1 [v] 1 V4 qv (by omega)).mono ?_
    rintro e w5 ⟨bf, rfl, hfv, hb⟩
    replace h := (h.below hb).more hb.size
    replace h' := (h'.below hb).more hb.size
    replace hv := (hv.below hb).more hb.size
    replace b1 := blk_below b1 hb
    replace b3 := blk_below b3 hb
    replace b4 := blk_below b4 hb
    replace hbt := hbt.trans (hb.mono hbt.size)
    clear hb
    clear qv
    cases bf with
    | false =>
      go_wp2_with fail
      go_ret
      exact ⟨ret_bool rfl, hbt⟩
    | true =>
      have hw70 : v.week.length ≤ 70 := (hfv.1 rfl).1 v (by simp)
      clear hfv
      have c0 := blk_cell (j := 0) b1
      simp only [List.getElem?_toArray, List.getElem?_cons_zero, List.getElem?_cons_succ] at c0
      have c1 := blk_cell (j := 1) b1
      simp only [List.getElem?_toArray, List.getElem?_cons_zero, List.getElem?_cons_succ] at c1
      go_wp2_with fail
      clear c0 c1
      refine (jCheck_any A n c s B m d o w5 h h' hn hm).mono ?_
      rintro e w6 ⟨rfl, hb⟩
      replace h := (h.below hb).more hb.size
      replace h' := (h'.below hb).more hb.size
      replace hv := (hv.below hb).more hb.size
      replace b1 := blk_below b1 hb
      replace b3 := blk_below b3 hb
      replace b4 := blk_below b4 hb
      replace hbt := hbt.trans (hb.mono hbt.size)
      clear hb
      by_cases hE : (Jn.readD s o).2.2 ≠ 0
      · generalize (Jn.readD s o).2.2 = er at *
        have dE : (er != 0) = true := by simp; omega
        go_wp2_with fail
        go_ret
        exact ⟨ret_bool rfl, hbt⟩
      · have hE : (Jn.readD s o).2.2 = 0 := by omega
        obtain ⟨p, q, HRD, es, eo, hgd, hsum⟩ := Jn.readD_ok hE
        have hlp := hgd.1
        have HRD := Lib.hid HRD
        rw [hE]
        clear hE
        have c0 := blk_cell (j := 0) b1
        simp only [List.getElem?_toArray, List.getElem?_cons_zero, List.getElem?_cons_succ] at c0
        have c1 := blk_cell (j := 1) b1
        simp only [List.getElem?_toArray, List.getElem?_cons_zero, List.getElem?_cons_succ] at c1
        go_wp2_with fail
        clear c0 c1
        refine (jRead_any A n c s B m d o w6 h h' hn hm).mono ?_
        rintro e w7 ⟨u1, u2, rfl, o1, o2, hb⟩
        rw [HRD.out] at o1 o2 ⊢
        dsimp only at o1 o2 ⊢
        obtain ⟨E1, f1, rfl, r1⟩ := o1.rd
        obtain ⟨E2, f2, rfl, r2⟩ := o2.rd
        clear o1 o2
        replace h := (h.below hb).more hb.size
        replace h' := (h'.below hb).more hb.size
        replace hv := (hv.below hb).more hb.size
        replace b1 := blk_below b1 hb
        replace b3 := blk_below b3 hb
        replace b4 := blk_below b4 hb
        replace hbt := hbt.trans (hb.mono hbt.size)
        clear hb
        have k1 := r1.max
        have k2 := r1.le
        have k3 := r2.max
        have k4 := r2.le
        have hpl : p.length + q.length ≤ 8000 := by
          have e1 := Jn.encB_len p
          have e2 := Jn.encB_len q
          rw [← es, hsl.out] at e1
          rw [← eo, hol.out] at e2
          omega
        have HAP : Hid (Jn.appendD s o v = if ¬ (Jn.may v = true ∧ v.no = ((p.length + q.length + 1 : Nat) : Int)) then ([], [], 1) else if 1048576 < n + (m + (8 + (Jn.recB v).length)) then ([], [], 2) else (s, o ++ frameB (Jn.recB v), 0)) := by
          show _ = _
          unfold Jn.appendD
          rw [HRD.out]
          dsimp only
          rw [if_neg (by simp), hsl.out, hol.out]
        have HMF : Hid (v.no = ((p.length + q.length + 1 : Nat) : Int) → (Jn.may v = true ↔ Jn.fit v)) := fun e => by
          unfold Jn.may Jn.fit
          rw [Jn.mayB_iff]
          omega
        have HG2 : Hid (Jn.may v = true → v.no = ((p.length + q.length + 1 : Nat) : Int) → Jn.readD s (o ++ frameB (Jn.recB v)) = (p, q ++ [v], 0) ∧ (Jn.recB v).length ≤ 1400) := fun e1 e2 => by
          have hok : Jn.okV v := ⟨e1, hv.2⟩
          have hrl := Jn.recB_len hok
          refine ⟨?_, hrl⟩
          have ev : o ++ frameB (Jn.recB v) = Jn.encB (q ++ [v]) := by rw [Jn.encB_app, eo]; congr 1; unfold Jn.encB framesB; simp
          rw [ev, es]
          refine Jn.readD_of ?_ ?_
          · rw [← List.append_assoc, Jn.good_app]
            refine ⟨hgd, Jn.good_cons.2 ⟨hok, ?_, Jn.Good.nil _⟩⟩
            rw [e2, List.length_append]
            congr 1
            omega
          · rw [← ev, List.length_append, frameB_length, ← es, hsl.out, hol.out]
            omega
        clear hgd hlp es eo hsum
        obtain ⟨np, hnp⟩ : ∃ np, p.length = np := ⟨_, rfl⟩
        obtain ⟨nq, hnq⟩ : ∃ nq, q.length = nq := ⟨_, rfl⟩
        rw [hnp, hnq] at hpl HAP HMF HG2
        rw [hnp] at r1 k2 ⊢
        rw [hnq] at r2 k4 ⊢
        have HNP := Lib.hid hnp
        have HNQ := Lib.hid hnq
        clear hnp hnq
        have c0 := blk_cell (j := 0) b1
        simp only [List.getElem?_toArray, List.getElem?_cons_zero, List.getElem?_cons_succ] at c0
        have c1 := blk_cell (j := 1) b1
        simp only [List.getElem?_toArray, List.getElem?_cons_zero, List.getElem?_cons_succ] at c1
        have e0 := blk_cell (j := 0) b3
        simp only [List.getElem?_toArray, List.getElem?_cons_zero, List.getElem?_cons_succ] at e0
        have e1 := blk_cell (j := 1) b3
        simp only [List.getElem?_toArray, List.getElem?_cons_zero, List.getElem?_cons_succ] at e1
        have e2 := blk_cell (j := 2) b3
        simp only [List.getElem?_toArray, List.getElem?_cons_zero, List.getElem?_cons_succ] at e2
        have e3 := blk_cell (j := 3) b3
        simp only [List.getElem?_toArray, List.getElem?_cons_zero, List.getElem?_cons_succ] at e3
        go_wp2_with fail
        clear c0 c1 e0 e1 e2 e3
        by_cases hnx : ¬ (Jn.may v = true ∧ v.no = ((np + nq + 1 : Nat) : Int))
        · have HZ : Hid (Jn.appendD s o v = ([], [], 1)) := by show _ = _; rw [HAP.out, if_pos hnx]
          clear HAP HG2
          refine (jAppend_any A n c s B m d o v E ce w7 h h' hn hm hv hv1 hv2).mono ?_
          rintro e w8 ⟨v1, v2, rfl, o1, o2, hb⟩
          rw [HZ.out] at o1 o2 ⊢
          dsimp only at o1 o2 ⊢
          obtain ⟨A1, c1, rfl, q1⟩ := own_rdB (n := 0) (l := []) o1
          obtain ⟨B1, d1, rfl, t1⟩ := own_rdB (n := 0) (l := []) o2
          clear o1 o2
          replace h := (h.below hb).more hb.size
          replace h' := (h'.below hb).more hb.size
          replace hv := (hv.below hb).more hb.size
          replace b1 := blk_below b1 hb
          replace b3 := blk_below b3 hb
          replace b4 := blk_below b4 hb
          replace r1 := (r1.below hb).more hb.size
          replace r2 := (r2.below hb).more hb.size
          replace hbt := hbt.trans (hb.mono hbt.size)
          clear hb
          obtain ⟨V8, hV⟩ : ∃ V8, V8 = w8.alloc (.cells #[.slice A1 0 c1, .slice B1 0 d1] 24) := ⟨_, rfl⟩
          have x1 := blk_new hV
          have hb := below_new hV
          replace h := (h.below hb).more hb.size
          replace h' := (h'.below hb).more hb.size
          replace hv := (hv.below hb).more hb.size
          replace b1 := blk_below b1 hb
          replace b3 := blk_below b3 hb
          replace b4 := blk_below b4 hb
          replace r1 := (r1.below hb).more hb.size
          replace r2 := (r2.below hb).more hb.size
          replace q1 := (q1.below hb).more hb.size
          replace t1 := (t1.below hb).more hb.size
          replace hbt := hbt.trans (hb.mono hbt.size)
          clear hb
          have HSV8 : Hid (V8.heap.size = w8.heap.size + 1) := by show V8.heap.size = _; rw [hV, World.size_alloc]
          have HVV8 := Lib.hid hV.symm
          clear hV
          have e0 := blk_cell (j := 0) b3
          simp only [List.getElem?_toArray, List.getElem?_cons_zero, List.getElem?_cons_succ] at e0
          have e1 := blk_cell (j := 1) b3
          simp only [List.getElem?_toArray, List.getElem?_cons_zero, List.getElem?_cons_succ] at e1
          have e2 := blk_cell (j := 2) b3
          simp only [List.getElem?_toArray, List.getElem?_cons_zero, List.getElem?_cons_succ] at e2
          have e3 := blk_cell (j := 3) b3
          simp only [List.getElem?_toArray, List.getElem?_cons_zero, List.getElem?_cons_succ] at e3
          by_cases hno : ¬ v.no = ((np + nq + 1 : Nat) : Int)
          · have dN : (v.no == (np : Int) + (nq : Int) + 1) = false := by simp; omega
            have c0 := blk_cell (j := 0) x1
            simp only [List.getElem?_toArray, List.getElem?_cons_zero, List.getElem?_cons_succ] at c0
            have c1 := blk_cell (j := 1) x1
            simp only [List.getElem?_toArray, List.getElem?_cons_zero, List.getElem?_cons_succ] at c1
            rw [← HVV8.out] at c0 c1 e0 e1 e2 e3
            go_wp2_with fail
            rw [HVV8.out]
            clear c0 c1 e0 e1 e2 e3
            refine (rSame_any A1 0 c1 [] B1 0 d1 [] none 0 0 [] none 0 0 [] V8 q1 t1 (RdB.nil _ _) (RdB.nil _ _)).mono ?_
            rintro e wz ⟨b, rfl, hiff, hb⟩
            obtain rfl : b = true := hiff.2 ⟨rfl, rfl⟩
            clear hiff
            replace h := (h.below hb).more hb.size
            replace h' := (h'.below hb).more hb.size
            replace hv := (hv.below hb).more hb.size
            replace b1 := blk_below b1 hb
            replace b3 := blk_below b3 hb
            replace b4 := blk_below b4 hb
            replace r1 := (r1.below hb).more hb.size
            replace r2 := (r2.below hb).more hb.size
            replace q1 := (q1.below hb).more hb.size
            replace t1 := (t1.below hb).more hb.size
            replace x1 := blk_below x1 hb
            replace hbt := hbt.trans (hb.mono hbt.size)
            clear hb
            go_wp2_with fail
            go_ret
            exact ⟨ret_bool rfl, hbt⟩
          · have hno : v.no = ((np + nq + 1 : Nat) : Int) := Classical.not_not.1 hno
            have hnf : ¬ Jn.fit v := fun hh => hnx ⟨(HMF.out hno).2 hh, hno⟩
            have dN : (v.no == (np : Int) + (nq : Int) + 1) = true := by simp; omega
            obtain ⟨V9, hV⟩ : ∃ V9, V9 = V8.alloc (.cells #[.int .i64 v.no, .slice E v.week.length ce, .int .i64 v.cost, .bool v.best] 42) := ⟨_, rfl⟩
            have b9 := blk_new hV
            have hb := below_new hV
            replace h := (h.below hb).more hb.size
            replace h' := (h'.below hb).more hb.size
            replace hv := (hv.below hb).more hb.size
            replace b1 := blk_below b1 hb
            replace b3 := blk_below b3 hb
            replace b4 := blk_below b4 hb
            replace r1 := (r1.below hb).more hb.size
            replace r2 := (r2.below hb).more hb.size
            replace q1 := (q1.below hb).more hb.size
            replace t1 := (t1.below hb).more hb.size
            replace x1 := blk_below x1 hb
            replace hbt := hbt.trans (hb.mono hbt.size)
            clear hb
            have HSV9 : Hid (V9.heap.size = V8.heap.size + 1) := by show V9.heap.size = _; rw [hV, World.size_alloc]
            have HVV9 := Lib.hid hV.symm
            clear hV
            have qv : RdV V9 V9.heap.size (some ⟨V8.heap.size, 0, none⟩) 1 1 [v] := by
              refine ⟨[.slice E v.week.length ce], rfl, RdK.blk 4 b9 rfl (by omega), fun i u s hi hs => ?_⟩
              cases i with
              | zero =>
                simp at hi hs
                subst hi hs
                exact ⟨E, ce, rfl, hv, hv1, hv2⟩
              | succ i => simp at hi
            rw [HSV8.out] at qv
            rw [← HVV8.out] at HVV9 e0 e1 e2 e3
            have HNO := Lib.hid hno
            clear hno
            go_wp2_with fail
            rw [HVV9.out]
            clear HVV9 HVV8 HSV8 HSV9 e0 e1 e2 e3
            refine (fits_any (some ⟨w8.heap.size + 1, 0, none⟩) 1 1 [v] V9 qv).mono ?_
            rintro e wy ⟨b, rfl, hiff, hb⟩
            obtain rfl : b = false := by
              cases b with
              | false => rfl
              | true => exact absurd (hiff.1 rfl v (by simp)) hnf
            clear hiff qv
            replace h := (h.below hb).more hb.size
            replace h' := (h'.below hb).more hb.size
            replace hv := (hv.below hb).more hb.size
            replace b1 := blk_below b1 hb
            replace b3 := blk_below b3 hb
            replace b4 := blk_below b4 hb
            replace r1 := (r1.below hb).more hb.size
            replace r2 := (r2.below hb).more hb.size
            replace q1 := (q1.below hb).more hb.size
            replace t1 := (t1.below hb).more hb.size
            replace x1 := blk_below x1 hb
            replace b9 := blk_below b9 hb
            replace hbt := hbt.trans (hb.mono hbt.size)
            clear hb
            have c0 := blk_cell (j := 0) x1
            simp only [List.getElem?_toArray, List.getElem?_cons_zero, List.getElem?_cons_succ] at c0
            have c1 := blk_cell (j := 1) x1
            simp only [List.getElem?_toArray, List.getElem?_cons_zero, List.getElem?_cons_succ] at c1
            go_wp2_with fail
            clear c0 c1
            refine (rSame_any A1 0 c1 [] B1 0 d1 [] none 0 0 [] none 0 0 [] wy q1 t1 (RdB.nil _ _) (RdB.nil _ _)).mono ?_
            rintro e wz ⟨b, rfl, hiff, hb⟩
            obtain rfl : b = true := hiff.2 ⟨rfl, rfl⟩
            clear hiff
            replace h := (h.below hb).more hb.size
            replace h' := (h'.below hb).more hb.size
            replace hv := (hv.below hb).more hb.size
            replace b1 := blk_below b1 hb
            replace b3 := blk_below b3 hb
            replace b4 := blk_below b4 hb
            replace r1 := (r1.below hb).more hb.size
            replace r2 := (r2.below hb).more hb.size
            replace q1 := (q1.below hb).more hb.size
            replace t1 := (t1.below hb).more hb.size
            replace x1 := blk_below x1 hb
            replace b9 := blk_below b9 hb
            replace hbt := hbt.trans (hb.mono hbt.size)
            clear hb
            go_wp2_with fail
            go_ret
            exact ⟨ret_bool rfl, hbt⟩
        · have hnx : Jn.may v = true ∧ v.no = ((np + nq + 1 : Nat) : Int) := Classical.not_not.1 hnx
          obtain ⟨hmay, hno⟩ := hnx
          obtain ⟨HR2, hrl⟩ := HG2.out hmay hno
          have hfit := (HMF.out hno).1 hmay
          have HR2 := Lib.hid HR2
          have HZ : Hid (Jn.appendD s o v = (s, o ++ frameB (Jn.recB v), 0)) := by show _ = _; rw [HAP.out, if_neg (fun hh => hh ⟨hmay, hno⟩), if_neg (by omega)]
          clear HAP HG2
          have HL2 : Hid ((o ++ frameB (Jn.recB v)).length = m + (8 + (Jn.recB v).length)) := by show _ = _; rw [List.length_append, frameB_length, hol.out]
          generalize (Jn.recB v).length = rl at *
          generalize o ++ frameB (Jn.recB v) = o2' at *
          refine (jAppend_any A n c s B m d o v E ce w7 h h' hn hm hv hv1 hv2).mono ?_
          rintro e w8 ⟨v1, v2, rfl, o1, o2, hb⟩
          rw [HZ.out] at o1 o2 ⊢
          dsimp only at o1 o2 ⊢
          rw [hsl.out] at o1
          rw [HL2.out] at o2
          obtain ⟨A1, c1, rfl, q1⟩ := own_rdB o1
          obtain ⟨B1, d1, rfl, t1⟩ := own_rdB o2
          clear o1 o2
          replace h := (h.below hb).more hb.size
          replace h' := (h'.below hb).more hb.size
          replace hv := (hv.below hb).more hb.size
          replace b1 := blk_below b1 hb
          replace b3 := blk_below b3 hb
          replace b4 := blk_below b4 hb
          replace r1 := (r1.below hb).more hb.size
          replace r2 := (r2.below hb).more hb.size
          replace hbt := hbt.trans (hb.mono hbt.size)
          clear hb
          have k5 := q1.max
          have k6 := q1.le
          have k7 := t1.max
          have k8 := t1.le
          obtain ⟨V8, hV⟩ : ∃ V8, V8 = w8.alloc (.cells #[.slice A1 n c1, .slice B1 (m + (8 + rl)) d1] 24) := ⟨_, rfl⟩
          have x1 := blk_new hV
          have hb := below_new hV
          replace h := (h.below hb).more hb.size
          replace h' := (h'.below hb).more hb.size
          replace hv := (hv.below hb).more hb.size
          replace b1 := blk_below b1 hb
          replace b3 := blk_below b3 hb
          replace b4 := blk_below b4 hb
          replace r1 := (r1.below hb).more hb.size
          replace r2 := (r2.below hb).more hb.size
          replace q1 := (q1.below hb).more hb.size
          replace t1 := (t1.below hb).more hb.size
          replace hbt := hbt.trans (hb.mono hbt.size)
          clear hb
          have HSV8 : Hid (V8.heap.size = w8.heap.size + 1) := by show V8.heap.size = _; rw [hV, World.size_alloc]
          have HVV8 := Lib.hid hV.symm
          clear hV
          have e0 := blk_cell (j := 0) b3
          simp only [List.getElem?_toArray, List.getElem?_cons_zero, List.getElem?_cons_succ] at e0
          have e1 := blk_cell (j := 1) b3
          simp only [List.getElem?_toArray, List.getElem?_cons_zero, List.getElem?_cons_succ] at e1
          have e2 := blk_cell (j := 2) b3
          simp only [List.getElem?_toArray, List.getElem?_cons_zero, List.getElem?_cons_succ] at e2
          have e3 := blk_cell (j := 3) b3
          simp only [List.getElem?_toArray, List.getElem?_cons_zero, List.getElem?_cons_succ] at e3
          have dN : (v.no == (np : Int) + (nq : Int) + 1) = true := by simp; omega
          obtain ⟨V9, hV⟩ : ∃ V9, V9 = V8.alloc (.cells #[.int .i64 v.no, .slice E v.week.length ce, .int .i64 v.cost, .bool v.best] 42) := ⟨_, rfl⟩
          have b9 := blk_new hV
          have hb := below_new hV
          replace h := (h.below hb).more hb.size
          replace h' := (h'.below hb).more hb.size
          replace hv := (hv.below hb).more hb.size
          replace b1 := blk_below b1 hb
          replace b3 := blk_below b3 hb
          replace b4 := blk_below b4 hb
          replace r1 := (r1.below hb).more hb.size
          replace r2 := (r2.below hb).more hb.size
          replace q1 := (q1.below hb).more hb.size
          replace t1 := (t1.below hb).more hb.size
          replace x1 := blk_below x1 hb
          replace hbt := hbt.trans (hb.mono hbt.size)
          clear hb
          have HSV9 : Hid (V9.heap.size = V8.heap.size + 1) := by show V9.heap.size = _; rw [hV, World.size_alloc]
          have HVV9 := Lib.hid hV.symm
          clear hV
          have qv : RdV V9 V9.heap.size (some ⟨V8.heap.size, 0, none⟩) 1 1 [v] := by
            refine ⟨[.slice E v.week.length ce], rfl, RdK.blk 4 b9 rfl (by omega), fun i u s hi hs => ?_⟩
            cases i with
            | zero =>
              simp at hi hs
              subst hi hs
              exact ⟨E, ce, rfl, hv, hv1, hv2⟩
            | succ i => simp at hi
          rw [HSV8.out] at qv
          rw [← HVV8.out] at HVV9 e0 e1 e2 e3
          have HNO := Lib.hid hno
          clear hno
          go_wp2_with fail
          rw [HVV9.out]
          clear HVV9 HVV8 HSV8 HSV9 e0 e1 e2 e3 dN
          refine (fits_any (some ⟨w8.heap.size + 1, 0, none⟩) 1 1 [v] V9 qv).mono ?_
          rintro e w10 ⟨b, rfl, hiff, hb⟩
          obtain rfl : b = true := hiff.2 (by intro x hx; simp at hx; subst hx; exact hfit)
          clear hiff qv
          replace h := (h.below hb).more hb.size
          replace h' := (h'.below hb).more hb.size
          replace hv := (hv.below hb).more hb.size
          replace b1 := blk_below b1 hb
          replace b3 := blk_below b3 hb
          replace b4 := blk_below b4 hb
          replace r1 := (r1.below hb).more hb.size
          replace r2 := (r2.below hb).more hb.size
          replace q1 := (q1.below hb).more hb.size
          replace t1 := (t1.below hb).more hb.size
          replace x1 := blk_below x1 hb
          replace b9 := blk_below b9 hb
          replace hbt := hbt.trans (hb.mono hbt.size)
          clear hb
          have c0 := blk_cell (j := 0) x1
          simp only [List.getElem?_toArray, List.getElem?_cons_zero, List.getElem?_cons_succ] at c0
          have c1 := blk_cell (j := 1) x1
          simp only [List.getElem?_toArray, List.getElem?_cons_zero, List.getElem?_cons_succ] at c1
          go_wp2_with fail
          clear c0 c1
          refine (jRead_any A1 n c1 s B1 (m + (8 + rl)) d1 o2' w10 q1 t1 (by omega) (by omega)).mono ?_
          rintro e w11 ⟨u1, u2, rfl, o1, o2, hb⟩
          rw [HR2.out] at o1 o2 ⊢
          dsimp only at o1 o2 ⊢
          obtain ⟨E3, f3, rfl, r3⟩ := o1.rd
          obtain ⟨E4, f4, rfl, r4⟩ := o2.rd
          clear o1 o2
          rw [HNP.out] at r3 ⊢
          rw [List.length_append, HNQ.out, show [v].length = 1 from rfl] at r4 ⊢
          replace h := (h.below hb).more hb.size
          replace h' := (h'.below hb).more hb.size
          replace hv := (hv.below hb).more hb.size
          replace b1 := blk_below b1 hb
          replace b3 := blk_below b3 hb
          replace b4 := blk_below b4 hb
          replace r1 := (r1.below hb).more hb.size
          replace r2 := (r2.below hb).more hb.size
          replace q1 := (q1.below hb).more hb.size
          replace t1 := (t1.below hb).more hb.size
          replace x1 := blk_below x1 hb
          replace b9 := blk_below b9 hb
          replace hbt := hbt.trans (hb.mono hbt.size)
          clear hb
          have k9 := r3.max
          have k10 := r3.le
          have k11 := r4.max
          have k12 := r4.le
          go_wp2_with fail
          obtain ⟨ss, hss, hrk, hel⟩ := r2
          have hbx := Below.refl w11.heap.size w11
          have hvX := hv
          have hone := vcells_one q ss (RdV.slices hss hel)
          have hs11 := hbt.size
          generalize hxs : ((q.zip ss).flatMap fun x => vcell x.1 x.2) = xs at hrk hone
          refine wp_region_tree 13 (.one [0, 1, 2, 3, 4] 5 (.two [6, 7, 8, 9, 11] 10 (.one [] 12 (.sto [])) 12 (.one [] 10 (.sto [])))) [([], some 13), ([], some 14), ([15, 16], none)] (by kernel_rfl) (by kernel_rfl) ?_
          intro wd hsz hb
          clear hsz
          replace h := (h.below hb).more hb.size
          replace h' := (h'.below hb).more hb.size
          replace hv := (hv.below hb).more hb.size
          replace b1 := blk_below b1 hb
          replace b3 := blk_below b3 hb
          replace b4 := blk_below b4 hb
          replace r1 := (r1.below hb).more hb.size
          replace q1 := (q1.below hb).more hb.size
          replace t1 := (t1.below hb).more hb.size
          replace x1 := blk_below x1 hb
          replace b9 := blk_below b9 hb
          replace r3 := (r3.below hb).more hb.size
          replace hbx := hbx.trans (hb.mono hbx.size)
          replace hbt := hbt.trans (hb.mono hbt.size)
          clear hb
          have e0 : ∀ x : Ext wd.heap.size wd, x.val.cell? ⟨w.heap.size + 1, 0, none⟩ = some (.int .i64 v.no) := fun x => (x.cell (blk_lt b3)).trans (blk_cell b3)
          have e1 : ∀ x : Ext wd.heap.size wd, x.val.cell? ⟨w.heap.size + 1, 1, none⟩ = some (.slice E v.week.length ce) := fun x => (x.cell (blk_lt b3)).trans (blk_cell b3)
          have e2 : ∀ x : Ext wd.heap.size wd, x.val.cell? ⟨w.heap.size + 1, 2, none⟩ = some (.int .i64 v.cost) := fun x => (x.cell (blk_lt b3)).trans (blk_cell b3)
          have e3 : ∀ x : Ext wd.heap.size wd, x.val.cell? ⟨w.heap.size + 1, 3, none⟩ = some (.bool v.best) := fun x => (x.cell (blk_lt b3)).trans (blk_cell b3)
          refine tree_one ?_
          simp only [pick, List.map_cons, List.map_nil, Option.map_some, Option.map_none, List.getD_cons_zero, List.getD_cons_succ]
          (repeat (go_big_quiet_step (fail)))
          refine quiet_end ?_
          clear e0 e1 e2 e3
          refine plan_call (by kernel_rfl) (fun K hK => ?_)
          go_simp
          refine (versions_any E3 E1 np f3 np f1 p p _ r3 r1).mono ?_
          rintro e w12 ⟨b, rfl, hiff, hb⟩
          obtain rfl : b = true := hiff.2 rfl
          clear hiff
          refine hK.out _ _ hb ?_
          clear hK K
          (try simp only [Act.put, List.setIfInBounds_toArray, List.set_cons_zero, List.set_cons_succ])
          replace h := (h.below hb).more hb.size
          replace h' := (h'.below hb).more hb.size
          replace hv := (hv.below hb).more hb.size
          replace b1 := blk_below b1 hb
          replace b3 := blk_below b3 hb
          replace b4 := blk_below b4 hb
          replace r1 := (r1.below hb).more hb.size
          replace q1 := (q1.below hb).more hb.size
          replace t1 := (t1.below hb).more hb.size
          replace x1 := blk_below x1 hb
          replace b9 := blk_below b9 hb
          replace r3 := (r3.below hb).more hb.size
          replace hbx := hbx.trans (hb.mono hbx.size)
          replace hbt := hbt.trans (hb.mono hbt.size)
          clear hb
          have e0 : ∀ x : Ext w12.heap.size w12, x.val.cell? ⟨w.heap.size + 1, 0, none⟩ = some (.int .i64 v.no) := fun x => (x.cell (blk_lt b3)).trans (blk_cell b3)
          have e1 : ∀ x : Ext w12.heap.size w12, x.val.cell? ⟨w.heap.size + 1, 1, none⟩ = some (.slice E v.week.length ce) := fun x => (x.cell (blk_lt b3)).trans (blk_cell b3)
          have e2 : ∀ x : Ext w12.heap.size w12, x.val.cell? ⟨w.heap.size + 1, 2, none⟩ = some (.int .i64 v.cost) := fun x => (x.cell (blk_lt b3)).trans (blk_cell b3)
          have e3 : ∀ x : Ext w12.heap.size w12, x.val.cell? ⟨w.heap.size + 1, 3, none⟩ = some (.bool v.best) := fun x => (x.cell (blk_lt b3)).trans (blk_cell b3)
          refine tree_two ?_
          simp only [pick, List.map_cons, List.map_nil, Option.map_some, Option.map_none, List.getD_cons_zero, List.getD_cons_succ]
          (repeat (go_big_quiet_step (fail)))
          refine quiet_end ?_
          clear e0 e1 e2 e3
          refine ⟨?_, ?_⟩
          · refine plan_call (by kernel_rfl) (fun K hK => ?_)
            obtain ⟨vq, w13, hrun, oq, hg, hat⟩ := run_appK (ty := 27) elV (World.ownsRow_nil w12 w11.heap.size 42 4) (hrk.below hbx) hone (by omega) (by omega) hbx.size
            refine wp_append _ _ rfl rfl rfl hrun ?_
            have hb : Below w12.heap.size w12 w13 := (Below.refl _ _).grown hg (Nat.le_refl _) (fun g hg => by cases hg)
            clear hrun hat hg
            rw [Nat.zero_add, List.nil_append] at oq
            obtain ⟨Aq, cq, rfl, _⟩ := own_rdK oq
            refine hK.out _ _ hb ?_
            clear hK K
            (try simp only [Act.put, List.setIfInBounds_toArray, List.set_cons_zero, List.set_cons_succ])
            replace h := (h.below hb).more hb.size
            replace h' := (h'.below hb).more hb.size
            replace hv := (hv.below hb).more hb.size
            replace b1 := blk_below b1 hb
            replace b3 := blk_below b3 hb
            replace b4 := blk_below b4 hb
            replace r1 := (r1.below hb).more hb.size
            replace q1 := (q1.below hb).more hb.size
            replace t1 := (t1.below hb).more hb.size
            replace x1 := blk_below x1 hb
            replace b9 := blk_below b9 hb
            replace r3 := (r3.below hb).more hb.size
            replace hbx := hbx.trans (hb.mono hbx.size)
            replace hbt := hbt.trans (hb.mono hbt.size)
            clear hb
            have e0 : ∀ x : Ext w13.heap.size w13, x.val.cell? ⟨w.heap.size + 1, 0, none⟩ = some (.int .i64 v.no) := fun x => (x.cell (blk_lt b3)).trans (blk_cell b3)
            have e1 : ∀ x : Ext w13.heap.size w13, x.val.cell? ⟨w.heap.size + 1, 1, none⟩ = some (.slice E v.week.length ce) := fun x => (x.cell (blk_lt b3)).trans (blk_cell b3)
            have e2 : ∀ x : Ext w13.heap.size w13, x.val.cell? ⟨w.heap.size + 1, 2, none⟩ = some (.int .i64 v.cost) := fun x => (x.cell (blk_lt b3)).trans (blk_cell b3)
            have e3 : ∀ x : Ext w13.heap.size w13, x.val.cell? ⟨w.heap.size + 1, 3, none⟩ = some (.bool v.best) := fun x => (x.cell (blk_lt b3)).trans (blk_cell b3)
            refine tree_one ?_
            simp only [pick, List.map_cons, List.map_nil, Option.map_some, Option.map_none, List.getD_cons_zero, List.getD_cons_succ]
            (repeat (go_big_quiet_step (fail)))
            refine quiet_end ?_
            clear e0 e1 e2 e3
            refine plan_call (by kernel_rfl) (fun K hK => ?_)
            go_simp
            obtain ⟨V14, hV⟩ : ∃ V14, V14 = w13.alloc (.cells #[.int .i64 v.no, .slice E v.week.length ce, .int .i64 v.cost, .bool v.best] 42) := ⟨_, rfl⟩
            have b14 := blk_new hV
            have hb := below_new hV
            rw [← hV]
            clear hV
            refine hK.out _ _ hb ?_
            clear hK K
            (try simp only [Act.put, List.setIfInBounds_toArray, List.set_cons_zero, List.set_cons_succ])
            replace h := (h.below hb).more hb.size
            replace h' := (h'.below hb).more hb.size
            replace hv := (hv.below hb).more hb.size
            replace b1 := blk_below b1 hb
            replace b3 := blk_below b3 hb
            replace b4 := blk_below b4 hb
            replace r1 := (r1.below hb).more hb.size
            replace q1 := (q1.below hb).more hb.size
            replace t1 := (t1.below hb).more hb.size
            replace x1 := blk_below x1 hb
            replace b9 := blk_below b9 hb
            replace r3 := (r3.below hb).more hb.size
            replace hbx := hbx.trans (hb.mono hbx.size)
            replace oq := own_below oq hb
            replace hbt := hbt.trans (hb.mono hbt.size)
            clear hb
            have e0 : ∀ x : Ext V14.heap.size V14, x.val.cell? ⟨w.heap.size + 1, 0, none⟩ = some (.int .i64 v.no) := fun x => (x.cell (blk_lt b3)).trans (blk_cell b3)
            have e1 : ∀ x : Ext V14.heap.size V14, x.val.cell? ⟨w.heap.size + 1, 1, none⟩ = some (.slice E v.week.length ce) := fun x => (x.cell (blk_lt b3)).trans (blk_cell b3)
            have e2 : ∀ x : Ext V14.heap.size V14, x.val.cell? ⟨w.heap.size + 1, 2, none⟩ = some (.int .i64 v.cost) := fun x => (x.cell (blk_lt b3)).trans (blk_cell b3)
            have e3 : ∀ x : Ext V14.heap.size V14, x.val.cell? ⟨w.heap.size + 1, 3, none⟩ = some (.bool v.best) := fun x => (x.cell (blk_lt b3)).trans (blk_cell b3)
            refine tree_sto ?_
            simp only [pick, List.map_cons, List.map_nil, Option.map_some, Option.map_none, List.getD_cons_zero, List.getD_cons_succ]
            (repeat (go_big_quiet_step (fail)))
            refine quiet_end ?_
            clear e0 e1 e2 e3
            refine late_cons ?_
            (repeat (go_big_quiet_step (fail)))
            refine late_nil ?_
            refine late_call (by kernel_rfl) (fun K hK => ?_)
            obtain ⟨vz, w15, hrun, oz, hg, hat⟩ := run_appK (ty := 27) elV oq (RdK.blk 4 b14 rfl (by omega)) (by intro u hu; simp at hu; rcases hu with rfl | rfl | rfl | rfl <;> rfl) (by omega) (by omega) hbx.size
            refine wp_append _ _ rfl rfl rfl hrun ?_
            clear hrun hat
            have hbz := hbx.grown hg hbx.size (own_lt oq)
            have hbt := hbt.grown hg hbt.size (fun g hg => Nat.le_trans hs11 (own_lt oq g hg))
            have r4 := (r4.below hbz).more hbz.size
            obtain ⟨Az, cz, rfl, qz⟩ := RdV.snoc hss hel hvX hv1 hv2 hbz hbz.size (by rw [HNQ.out, hxs]; exact oz)
            rw [HNQ.out] at qz ⊢
            clear oz hg oq b14
            refine hK.out _ _ ?_
            clear hK K
            (try simp only [Act.put, List.setIfInBounds_toArray, List.set_cons_zero, List.set_cons_succ])
            refine late_cons ?_
            (repeat (go_big_quiet_step (fail)))
            refine late_nil ?_
            refine late_call (by kernel_rfl) (fun K hK => ?_)
            go_simp
            refine (versions_any E4 Az (nq + 1) f4 (nq + 1) cz (q ++ [v]) (q ++ [v]) _ r4 qz).mono ?_
            rintro e w16 ⟨b, rfl, hiff, hb⟩
            obtain rfl : b = true := hiff.2 rfl
            clear hiff
            have hbt := hbt.trans (hb.mono hbt.size)
            refine hK.out _ _ ?_
            clear hK K
            (try simp only [Act.put, List.setIfInBounds_toArray, List.set_cons_zero, List.set_cons_succ])
            refine late_cons ?_
            (try simp only [pickP, pick, List.map_cons, List.map_nil, Option.map_some, Option.map_none, List.getD_cons_zero, List.getD_cons_succ])
            (repeat (go_big_quiet_step (fail)))
            refine late_nil ?_
            refine late_none ?_
            go_wp2_with fail
            go_ret
            exact ⟨ret_bool rfl, hbt⟩
          · refine plan_call (by kernel_rfl) (fun K hK => ?_)
            go_simp
            obtain ⟨V14, hV⟩ : ∃ V14, V14 = w12.alloc (.cells #[.int .i64 v.no, .slice E v.week.length ce, .int .i64 v.cost, .bool v.best] 42) := ⟨_, rfl⟩
            have b14 := blk_new hV
            have hb := below_new hV
            rw [← hV]
            clear hV
            refine hK.out _ _ hb ?_
            clear hK K
            (try simp only [Act.put, List.setIfInBounds_toArray, List.set_cons_zero, List.set_cons_succ])
            replace h := (h.below hb).more hb.size
            replace h' := (h'.below hb).more hb.size
            replace hv := (hv.below hb).more hb.size
            replace b1 := blk_below b1 hb
            replace b3 := blk_below b3 hb
            replace b4 := blk_below b4 hb
            replace r1 := (r1.below hb).more hb.size
            replace q1 := (q1.below hb).more hb.size
            replace t1 := (t1.below hb).more hb.size
            replace x1 := blk_below x1 hb
            replace b9 := blk_below b9 hb
            replace r3 := (r3.below hb).more hb.size
            replace hbx := hbx.trans (hb.mono hbx.size)
            replace hbt := hbt.trans (hb.mono hbt.size)
            clear hb
            have e0 : ∀ x : Ext V14.heap.size V14, x.val.cell? ⟨w.heap.size + 1, 0, none⟩ = some (.int .i64 v.no) := fun x => (x.cell (blk_lt b3)).trans (blk_cell b3)
            have e1 : ∀ x : Ext V14.heap.size V14, x.val.cell? ⟨w.heap.size + 1, 1, none⟩ = some (.slice E v.week.length ce) := fun x => (x.cell (blk_lt b3)).trans (blk_cell b3)
            have e2 : ∀ x : Ext V14.heap.size V14, x.val.cell? ⟨w.heap.size + 1, 2, none⟩ = some (.int .i64 v.cost) := fun x => (x.cell (blk_lt b3)).trans (blk_cell b3)
            have e3 : ∀ x : Ext V14.heap.size V14, x.val.cell? ⟨w.heap.size + 1, 3, none⟩ = some (.bool v.best) := fun x => (x.cell (blk_lt b3)).trans (blk_cell b3)
            refine tree_one ?_
            simp only [pick, List.map_cons, List.map_nil, Option.map_some, Option.map_none, List.getD_cons_zero, List.getD_cons_succ]
            (repeat (go_big_quiet_step (fail)))
            refine quiet_end ?_
            clear e0 e1 e2 e3
            refine plan_call (by kernel_rfl) (fun K hK => ?_)
            obtain ⟨vq, w13, hrun, oq, hg, hat⟩ := run_appK (ty := 27) elV (World.ownsRow_nil V14 w11.heap.size 42 4) (hrk.below hbx) hone (by omega) (by omega) hbx.size
            refine wp_append _ _ rfl rfl rfl hrun ?_
            have hb : Below V14.heap.size V14 w13 := (Below.refl _ _).grown hg (Nat.le_refl _) (fun g hg => by cases hg)
            clear hrun hat hg
            rw [Nat.zero_add, List.nil_append] at oq
            obtain ⟨Aq, cq, rfl, _⟩ := own_rdK oq
            refine hK.out _ _ hb ?_
            clear hK K
            (try simp only [Act.put, List.setIfInBounds_toArray, List.set_cons_zero, List.set_cons_succ])
            replace h := (h.below hb).more hb.size
            replace h' := (h'.below hb).more hb.size
            replace hv := (hv.below hb).more hb.size
            replace b1 := blk_below b1 hb
            replace b3 := blk_below b3 hb
            replace b4 := blk_below b4 hb
            replace r1 := (r1.below hb).more hb.size
            replace q1 := (q1.below hb).more hb.size
            replace t1 := (t1.below hb).more hb.size
            replace x1 := blk_below x1 hb
            replace b9 := blk_below b9 hb
            replace r3 := (r3.below hb).more hb.size
            replace hbx := hbx.trans (hb.mono hbx.size)
            replace b14 := blk_below b14 hb
            replace hbt := hbt.trans (hb.mono hbt.size)
            clear hb
            have e0 : ∀ x : Ext w13.heap.size w13, x.val.cell? ⟨w.heap.size + 1, 0, none⟩ = some (.int .i64 v.no) := fun x => (x.cell (blk_lt b3)).trans (blk_cell b3)
            have e1 : ∀ x : Ext w13.heap.size w13, x.val.cell? ⟨w.heap.size + 1, 1, none⟩ = some (.slice E v.week.length ce) := fun x => (x.cell (blk_lt b3)).trans (blk_cell b3)
            have e2 : ∀ x : Ext w13.heap.size w13, x.val.cell? ⟨w.heap.size + 1, 2, none⟩ = some (.int .i64 v.cost) := fun x => (x.cell (blk_lt b3)).trans (blk_cell b3)
            have e3 : ∀ x : Ext w13.heap.size w13, x.val.cell? ⟨w.heap.size + 1, 3, none⟩ = some (.bool v.best) := fun x => (x.cell (blk_lt b3)).trans (blk_cell b3)
            refine tree_sto ?_
            simp only [pick, List.map_cons, List.map_nil, Option.map_some, Option.map_none, List.getD_cons_zero, List.getD_cons_succ]
            (repeat (go_big_quiet_step (fail)))
            refine quiet_end ?_
            clear e0 e1 e2 e3
            refine late_cons ?_
            (repeat (go_big_quiet_step (fail)))
            refine late_nil ?_
            refine late_call (by kernel_rfl) (fun K hK => ?_)
            obtain ⟨vz, w15, hrun, oz, hg, hat⟩ := run_appK (ty := 27) elV oq (RdK.blk 4 b14 rfl (by omega)) (by intro u hu; simp at hu; rcases hu with rfl | rfl | rfl | rfl <;> rfl) (by omega) (by omega) hbx.size
            refine wp_append _ _ rfl rfl rfl hrun ?_
            clear hrun hat
            have hbz := hbx.grown hg hbx.size (own_lt oq)
            have hbt := hbt.grown hg hbt.size (fun g hg => Nat.le_trans hs11 (own_lt oq g hg))
            have r4 := (r4.below hbz).more hbz.size
            obtain ⟨Az, cz, rfl, qz⟩ := RdV.snoc hss hel hvX hv1 hv2 hbz hbz.size (by rw [HNQ.out, hxs]; exact oz)
            rw [HNQ.out] at qz ⊢
            clear oz hg oq b14
            refine hK.out _ _ ?_
            clear hK K
            (try simp only [Act.put, List.setIfInBounds_toArray, List.set_cons_zero, List.set_cons_succ])
            refine late_cons ?_
            (repeat (go_big_quiet_step (fail)))
            refine late_nil ?_
            refine late_call (by kernel_rfl) (fun K hK => ?_)
            go_simp
            refine (versions_any E4 Az (nq + 1) f4 (nq + 1) cz (q ++ [v]) (q ++ [v]) _ r4 qz).mono ?_
            rintro e w16 ⟨b, rfl, hiff, hb⟩
            obtain rfl : b = true := hiff.2 rfl
            clear hiff
            have hbt := hbt.trans (hb.mono hbt.size)
            refine hK.out _ _ ?_
            clear hK K
            (try simp only [Act.put, List.setIfInBounds_toArray, List.set_cons_zero, List.set_cons_succ])
            refine late_cons ?_
            (try simp only [pickP, pick, List.map_cons, List.map_nil, Option.map_some, Option.map_none, List.getD_cons_zero, List.getD_cons_succ])
            (repeat (go_big_quiet_step (fail)))
            refine late_nil ?_
            refine late_none ?_
            go_wp2_with fail
            go_ret
            exact ⟨ret_bool rfl, hbt⟩
end Go.Proofs.Ytfacdoemgalodaa
