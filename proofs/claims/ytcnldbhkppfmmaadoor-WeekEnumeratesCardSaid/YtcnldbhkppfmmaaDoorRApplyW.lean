/-
  The reference's Apply.
-/
import Derived.Test.YtcnldbhkppfmmaaDoorApplyW
import Derived.Test.YtcnldbhkppfmmaaDoorLotA
import Derived.Deep.RegionHeld3
import Derived.RegionTactic
namespace Go.Proofs.YtcnldbhkppfmmaaDoor
open Go.RowKit
set_option linter.unusedVariables false
set_option linter.unusedSimpArgs false

theorem RdP.ext {w : World} {A : Option Addr} {n c : Nat} {l : List Pl} (h : RdP w w.heap.size A n c l) (x : Ext w.heap.size w) : RdP x.val x.val.heap.size A n c l := (h.below x.ok).more x.ok.size
theorem RdM.ext {w : World} {A : Option Addr} {n c : Nat} {l : List Mv} (h : RdM w w.heap.size A n c l) (x : Ext w.heap.size w) : RdM x.val x.val.heap.size A n c l := (h.below x.ok).more x.ok.size
theorem grownBy_drew' {a b : World} {row : Option Nat} (h : a.grownBy b row) : a.grownBy b.drew row := ⟨h.os, h.tape, h.output, h.size, h.block⟩
theorem grownBy_drewN' {a b : World} {row : Option Nat} (h : a.grownBy b row) (k : Nat) : a.grownBy (b.drewN k) row := ⟨h.os, h.tape, h.output, h.size, h.block⟩
/-- append onto a row of the call's own, at a step of a region that draws its order; elements of k cells. -/
theorem step_appK {P : Program} {w : World} {k : Nat} {t e : TypeId} {z : Value} {bytes base B n m cm : Nat} {v : Value} {xs news : List Value} {Am : Option Addr} {ops : Array Oper} {o : Oper} {a : Act} {K : Act → World → Prop} {Q : Exit → Act → World → Prop} {D : Prop} (s x : Operand) (E : ElK P k t e z bytes)
    (hgd : o.guard = none) (ho : o.op = .call { callee := .builtin .append, args := #[s, x], argTypes := #[t, t] })
    (hs : a.eval s = v) (hx : a.eval x = .slice Am m cm)
    (hown : w.ownsRow base e k v n xs) (hr : RdK k w B Am m cm news) (h1 : ∀ u ∈ news, u.oneCell' = true)
    (hbytes : (n + m) * bytes ≤ 140737488355328) (h63 : n + m ≤ 140737488355328) (hbase : base ≤ w.heap.size)
    (h : ∀ v' w', w'.ownsRow base e k v' (n + m) (xs ++ news) → w.grownBy w' v.ownBlock → (v'.ownBlock = v.ownBlock ∨ v'.ownBlock = some w.heap.size) → K (a.put o.dst v') w') :
    if Region.wanted o (yielded ops a.tmps) = true then Oper.wp P o a w K Q else D := by
  have hw : Region.wanted o (yielded ops a.tmps) = true := by simp [Region.wanted, hgd]
  rw [if_pos hw]
  obtain ⟨v', w', hrun, h2, h3, h4⟩ := run_appK (ty := o.type) E hown hr h1 hbytes h63 hbase
  unfold Oper.wp execOp
  simp only [ho, resolve, invoke, builtin, Sem.run_bind, Sem.run_pure, Result.andThen_ok, List.map_toArray, List.map_cons, List.map_nil, hs, hx, hrun]
  exact h v' w' h2 h3 h4
/-- The lesson that was moved last. -/
def lastOf (ms : List Mv) (k : Nat) : Int := if k = 0 then -1 else (ms.getD (k - 1) ⟨0, (0, 0)⟩).lesson

set_option maxHeartbeats 1000000 in
theorem rapply_any (A A' : Option Addr) (n c m c' : Nat) (l : List Pl) (ms : List Mv) (w : World) (h : RdP w w.heap.size A n c l) (h' : RdM w w.heap.size A' m c' ms) (hn : n ≤ 1073741824) :
    Calls Tryd.prog 13 #[.agg #[.slice A n c], .slice A' m c'] w (ApplyPost l ms w) := by
  have hm := h.max
  have hm' := h'.max
  have hle := h.le
  have hle' := h'.le
  have hlen := Lib.hid h.len
  have hlen' := Lib.hid h'.len
  have hb2 := ((Below.refl w.heap.size w).alloc (Nat.le_refl _) (.cells #[.slice A n c] 24)).alloc (show w.heap.size ≤ (w.alloc (.cells #[.slice A n c] 24)).heap.size by simp) (.cells #[.slice none 0 0] 24)
  obtain ⟨W2, hW2⟩ : ∃ W2, W2 = ((w.alloc (.cells #[.slice A n c] 24)).alloc (.cells #[.slice none 0 0] 24)) := ⟨_, rfl⟩
  have hs2 : W2.heap.size = w.heap.size + 2 := by rw [hW2]; simp
  have x1 : W2.heap[w.heap.size]? = some (.cells #[.slice A n c] 24) := by rw [hW2]; exact (Below.heap_alloc _ _ _ (by simp)).trans (heap_alloc_new _ _)
  have x2 : W2.heap[w.heap.size + 1]? = some (.cells #[.slice none 0 0] 24) := by
    rw [hW2]; have := heap_alloc_new (w.alloc (.cells #[.slice A n c] 24)) (.cells #[.slice none 0 0] 24); rwa [World.size_alloc] at this
  rw [← hW2] at hb2
  have hr := (h.below hb2).more hb2.size
  have ho := World.ownsRow_lit (e := 55) (size := 2) W2 #[] 0 (Nat.le_refl _) (by unfold maxLen; omega) rfl
  have ha := hr.1.below ((Below.refl _ W2).alloc (Nat.le_refl _) (.cells #[] 55))
  rw [hW2] at ho ha
  simp only [World.size_alloc] at ho ha
  have hlo : ∀ g, (Value.slice (some ⟨W2.heap.size, 0, none⟩) 0 0).ownBlock = some g → W2.heap.size ≤ g := fun g hg => by cases hg; exact Nat.le_refl _
  clear hr
  go_enter Tryd.func13, Tryd.ntmps13
  go_wp2_with (at_builtin; refine wpList_appK _ _ elP ho ha (pv_one l) (by omega) (by omega) (by simp) rfl rfl rfl rfl ?_; intro v' w3 hown1 hg1 hat1; simp only [Nat.zero_add, List.nil_append] at hown1; obtain ⟨Av, cv, rfl, rv⟩ := own_rdK hown1)
  rw [← hW2] at hg1
  have hg1 : W2.grownBy w3 (some (w.heap.size + 1 + 1)) := grownBy_of_alloc hg1
  have hb3 : Below W2.heap.size W2 w3 := below_of_grown hg1 (Nat.le_refl _) (fun g hg => by cases hg; omega)
  have hown : w3.ownsRow W2.heap.size 55 2 (.slice Av n cv) n (pv l) := by rw [hs2]; exact hown1
  have hlt : ∀ g, (Value.slice Av n cv).ownBlock = some g → w.heap.size + 2 ≤ g ∧ g < w3.heap.size := fun g hg => hs2 ▸ hown.lt g hg
  clear ho ha hown1 hg1 hat1 hlo
  obtain ⟨W4, hW4⟩ : ∃ W4, W4 = w3.alloc (.cells #[.slice Av n cv] 24) := ⟨_, rfl⟩
  rw [← hW4]
  have hs4 : W4.heap.size = w3.heap.size + 1 := by rw [hW4]; simp
  have hown4 : W4.ownsRow (w.heap.size + 2) 55 2 (.slice Av n cv) n (pv l) := by rw [hW4, ← hs2]; exact hown.alloc _
  have hb4 : Below w.heap.size w W4 := by rw [hW4]; exact (hb2.trans (hb3.mono hb2.size)).alloc (Nat.le_trans hb2.size hb3.size) _
  have y1 : W4.heap[w.heap.size]? = some (.cells #[.slice A n c] 24) := by rw [hW4]; exact (Below.heap_alloc _ _ _ (by have := hb3.size; omega)).trans ((hb3.block _ (by omega)).trans x1)
  have y2 : W4.heap[w.heap.size + 1]? = some (.cells #[.slice none 0 0] 24) := by rw [hW4]; exact (Below.heap_alloc _ _ _ (by have := hb3.size; omega)).trans ((hb3.block _ (by omega)).trans x2)
  have y3 : W4.heap[w3.heap.size]? = some (.cells #[.slice Av n cv] 24) := by rw [hW4]; exact heap_alloc_new _ _
  have hs3 := hb3.size
  clear hW4 hown hb3 x1 x2 hb2 rv hW2
  have HA : Hid (∃ o, o = applyTo n l (-1) ms) := ⟨_, rfl⟩
  obtain ⟨o, ho⟩ := HA.out
  have HO : Hid (appL l ms = o.getD [] ∧ appE l ms = if o.isSome then 0 else 1) := by
    refine ⟨?_, ?_⟩
    · unfold appL; rw [hlen.out, ← ho]
    · unfold appE; rw [hlen.out, ← ho]
  go_loopw [7] (fun i wr => ∃ (k : Nat) (x : List Pl), k ≤ m ∧ i = .int .i64 k ∧ x.length = n ∧ -1 ≤ lastOf ms k ∧ o = applyTo n x (lastOf ms k) (ms.drop k) ∧
    wr.ownsRow (w.heap.size + 2) 55 2 (.slice Av n cv) n (pv x) ∧ W4.grownBy wr (Value.slice Av n cv).ownBlock) (fun i _ => m - (intOf i).toNat)
  case atStart => exact ⟨0, l, by omega, rfl, hlen.out, by simp [lastOf], by rw [ho]; rfl, hown4, World.grownBy.refl _ _⟩
  case round =>
    obtain ⟨k, x, hk, rfl, hx, hla, hoz, hown, hg⟩ := hrel
    have HX := Lib.hid hx
    have HZ := Lib.hid hoz
    clear hx hoz ho HA
    have ne1 : some w.heap.size ≠ (Value.slice Av n cv).ownBlock := fun e => by have := (hlt _ e.symm).1; omega
    have ne2 : some (w.heap.size + 1) ≠ (Value.slice Av n cv).ownBlock := fun e => by have := (hlt _ e.symm).1; omega
    have ne3 : some w3.heap.size ≠ (Value.slice Av n cv).ownBlock := fun e => by have := (hlt _ e.symm).2; omega
    have z1 := (hg.block _ (by omega) ne1).trans y1
    have z2 := (hg.block _ (by omega) ne2).trans y2
    have z3 := (hg.block _ (by omega) ne3).trans y3
    have hbr : Below w.heap.size w wr := hb4.grown hg hb4.size (fun g e => by have := (hlt g e).1; omega)
    have hsr := hg.size
    have u1 : wr.cell? ⟨w.heap.size, 0, none⟩ = some (.slice A n c) := cell_of_row wr _ 0 _ _ _ z1
    have u2 : wr.cell? ⟨w.heap.size + 1, 0, none⟩ = some (.slice none 0 0) := cell_of_row wr _ 0 _ _ _ z2
    have u3 : wr.cell? ⟨w3.heap.size, 0, none⟩ = some (.slice Av n cv) := cell_of_row wr _ 0 _ _ _ z3
    have f2 : wr.frozen? ⟨w.heap.size + 1, 0, none⟩ = false := frozen_of_row wr _ 0 _ _ z2
    have hend : ∀ v : Value, (wr.setCell ⟨w.heap.size + 1, 0, none⟩ v).heap[w.heap.size + 1]? = some (.cells #[v] 24) := fun v => heap_setCell_same wr _ 0 _ _ v z2
    have hbe : ∀ v : Value, Below w.heap.size w (wr.setCell ⟨w.heap.size + 1, 0, none⟩ v) := fun v => hbr.setCell (p := ⟨w.heap.size + 1, 0, none⟩) (by simp) v
    by_cases hkn : k < m
    · have hkl : k < ms.length := by rw [hlen'.out]; exact hkn
      have hrd := h'.below hbr
      obtain ⟨ad, rfl, hab, c1, c2, c3, ok1, ok2, ok3⟩ := hrd.at_ hkn hkl
      have HD : Hid (ms.drop k = ms[k] :: ms.drop (k + 1)) := List.drop_eq_getElem_cons hkl
      have HN : Hid (lastOf ms (k + 1) = ms[k].lesson) := by
        show lastOf ms (k + 1) = _
        unfold lastOf
        rw [if_neg (by omega), Nat.add_sub_cancel, List.getD_eq_getElem?_getD, List.getElem?_eq_getElem hkl]; rfl
      have d5 : decide ((k : Int) < (m : Int)) = true := by simp; omega
      generalize ms[k] = mo at *
      obtain ⟨le, t1, t2⟩ := mo
      dsimp only at *
      have hbad : (le < 0 ∨ (n : Int) ≤ le ∨ le ≤ lastOf ms k) → o = none := fun hb => by
        rw [HZ.out, HD.out]
        simp only [applyTo]
        rw [if_pos (by omega)]
      have HBAD := Lib.hid hbad
      have hfin : o = none → ∀ wz : World, Below w.heap.size w wz → ApplyPost l ms w (.returned (.tuple #[.agg #[.slice none 0 0], .int .i64 1])) wz := fun ho wz hz =>
        ⟨.slice none 0 0, by rw [HO.out.2, ho]; rfl, by rw [HO.out.1, ho]; exact World.ownsRow_nil _ _ _ _, hz⟩
      have HFIN := Lib.hid hfin
      clear hbad hfin
      by_cases hneg : le < 0
      · have d1 : decide (le < 0) = true := decide_eq_true hneg
        go_wp2
        refine bodyPost_ret (results_cell_row2 rfl _ _ (w.heap.size + 1) 24 #[.slice none 0 0] (0, 0) _ rfl (hend _) Tryd.underlying24 rfl infoWeek) rfl ?_
        exact HFIN.out (HBAD.out (.inl hneg)) _ (hbe _)
      · have d1 : decide (le < 0) = false := decide_eq_false hneg
        by_cases hbig : (n : Int) ≤ le
        · have d2 : decide ((n : Int) ≤ le) = true := decide_eq_true hbig
          go_wp2
          refine bodyPost_ret (results_cell_row2 rfl _ _ (w.heap.size + 1) 24 #[.slice none 0 0] (0, 0) _ rfl (hend _) Tryd.underlying24 rfl infoWeek) rfl ?_
          exact HFIN.out (HBAD.out (.inr (.inl hbig))) _ (hbe _)
        · have d2 : decide ((n : Int) ≤ le) = false := decide_eq_false hbig
          obtain ⟨q, rfl⟩ := Int.eq_ofNat_of_zero_le (show 0 ≤ le by omega)
          have hqn : q < n := by omega
          have e1 : decide (q < n) = true := decide_eq_true hqn
          have e2 : decide (n ≤ q) = false := decide_eq_false (by omega)
          obtain ⟨g, cap, hAv, hg1, hg2⟩ := hown.form (by omega)
          injection hAv with ha _ hcv
          subst ha hcv
          have q1 := hown.cellAt (q * 2) (by omega)
          have q2 := hown.cellAt (q * 2 + 1) (by omega)
          have r1 : (pv x)[q * 2]? = some (.int .i64 (x[q]'(by rw [HX.out]; exact hqn)).1) := by
            have := flat_get pcell_length x q 0 (by rw [HX.out]; exact hqn) (by omega); exact this
          have r2 : (pv x)[q * 2 + 1]? = some (.int .i64 (x[q]'(by rw [HX.out]; exact hqn)).2) := by
            have := flat_get pcell_length x q 1 (by rw [HX.out]; exact hqn) (by omega); exact this
          rw [r1] at q1
          rw [r2] at q2
          clear r1 r2
          have hf1 := hown.frozenAt (q * 2)
          have hf2 := hown.frozenAt (q * 2 + 1)
          obtain ⟨hst1, hgs1⟩ := hown.stored (q * 2) (.int .i64 t1)
          obtain ⟨hst2, hgs2⟩ := hst1.stored (q * 2 + 1) (.int .i64 t2)
          rw [pv_set2 x q (t1, t2) (by rw [HX.out]; exact hqn)] at hst2
          have hgs := grownBy_trans hg (grownBy_trans hgs1 hgs2)
          clear hst1 hgs1 hgs2
          generalize x[q]'(by rw [HX.out]; exact hqn) = old at *
          rcases Nat.eq_zero_or_pos k with hk0 | hk0
          · have dk : decide ((0 : Int) < (k : Int)) = false := decide_eq_false (by omega)
            have dk' : decide (0 < k) = false := decide_eq_false (by omega)
            have HK0 := Lib.hid hk0
            clear hk0
            go_wp2
            go_region
            go_wp2
            go_roundw
            case rel =>
              refine ⟨k + 1, x.set q (t1, t2), by omega, by go_num, by rw [List.length_set]; exact HX.out, by rw [HN.out]; omega, ?_, own_drew hst2, grownBy_drew' hgs⟩
              rw [HZ.out, HD.out, HN.out]
              simp only [applyTo]
              rw [if_neg (by have := HK0.out; subst this; simp [lastOf]; omega)]
              rfl
            case measure => simp [intOf]; omega
          · obtain ⟨j, hj⟩ : ∃ j, j + 1 = k := ⟨k - 1, by omega⟩
            have hjl : j < ms.length := by omega
            obtain ⟨ad', he, _, b1, _, _, _⟩ := hrd.at_ (show j < m by omega) hjl
            injection he with he
            subst he
            have HL : Hid (lastOf ms k = ms[j].lesson) := by
              show lastOf ms k = _
              unfold lastOf
              rw [if_neg (by omega), show k - 1 = j by omega, List.getD_eq_getElem?_getD, List.getElem?_eq_getElem hjl]; rfl
            generalize ms[j] = mj at *
            have kj : (k : Int) - 1 = (j : Int) := by omega
            have kj2 : (j : Int) < (m : Int) := by omega
            have dk : decide ((0 : Int) < (k : Int)) = true := decide_eq_true (by omega)
            have dk' : decide (0 < k) = true := decide_eq_true (by omega)
            have HJ := Lib.hid hj
            clear hj
            by_cases hold : (q : Int) ≤ mj.lesson
            · have d3 : decide ((q : Int) ≤ mj.lesson) = true := decide_eq_true hold
              go_wp2
              refine bodyPost_ret (results_cell_row2 rfl _ _ (w.heap.size + 1) 24 #[.slice none 0 0] (0, 0) _ rfl (hend _) Tryd.underlying24 rfl infoWeek) rfl ?_
              exact HFIN.out (HBAD.out (.inr (.inr (by rw [HL.out]; exact hold)))) _ (hbe _)
            · have d3 : decide ((q : Int) ≤ mj.lesson) = false := decide_eq_false hold
              go_wp2
              go_region
              go_wp2
              go_roundw
              case rel =>
                refine ⟨k + 1, x.set q (t1, t2), by omega, by go_num, by rw [List.length_set]; exact HX.out, by rw [HN.out]; omega, ?_, own_drew hst2, grownBy_drew' hgs⟩
                rw [HZ.out, HD.out, HN.out]
                simp only [applyTo]
                rw [if_neg (by rw [HL.out]; omega)]
                rfl
              case measure => simp [intOf]; omega
    · obtain rfl : k = m := by omega
      have d5 : decide ((k : Int) < (k : Int)) = false := by simp
      have ho : o = some x := by rw [HZ.out, List.drop_of_length_le (by rw [hlen'.out]; omega)]; rfl
      go_wp2_with fail
      refine bodyPost_ret (results_cell_row2 rfl _ _ (w.heap.size + 1) 24 #[.slice Av n cv] (0, 0) _ rfl (hend _) Tryd.underlying24 rfl infoWeek) rfl ?_
      refine ⟨.slice Av n cv, ?_, ?_, hbe _⟩
      · rw [HO.out.2, ho]; rfl
      · rw [HO.out.1, ho]
        show World.ownsRow _ _ _ _ _ x.length (pv x)
        rw [HX.out]
        refine own_set (own_mono hown (by omega)) (fun g hg => ?_)
        have := (hlt g hg).1
        simp
        omega
end Go.Proofs.YtcnldbhkppfmmaaDoor
