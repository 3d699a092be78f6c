/-
  week.Apply and the reference's Apply.
-/
import Derived.Test.YtojbjaklngdlcaaGreatDoorDiffW
import Derived.Test.YtojbjaklngdlcaaGreatDoorLotA
import Derived.Laws.ResultCell
import Derived.Laws.Rows
namespace Go.Proofs.YtojbjaklngdlcaaGreatDoor
open Go.RowKit
set_option linter.unusedVariables false
set_option linter.unusedSimpArgs false

/-- The moves applied one by one to x, a week of N lessons; 'last': the last lesson that was moved. -/
def applyTo (N : Nat) : List Pl → Int → List Mv → Option (List Pl)
  | x, _, [] => some x
  | x, last, m :: r => if m.lesson ≤ last ∨ (N : Int) ≤ m.lesson then none else applyTo N (x.set m.lesson.toNat m.to) m.lesson r
def appL (l : List Pl) (ms : List Mv) : List Pl := (applyTo l.length l (-1) ms).getD []
def appE (l : List Pl) (ms : List Mv) : Int := if (applyTo l.length l (-1) ms).isSome then 0 else 1
theorem okPs_set {x : List Pl} {p : Pl} (h : okPs x) (hp : okI p.1 ∧ okI p.2) (i : Nat) : okPs (x.set i p) := by
  intro q hq
  rcases List.mem_or_eq_of_mem_set hq with h' | rfl
  · exact h q h'
  · exact hp
theorem applyTo_ok {N : Nat} {ms : List Mv} : ∀ {x y : List Pl} {last : Int}, okPs x → okMs ms → applyTo N x last ms = some y → okPs y ∧ y.length = x.length := by
  induction ms with
  | nil => intro x y last hx _ h; simp only [applyTo] at h; cases h; exact ⟨hx, rfl⟩
  | cons m r ih =>
    intro x y last hx hm h
    simp only [applyTo] at h
    split at h
    · cases h
    · have h1 := hm m (List.mem_cons_self ..)
      obtain ⟨a, b⟩ := ih (okPs_set hx h1.2 _) (fun m' h' => hm m' (List.mem_cons_of_mem _ h')) h
      exact ⟨a, by rw [b, List.length_set]⟩
theorem okPs_appL {l : List Pl} {ms : List Mv} (hl : okPs l) (hm : okMs ms) : okPs (appL l ms) := by
  unfold appL
  cases h : applyTo l.length l (-1) ms with
  | none => intro p hp; simp at hp
  | some y => exact (applyTo_ok hl hm h).1

theorem pv_set2 (x : List Pl) (i : Nat) (p : Pl) (hi : i < x.length) : ((pv x).set (i * 2) (.int .i64 p.1)).set (i * 2 + 1) (.int .i64 p.2) = pv (x.set i p) := by
  induction x generalizing i with
  | nil => simp at hi
  | cons q r ih =>
    cases i with
    | zero => simp [pv, pcell]
    | succ i =>
      have := ih i (by simpa using hi)
      rw [show (i + 1) * 2 = i * 2 + 2 by omega]
      simp only [pv, List.flatMap_cons, pcell, List.cons_append, List.nil_append, List.set_cons_succ] at this ⊢
      rw [this]

/-- What Apply hands back. -/
def ApplyPost (l : List Pl) (ms : List Mv) (w : World) (e : Ending) (w' : World) : Prop :=
  ∃ v, e = .returned (.tuple #[.agg #[v], .int .i64 (appE l ms)]) ∧ w'.ownsRow w.heap.size 62 2 v (appL l ms).length (pv (appL l ms)) ∧ Below w.heap.size w w'

theorem grownBy_trans {a b c : World} {row : Option Nat} (h : a.grownBy b row) (h' : b.grownBy c row) : a.grownBy c row :=
  ⟨h'.os.trans h.os, h'.tape.trans h.tape, h'.output.trans h.output, Nat.le_trans h.size h'.size, fun k hk hne => (h'.block k (Nat.lt_of_lt_of_le hk h.size) hne).trans (h.block k hk hne)⟩

theorem infoWeek : (Tryz.prog.info? 31).map (·.size) = some 1 := by kernel_rfl

set_option maxHeartbeats 1000000 in
theorem apply_any (A A' : Option Addr) (n c m c' : Nat) (l : List Pl) (ms : List Mv) (w : World) (h : RdP w w.heap.size A n c l) (h' : RdM w w.heap.size A' m c' ms) (hn : n ≤ 1073741824) :
    Calls Tryz.prog 27 #[.agg #[.slice A n c], .slice A' m c'] w (ApplyPost l ms w) := by
  have hm := h.max
  have hm' := h'.max
  have hle := h.le
  have hle' := h'.le
  have hlen := Lib.hid h.len
  have hlen' := Lib.hid h'.len
  have hb2 := ((Below.refl w.heap.size w).alloc (Nat.le_refl _) (.cells #[.slice A n c] 31)).alloc (show w.heap.size ≤ (w.alloc (.cells #[.slice A n c] 31)).heap.size by simp) (.cells #[.slice none 0 0] 31)
  go_enter Tryz.func27, Tryz.ntmps27
  go_wp2_with fail
  obtain ⟨W2, hW2⟩ : ∃ W2, W2 = ((w.alloc (.cells #[.slice A n c] 31)).alloc (.cells #[.slice none 0 0] 31)) := ⟨_, rfl⟩
  have hs2 : W2.heap.size = w.heap.size + 2 := by rw [hW2]; simp
  have x1 : W2.heap[w.heap.size]? = some (.cells #[.slice A n c] 31) := by rw [hW2]; exact (Below.heap_alloc _ _ _ (by simp)).trans (heap_alloc_new _ _)
  have x2 : W2.heap[w.heap.size + 1]? = some (.cells #[.slice none 0 0] 31) := by
    rw [hW2]; have := heap_alloc_new (w.alloc (.cells #[.slice A n c] 31)) (.cells #[.slice none 0 0] 31); rwa [World.size_alloc] at this
  rw [← hW2] at hb2 ⊢
  have hr := (h.below hb2).more hb2.size
  clear hW2
  refine (cloneP_any A n c l W2 hr (by omega)).mono ?_
  rintro e w3 ⟨v, rfl, hown, hb3⟩
  obtain ⟨Av, cv, rfl, rv⟩ := own_rdK hown
  have hlt : ∀ g, (Value.slice Av n cv).ownBlock = some g → w.heap.size + 2 ≤ g ∧ g < w3.heap.size := fun g hg => hs2 ▸ hown.lt g hg
  go_wp2_with fail
  obtain ⟨W4, hW4⟩ : ∃ W4, W4 = w3.alloc (.cells #[.slice Av n cv] 31) := ⟨_, rfl⟩
  rw [← hW4]
  have hs4 : W4.heap.size = w3.heap.size + 1 := by rw [hW4]; simp
  have hown4 : W4.ownsRow (w.heap.size + 2) 62 2 (.slice Av n cv) n (pv l) := by rw [hW4, ← hs2]; exact hown.alloc _
  have hb4 : Below w.heap.size w W4 := by rw [hW4]; exact (hb2.trans (hb3.mono hb2.size)).alloc (hb2.trans (hb3.mono hb2.size)).size _
  have y1 : W4.heap[w.heap.size]? = some (.cells #[.slice A n c] 31) := by rw [hW4]; exact ((Below.heap_alloc _ _ _ (by have := hb3.size; omega)).trans (hb3.block _ (by omega))).trans x1
  have y2 : W4.heap[w.heap.size + 1]? = some (.cells #[.slice none 0 0] 31) := by rw [hW4]; exact ((Below.heap_alloc _ _ _ (by have := hb3.size; omega)).trans (hb3.block _ (by omega))).trans x2
  have y3 : W4.heap[w3.heap.size]? = some (.cells #[.slice Av n cv] 31) := by rw [hW4]; exact heap_alloc_new _ _
  have hs3 := hb3.size
  clear hW4 hown hb3 x1 x2 hb2 hr rv
  have HA : Hid (∃ o, o = applyTo n l (-1) ms) := ⟨_, rfl⟩
  obtain ⟨o, ho⟩ := HA.out
  have HO : Hid (appL l ms = o.getD [] ∧ appE l ms = if o.isSome then 0 else 1) := by
    refine ⟨?_, ?_⟩
    · unfold appL; rw [hlen.out, ← ho]
    · unfold appE; rw [hlen.out, ← ho]
  go_loopw [16, 7] (fun i la wr => ∃ (k : Nat) (x : List Pl) (z : Int), k ≤ m ∧ i = .int .i64 k ∧ la = .int .i64 z ∧ x.length = n ∧ -1 ≤ z ∧ o = applyTo n x z (ms.drop k) ∧
    wr.ownsRow (w.heap.size + 2) 62 2 (.slice Av n cv) n (pv x) ∧ W4.grownBy wr (Value.slice Av n cv).ownBlock) (fun i _ _ => m - (intOf i).toNat)
  case atStart => exact ⟨0, l, -1, by omega, rfl, rfl, hlen.out, by omega, by rw [ho]; rfl, hown4, World.grownBy.refl _ _⟩
  case round =>
    obtain ⟨k, x, z, hk, rfl, rfl, hx, hz, hoz, hown, hg⟩ := hrel
    have HX := Lib.hid hx
    have HZ := Lib.hid hoz
    clear hx hoz ho HA
    have ne1 : some w.heap.size ≠ (Value.slice Av n cv).ownBlock := fun e => by have := (hlt _ e.symm).1; omega
    have ne2 : some (w.heap.size + 1) ≠ (Value.slice Av n cv).ownBlock := fun e => by have := (hlt _ e.symm).1; omega
    have ne3 : some w3.heap.size ≠ (Value.slice Av n cv).ownBlock := fun e => by have := (hlt _ e.symm).2; omega
    have z1 := (hg.block _ (by omega) ne1).trans y1
    have z2 := (hg.block _ (by omega) ne2).trans y2
    have z3 := (hg.block _ (by omega) ne3).trans y3
    have hbr : Below w.heap.size w wr := hb4.grown hg hb4.size (fun g e => by have := (hlt g e).1; omega)
    have hsr := hg.size
    by_cases hkn : k < m
    · have hkl : k < ms.length := by rw [hlen'.out]; exact hkn
      obtain ⟨ad, rfl, hab, c1, c2, c3, ok1, ok2, ok3⟩ := (h'.below hbr).at_ hkn hkl
      have HD : Hid (ms.drop k = ms[k] :: ms.drop (k + 1)) := List.drop_eq_getElem_cons hkl
      have d5 : decide ((k : Int) < (m : Int)) = true := by simp; omega
      generalize ms[k] = mo at *
      obtain ⟨le, t1, t2⟩ := mo
      dsimp only at *
      obtain ⟨W5, hW5⟩ : ∃ W5, W5 = wr.alloc (.cells #[.int .i64 le, .int .i64 t1, .int .i64 t2] 64) := ⟨_, rfl⟩
      have hg5 : W4.grownBy W5 (Value.slice Av n cv).ownBlock := by rw [hW5]; exact grownBy_trans hg (World.grownBy_alloc _ _ _)
      have hown5 : W5.ownsRow (w.heap.size + 2) 62 2 (.slice Av n cv) n (pv x) := by rw [hW5]; exact hown.alloc _
      have hbr5 : Below w.heap.size w W5 := hb4.grown hg5 hb4.size (fun g e => by have := (hlt g e).1; omega)
      have u1 : W5.cell? ⟨w.heap.size, 0, none⟩ = some (.slice A n c) := cell_of_row W5 _ 0 _ _ _ ((hg5.block _ (by omega) ne1).trans y1)
      have u2 : W5.cell? ⟨w.heap.size + 1, 0, none⟩ = some (.slice none 0 0) := cell_of_row W5 _ 0 _ _ _ ((hg5.block _ (by omega) ne2).trans y2)
      have u3 : W5.cell? ⟨w3.heap.size, 0, none⟩ = some (.slice Av n cv) := cell_of_row W5 _ 0 _ _ _ ((hg5.block _ (by omega) ne3).trans y3)
      have f2 : W5.frozen? ⟨w.heap.size + 1, 0, none⟩ = false := frozen_of_row W5 _ 0 _ _ ((hg5.block _ (by omega) ne2).trans y2)
      have u4 : W5.cell? ⟨wr.heap.size, 0, none⟩ = some (.int .i64 le) := by rw [hW5]; simp [go_sem]
      have u5 : W5.cell? ⟨wr.heap.size, 1, none⟩ = some (.int .i64 t1) := by rw [hW5]; simp [go_sem]
      have u6 : W5.cell? ⟨wr.heap.size, 2, none⟩ = some (.int .i64 t2) := by rw [hW5]; simp [go_sem]
      have hend : ∀ v : Value, (W5.setCell ⟨w.heap.size + 1, 0, none⟩ v).heap[w.heap.size + 1]? = some (.cells #[v] 31) := fun v =>
        heap_setCell_same W5 _ 0 _ _ v ((hg5.block _ (by omega) ne2).trans y2)
      have hbe : ∀ v : Value, Below w.heap.size w (W5.setCell ⟨w.heap.size + 1, 0, none⟩ v) := fun v => hbr5.setCell (p := ⟨w.heap.size + 1, 0, none⟩) (by simp) v
      by_cases hbad : le ≤ z
      · have d1 : decide (le ≤ z) = true := by simpa using hbad
        have ho : o = none := by rw [HZ.out, HD.out]; simp only [applyTo]; rw [if_pos (.inl hbad)]
        subst ho
        rw [hW5] at u1 u2 u3 f2 u4 u5 u6 hend hbe
        go_wp2
        refine bodyPost_ret (results_cell_row2 rfl _ _ (w.heap.size + 1) 31 #[.slice none 0 0] (0, 0) _ rfl (hend _) Tryz.underlying31 rfl infoWeek) rfl ?_
        refine ⟨.slice none 0 0, ?_, ?_, hbe _⟩
        · rw [HO.out.2]; rfl
        · rw [HO.out.1]; exact World.ownsRow_nil _ _ _ _
      · by_cases hbig : (n : Int) ≤ le
        · have d1 : decide (le ≤ z) = false := by simp; omega
          have d2 : decide ((n : Int) ≤ le) = true := by simp; omega
          have ho : o = none := by rw [HZ.out, HD.out]; simp only [applyTo]; rw [if_pos (.inr hbig)]
          subst ho
          rw [hW5] at u1 u2 u3 f2 u4 u5 u6 hend hbe
          go_wp2
          refine bodyPost_ret (results_cell_row2 rfl _ _ (w.heap.size + 1) 31 #[.slice none 0 0] (0, 0) _ rfl (hend _) Tryz.underlying31 rfl infoWeek) rfl ?_
          refine ⟨.slice none 0 0, ?_, ?_, hbe _⟩
          · rw [HO.out.2]; rfl
          · rw [HO.out.1]; exact World.ownsRow_nil _ _ _ _
        · have d1 : decide (le ≤ z) = false := by simp; omega
          have d2 : decide ((n : Int) ≤ le) = false := by simp; omega
          obtain ⟨q, rfl⟩ := Int.eq_ofNat_of_zero_le (show 0 ≤ le by omega)
          have hqn : q < n := by omega
          obtain ⟨g, cap, hAv, hg1, hg2⟩ := hown.form (by omega)
          injection hAv with ha _ hcv
          subst ha hcv
          have q1 := hown.cellAt (q * 2) (by omega)
          have q2 := hown.cellAt (q * 2 + 1) (by omega)
          have r1 : (pv x)[q * 2]? = some (.int .i64 (x[q]'(by rw [HX.out]; exact hqn)).1) := by
            have := flat_get pcell_length x q 0 (by rw [HX.out]; exact hqn) (by omega); exact this
          have r2 : (pv x)[q * 2 + 1]? = some (.int .i64 (x[q]'(by rw [HX.out]; exact hqn)).2) := by
            have := flat_get pcell_length x q 1 (by rw [HX.out]; exact hqn) (by omega); exact this
          rw [r1] at q1
          rw [r2] at q2
          clear r1 r2
          have hf1 := hown.frozenAt (q * 2)
          have hf2 := hown.frozenAt (q * 2 + 1)
          obtain ⟨hst1, hgs1⟩ := hown.stored (q * 2) (.int .i64 t1)
          obtain ⟨hst2, hgs2⟩ := hst1.stored (q * 2 + 1) (.int .i64 t2)
          rw [pv_set2 x q (t1, t2) (by rw [HX.out]; exact hqn)] at hst2
          have hgs := grownBy_trans hg (grownBy_trans hgs1 hgs2)
          clear hst1 hgs1 hgs2
          generalize x[q]'(by rw [HX.out]; exact hqn) = old at *
          rw [hW5] at u1 u2 u3 f2 u4 u5 u6
          go_wp2
          go_roundw
          case rel =>
            refine ⟨k + 1, x.set q (t1, t2), q, by omega, by go_num, rfl, by rw [List.length_set]; exact HX.out, by omega, ?_, hst2.alloc _, grownBy_trans hgs (World.grownBy_alloc _ _ _)⟩
            rw [HZ.out, HD.out]
            simp only [applyTo]
            rw [if_neg (by omega)]
            rfl
          case measure => simp [intOf]; omega
    · obtain rfl : k = m := by omega
      have d5 : decide ((k : Int) < (k : Int)) = false := by simp
      have u2 : wr.cell? ⟨w.heap.size + 1, 0, none⟩ = some (.slice none 0 0) := cell_of_row wr _ 0 _ _ _ z2
      have u3 : wr.cell? ⟨w3.heap.size, 0, none⟩ = some (.slice Av n cv) := cell_of_row wr _ 0 _ _ _ z3
      have f2 : wr.frozen? ⟨w.heap.size + 1, 0, none⟩ = false := frozen_of_row wr _ 0 _ _ z2
      have ho : o = some x := by rw [HZ.out, List.drop_of_length_le (by rw [hlen'.out]; omega)]; rfl
      have hend : ∀ v : Value, (wr.setCell ⟨w.heap.size + 1, 0, none⟩ v).heap[w.heap.size + 1]? = some (.cells #[v] 31) := fun v => heap_setCell_same wr _ 0 _ _ v z2
      have hbe : ∀ v : Value, Below w.heap.size w (wr.setCell ⟨w.heap.size + 1, 0, none⟩ v) := fun v => hbr.setCell (p := ⟨w.heap.size + 1, 0, none⟩) (by simp) v
      go_wp2_with fail
      refine bodyPost_ret (results_cell_row2 rfl _ _ (w.heap.size + 1) 31 #[.slice Av n cv] (0, 0) _ rfl (hend _) Tryz.underlying31 rfl infoWeek) rfl ?_
      refine ⟨.slice Av n cv, ?_, ?_, hbe _⟩
      · rw [HO.out.2, ho]; rfl
      · rw [HO.out.1, ho]
        show World.ownsRow _ _ _ _ _ x.length (pv x)
        rw [HX.out]
        refine ⟨hown.1, ?_⟩
        rcases hown.2 with hn0 | ⟨g, cap, cur, e1, e2, e3, e4⟩
        · exact .inl hn0
        · refine .inr ⟨g, cap, cur, e1, by omega, (heap_setCell_other wr _ g _ (fun e => ?_)).trans e3, e4⟩
          have : g = w.heap.size + 1 := by simpa using e
          omega
end Go.Proofs.YtojbjaklngdlcaaGreatDoor
