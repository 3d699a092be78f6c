/-
  feed.Reply and feed.Wish.
-/
import Derived.Test.YtmighpfjjaaknaaTakeW
import Derived.Deep.RegionHeld3
namespace Go.Proofs.Ytmighpfjjaaknaa
open Go.RowKit
set_option linter.unusedVariables false
set_option linter.unusedSimpArgs false

def zeroM : Mg := ⟨0, 0, 0, 0, [], []⟩
def zeroV : Ver := ⟨0, [], 0, false⟩
/-- What Reply answers. -/
def replyE (vs : List Ver) (no to : Int) : Int :=
  if checkB vs = true ∧ (0 ≤ no ∧ no ≤ 1099511627776) ∧ (0 ≤ to ∧ to ≤ 7) then (if (vs.length : Int) ≤ no then 341 else 0) else 1
def lastV (vs : List Ver) : Ver := vs.getD (vs.length - 1) zeroV
def replyM (vs : List Ver) (no to : Int) : Mg :=
  if replyE vs no to = 0 then
    (if 0 < no ∧ diffE (vs.getD (no.toNat - 1) zeroV).week (lastV vs).week = 0 then ⟨2, to, no, (lastV vs).no, [], diffL (vs.getD (no.toNat - 1) zeroV).week (lastV vs).week⟩ else ⟨1, to, 0, (lastV vs).no, (lastV vs).week, []⟩)
  else zeroM
/-- A message's value; what it leads to is new. -/
def MsgPost (x : Mg) (er : Int) (w : World) (e : Ending) (w' : World) : Prop :=
  ∃ v u, e = .returned (.tuple #[.agg #[.int .i64 x.kind, .int .i64 x.to, .int .i64 x.from_, .int .i64 x.no, v, u], .int .i64 er]) ∧
    w'.ownsRow w.heap.size 60 2 v x.week.length (pv x.week) ∧ w'.ownsRow w.heap.size 64 3 u x.moves.length (mv x.moves) ∧ Below w.heap.size w w'
theorem infoMsg : (Try.prog.info? 32).map (·.size) = some 6 := by kernel_rfl
theorem mzero {w w' : World} {C : Mg} {E : Int} {er : Int} (hC : C = zeroM) (hE : E = er) (hb : Below w.heap.size w w') : MsgPost C E w (.returned (.tuple #[.agg #[.int .i64 0, .int .i64 0, .int .i64 0, .int .i64 0, .slice none 0 0, .slice none 0 0], .int .i64 er])) w' := by
  subst hC hE
  exact ⟨.slice none 0 0, .slice none 0 0, rfl, World.ownsRow_nil _ _ _ _, World.ownsRow_nil _ _ _ _, hb⟩

theorem replyM_zero {vs : List Ver} {no to : Int} (h : replyE vs no to ≠ 0) : replyM vs no to = zeroM := if_neg h

theorem wish_any (no : Int) (v : Value) (to : Int) (w : World) :
    Calls Try.prog 18 #[.agg #[.int .i64 no, v], .int .i64 to] w fun e w' => e = .returned (.agg #[.int .i64 3, .int .i64 to, .int .i64 0, .int .i64 no, .slice none 0 0, .slice none 0 0]) ∧ Below w.heap.size w w' := by
  go_enter Try.func18, Try.ntmps18
  have x2 : ((w.alloc (.cells #[.int .i64 no, v] 27)).alloc (.cells #[.int .i64 3, .int .i64 to, .int .i64 0, .int .i64 no, .slice none 0 0, .slice none 0 0] 32)).heap[w.heap.size + 1]? = some (.cells #[.int .i64 3, .int .i64 to, .int .i64 0, .int .i64 no, .slice none 0 0, .slice none 0 0] 32) := by
    have := heap_alloc_new (w.alloc (.cells #[.int .i64 no, v] 27)) (.cells #[.int .i64 3, .int .i64 to, .int .i64 0, .int .i64 no, .slice none 0 0, .slice none 0 0] 32)
    rwa [World.size_alloc] at this
  have hb2 : Below w.heap.size w ((w.alloc (.cells #[.int .i64 no, v] 27)).alloc (.cells #[.int .i64 3, .int .i64 to, .int .i64 0, .int .i64 no, .slice none 0 0, .slice none 0 0] 32)) :=
    ((Below.refl _ w).alloc (Nat.le_refl _) _).alloc (by simp) _
  go_wp2_with fail
  exact bodyPost_ret (results_cell_row rfl _ _ (w.heap.size + 1) 32 _ (0, 0) _ rfl x2 Try.underlying32 rfl infoMsg) rfl ⟨rfl, hb2⟩

theorem below_undrew {B : Nat} {w w' : World} (h : Below B w.drew w') : Below B w w' := ⟨h.os, h.tape, h.output, h.size, h.block⟩
theorem heap_put6 {w : World} {b : Nat} {c0 c1 c2 c3 c4 c5 : Value} (h : w.heap[b]? = some (.cells #[c0, c1, c2, c3, c4, c5] 32)) (v0 v1 v2 v3 v4 v5 : Value) :
    ((((((w.setCell ⟨b, 0, none⟩ v0).setCell ⟨b, 1, none⟩ v1).setCell ⟨b, 2, none⟩ v2).setCell ⟨b, 3, none⟩ v3).setCell ⟨b, 4, none⟩ v4).setCell ⟨b, 5, none⟩ v5).heap[b]? = some (.cells #[v0, v1, v2, v3, v4, v5] 32) :=
  heap_setCell_same _ _ 5 _ _ v5 (heap_setCell_same _ _ 4 _ _ v4 (heap_setCell_same _ _ 3 _ _ v3 (heap_setCell_same _ _ 2 _ _ v2 (heap_setCell_same _ _ 1 _ _ v1 (heap_setCell_same w _ 0 _ _ v0 h)))))
theorem own_put6 {w : World} {base e size n b : Nat} {v : Value} {xs : List Value} (h : w.ownsRow base e size v n xs) (hb : ∀ g, v.ownBlock = some g → b ≠ g) (v0 v1 v2 v3 v4 v5 : Value) :
    ((((((w.setCell ⟨b, 0, none⟩ v0).setCell ⟨b, 1, none⟩ v1).setCell ⟨b, 2, none⟩ v2).setCell ⟨b, 3, none⟩ v3).setCell ⟨b, 4, none⟩ v4).setCell ⟨b, 5, none⟩ v5).ownsRow base e size v n xs :=
  own_set (own_set (own_set (own_set (own_set (own_set h hb) hb) hb) hb) hb) hb
theorem below_put6 {w0 w : World} {B b : Nat} (h : Below B w0 w) (hb : B ≤ b) (v0 v1 v2 v3 v4 v5 : Value) :
    Below B w0 ((((((w.setCell ⟨b, 0, none⟩ v0).setCell ⟨b, 1, none⟩ v1).setCell ⟨b, 2, none⟩ v2).setCell ⟨b, 3, none⟩ v3).setCell ⟨b, 4, none⟩ v4).setCell ⟨b, 5, none⟩ v5) :=
  (((((h.setCell (p := ⟨b, 0, none⟩) hb v0).setCell (p := ⟨b, 1, none⟩) hb v1).setCell (p := ⟨b, 2, none⟩) hb v2).setCell (p := ⟨b, 3, none⟩) hb v3).setCell (p := ⟨b, 4, none⟩) hb v4).setCell (p := ⟨b, 5, none⟩) hb v5

set_option maxRecDepth 20000 in
set_option maxHeartbeats 4000000 in
theorem reply_any (A : Option Addr) (n c : Nat) (vs : List Ver) (no to : Int) (w : World) (h : RdV w w.heap.size A n c vs) (hn : n ≤ 1073741824) (hw : ∀ v ∈ vs, v.week.length ≤ 1073741824) :
    Calls Try.prog 13 #[.slice A n c, .int .i64 no, .int .i64 to] w (MsgPost (replyM vs no to) (replyE vs no to) w) := by
  have hm := h.max
  have hle := h.le
  have hlen := Lib.hid h.len
  obtain ⟨W1, hW1⟩ : ∃ W1, W1 = w.alloc (.cells #[.int .i64 0, .int .i64 0, .int .i64 0, .int .i64 0, .slice none 0 0, .slice none 0 0] 32) := ⟨_, rfl⟩
  have hs1 : W1.heap.size = w.heap.size + 1 := by rw [hW1]; simp
  have x1 : W1.heap[w.heap.size]? = some (.cells #[.int .i64 0, .int .i64 0, .int .i64 0, .int .i64 0, .slice none 0 0, .slice none 0 0] 32) := by rw [hW1]; exact heap_alloc_new _ _
  have hb1 : Below w.heap.size w W1 := by rw [hW1]; exact (Below.refl _ _).alloc (Nat.le_refl _) _
  go_enter Try.func13, Try.ntmps13
  go_wp2_with fail
  rw [← hW1]
  clear hW1
  refine (check_any A n c vs W1 ((h.below hb1).more hb1.size)).mono ?_
  rintro e w2 ⟨rfl, hb2⟩
  have hbw2 : Below w.heap.size w w2 := hb1.trans (hb2.mono hb1.size)
  have x2 := (hb2.block _ (by omega)).trans x1
  have hs2 : w.heap.size < w2.heap.size := (Array.getElem?_eq_some_iff.1 x2).1
  have g0 : w2.cell? ⟨w.heap.size, 0, none⟩ = some (.int .i64 0) := cell_of_row w2 _ 0 _ _ _ x2
  have g1 : w2.cell? ⟨w.heap.size, 1, none⟩ = some (.int .i64 0) := cell_of_row w2 _ 1 _ _ _ x2
  have g2 : w2.cell? ⟨w.heap.size, 2, none⟩ = some (.int .i64 0) := cell_of_row w2 _ 2 _ _ _ x2
  have g3 : w2.cell? ⟨w.heap.size, 3, none⟩ = some (.int .i64 0) := cell_of_row w2 _ 3 _ _ _ x2
  have g4 : w2.cell? ⟨w.heap.size, 4, none⟩ = some (.slice none 0 0) := cell_of_row w2 _ 4 _ _ _ x2
  have g5 : w2.cell? ⟨w.heap.size, 5, none⟩ = some (.slice none 0 0) := cell_of_row w2 _ 5 _ _ _ x2
  have fz : ∀ j, w2.frozen? ⟨w.heap.size, j, none⟩ = false := fun j => frozen_of_row w2 _ j _ _ x2
  have f0 := fz 0
  have f1 := fz 1
  have f2 := fz 2
  have f3 := fz 3
  have f4 := fz 4
  have f5 := fz 5
  cases hck : checkB vs with
  | false =>
    have HC := Lib.hid hck
    clear hck
    have eb : errB false = 1 := rfl
    rw [eb]
    go_wp2_with fail
    refine bodyPost_ret (results_cell_row2 rfl _ _ w.heap.size 32 _ (0, 0) _ rfl (heap_put6 x2 _ _ _ _ _ _) Try.underlying32 rfl infoMsg) rfl ?_
    have er : replyE vs no to = 1 := by unfold replyE; rw [if_neg (by simp [HC.out])]
    exact mzero (replyM_zero (by rw [er]; decide)) er (below_put6 hbw2 (Nat.le_refl _) _ _ _ _ _ _)
  | true =>
    have HC := Lib.hid hck
    clear hck
    have eb : errB true = 0 := rfl
    rw [eb]
    go_wp2_with fail
    refine (within_any _ _ _ _).mono ?_
    rintro e w2' ⟨rfl, rfl⟩
    by_cases hno : 0 ≤ no ∧ no ≤ 1099511627776
    · have dn : decide (0 ≤ no ∧ no ≤ 1099511627776) = true := decide_eq_true hno
      go_wp2_with fail
      refine (within_any _ _ _ _).mono ?_
      rintro e w2' ⟨rfl, rfl⟩
      by_cases hto : 0 ≤ to ∧ to ≤ 7
      · have dt : decide (0 ≤ to ∧ to ≤ 7) = true := decide_eq_true hto
        by_cases hold : (n : Int) ≤ no
        · have dl : decide ((n : Int) ≤ no) = true := decide_eq_true hold
          go_wp2_with fail
          refine bodyPost_ret (results_cell_row2 rfl _ _ w.heap.size 32 _ (0, 0) _ rfl (heap_put6 x2 _ _ _ _ _ _) Try.underlying32 rfl infoMsg) rfl ?_
          have er : replyE vs no to = 341 := by unfold replyE; rw [if_pos ⟨HC.out, hno, hto⟩, if_pos (by rw [hlen.out]; exact hold)]
          exact mzero (replyM_zero (by rw [er]; decide)) er (below_put6 hbw2 (Nat.le_refl _) _ _ _ _ _ _)
        · have dl : decide ((n : Int) ≤ no) = false := decide_eq_false hold
          obtain ⟨k, rfl⟩ : ∃ k, n = k + 1 := ⟨n - 1, by omega⟩
          have HE : Hid (replyE vs no to = 0) := by
            show replyE vs no to = 0
            unfold replyE; rw [if_pos ⟨HC.out, hno, hto⟩, if_neg (by rw [hlen.out]; exact hold)]
          have hkl : k < vs.length := by rw [hlen.out]; omega
          have HL : Hid (lastV vs = vs[k]) := by
            show lastV vs = _
            unfold lastV; rw [hlen.out, Nat.add_sub_cancel, List.getD_eq_getElem?_getD, List.getElem?_eq_getElem hkl]; rfl
          have h2 := (h.below hbw2).more hbw2.size
          obtain ⟨ad, Al, cl, rfl, hab, c1, c2, c3, c4, hp, ok1, ok2⟩ := (h.below hbw2).at_ (show k < k + 1 by omega) hkl
          have hwl := hw _ (List.getElem_mem hkl)
          have HM : Hid (replyM vs no to = if 0 < no ∧ diffE (vs.getD (no.toNat - 1) zeroV).week vs[k].week = 0 then ⟨2, to, no, vs[k].no, [], diffL (vs.getD (no.toNat - 1) zeroV).week vs[k].week⟩ else ⟨1, to, 0, vs[k].no, vs[k].week, []⟩) := by
            show replyM vs no to = _
            unfold replyM; rw [if_pos HE.out, HL.out]
          generalize vs[k] = lv at *
          obtain ⟨lno, lw, lcost, lbest⟩ := lv
          dsimp only at *
          by_cases hpos : 0 < no
          · have dp : decide (0 < no) = true := decide_eq_true hpos
            obtain ⟨W3, hW3⟩ : ∃ W3, W3 = ((((((w2.setCell ⟨w.heap.size, 0, none⟩ (.int .i64 1)).setCell ⟨w.heap.size, 1, none⟩ (.int .i64 to)).setCell ⟨w.heap.size, 2, none⟩ (.int .i64 0)).setCell ⟨w.heap.size, 3, none⟩ (.int .i64 lno)).setCell ⟨w.heap.size, 4, none⟩ (.slice none 0 0)).setCell ⟨w.heap.size, 5, none⟩ (.slice none 0 0)).alloc (.cells #[.int .i64 lno, .slice Al lw.length cl, .int .i64 lcost, .bool lbest] 52) := ⟨_, rfl⟩
            have x3 : W3.heap[w.heap.size]? = some (.cells #[.int .i64 1, .int .i64 to, .int .i64 0, .int .i64 lno, .slice none 0 0, .slice none 0 0] 32) := by rw [hW3]; exact (Below.heap_alloc _ _ _ (by simp; omega)).trans (heap_put6 x2 _ _ _ _ _ _)
            have y3 : W3.heap[w2.heap.size]? = some (.cells #[.int .i64 lno, .slice Al lw.length cl, .int .i64 lcost, .bool lbest] 52) := by
              rw [hW3]; have := heap_alloc_new ((((((w2.setCell ⟨w.heap.size, 0, none⟩ (.int .i64 1)).setCell ⟨w.heap.size, 1, none⟩ (.int .i64 to)).setCell ⟨w.heap.size, 2, none⟩ (.int .i64 0)).setCell ⟨w.heap.size, 3, none⟩ (.int .i64 lno)).setCell ⟨w.heap.size, 4, none⟩ (.slice none 0 0)).setCell ⟨w.heap.size, 5, none⟩ (.slice none 0 0)) (.cells #[.int .i64 lno, .slice Al lw.length cl, .int .i64 lcost, .bool lbest] 52); simpa using this
            have hb3 : Below w.heap.size w W3 := by rw [hW3]; exact (below_put6 hbw2 (Nat.le_refl _) _ _ _ _ _ _).alloc (by simp; omega) _
            have hp3 : RdP W3 W3.heap.size Al lw.length cl lw := by
              have hq : Below w.heap.size w2 W3 := by rw [hW3]; exact (below_put6 (Below.refl _ _) (Nat.le_refl _) _ _ _ _ _ _).alloc (by simp; omega) _
              exact (hp.below hq).more (Nat.le_trans hbw2.size hq.size)
            go_wp2_with fail
            rw [← hW3]
            have hq3 : Below w.heap.size w2 W3 := by rw [hW3]; exact (below_put6 (Below.refl _ _) (Nat.le_refl _) _ _ _ _ _ _).alloc (by simp; omega) _
            clear hW3 g0 g1 g2 g3 g4 g5 f0 f1 f2 f3 f4 f5 fz x1 x2 c1 c2 c3 c4
            obtain ⟨q, rfl⟩ : ∃ q : Nat, no = (q : Int) + 1 := ⟨(no - 1).toNat, by omega⟩
            have hqk : q < k + 1 := by omega
            have hql : q < vs.length := by rw [hlen.out]; exact hqk
            have HQ : Hid (vs.getD (((q : Int) + 1).toNat - 1) zeroV = vs[q]) := by
              show vs.getD _ _ = _
              rw [show ((q : Int) + 1).toNat - 1 = q by omega, List.getD_eq_getElem?_getD, List.getElem?_eq_getElem hql]; rfl
            obtain ⟨ad', Aq, cq, he, _, d1, d2, d3, d4, hpq, _, _⟩ := (h.below (hbw2.trans hq3)).at_ hqk hql
            injection he with he
            subst he
            have hwq := hw _ (List.getElem_mem hql)
            rw [HQ.out] at HM
            clear HQ
            generalize vs[q] = qv at *
            obtain ⟨qno, qw, qcost, qbest⟩ := qv
            dsimp only at *
            have e0 : W3.cell? ⟨w2.heap.size, 1, none⟩ = some (.slice Al lw.length cl) := cell_of_row W3 _ 1 _ _ _ y3
            have kw : IntKind.i64.wrap ((q : Int) + 1 - 1) = (q : Int) := IntWalk.i64_in _ (by omega) |>.trans (by omega)
            have hpq' := hpq.more hb3.size
            have s1 : ad.block < w.heap.size := hab
            have i0 : (0 : Int) ≤ (q : Int) := by omega
            have i1 : (q : Int) < (k : Int) + 1 := by omega
            have hkp : ∀ w5 : World, Below W3.heap.size W3 w5 → w5.cell? ⟨(ad.add (q * 4)).block, (ad.add (q * 4)).off + 1, none⟩ = some (.slice Aq qw.length cq) ∧ w5.cell? ⟨w2.heap.size, 1, none⟩ = some (.slice Al lw.length cl) := fun w5 hb5 => ⟨(hb5.cell (p := ⟨(ad.add (q * 4)).block, (ad.add (q * 4)).off + 1, none⟩) (by have := hb3.size; dsimp only; rw [add_block]; omega)).trans d2, (hb5.cell (p := ⟨w2.heap.size, 1, none⟩) (Array.getElem?_eq_some_iff.1 y3).1).trans e0⟩
            have HKP := Lib.hid hkp
            clear hkp
            have HW := Lib.hid hw
            clear hw
            have kw2 : IntKind.i64.wrap (q : Int) = (q : Int) := IntWalk.i64_in _ (by omega)
            clear kw
            clear d1 d3 d4 dn dp dl hpos hno hold
            go_region_held3 (fun w' => w'.cell? ⟨(ad.add (q * 4)).block, (ad.add (q * 4)).off + 1, none⟩ = some (.slice Aq qw.length cq) ∧ w'.cell? ⟨w2.heap.size, 1, none⟩ = some (.slice Al lw.length cl))
              (first | go_keep | exact HKP.out _ (below_undrew hb5)) ((go_at_call 25; refine (diff_any Aq Al qw.length cq lw.length cl qw lw _ (by exact hpq') (by exact hp3) (by omega)).mono ?_; rintro e w5 ⟨v5, rfl, hown5, hb5⟩))
            have hb5' : Below W3.heap.size W3 w5 := below_undrew hb5
            clear hb5 HKP
            have hsz3 : w.heap.size < W3.heap.size := (Array.getElem?_eq_some_iff.1 x3).1
            have x5 := (hb5'.block _ hsz3).trans x3
            have e5 : w5.cell? ⟨w2.heap.size, 1, none⟩ = some (.slice Al lw.length cl) := (hb5'.cell (p := ⟨w2.heap.size, 1, none⟩) (Array.getElem?_eq_some_iff.1 y3).1).trans e0
            have hbw5 : Below w.heap.size w w5 := hb3.trans (hb5'.mono hb3.size)
            have hp5 : RdP w5 w5.heap.size Al lw.length cl lw := (hp3.below hb5').more hb5'.size
            obtain ⟨A5, c5, rfl, rv5⟩ := own_rdK hown5
            have hne5 : ∀ g, (Value.slice A5 (diffL qw lw).length c5).ownBlock = some g → w.heap.size ≠ g := fun g hg => by have := (hown5.lt g hg).1; have := hb3.size; simp at *; omega
            have hown5' : w5.ownsRow w.heap.size 64 3 (.slice A5 (diffL qw lw).length c5) (diffL qw lw).length (mv (diffL qw lw)) := own_mono hown5 hb3.size
            by_cases hde : diffE qw lw = 0
            · have hMM : replyM vs ((q : Int) + 1) to = ⟨2, to, (q : Int) + 1, lno, [], diffL qw lw⟩ := by rw [HM.out, if_pos ⟨by omega, hde⟩]
              have m0b : w5.cell? ⟨w.heap.size, 0, none⟩ = some (.int .i64 1) := cell_of_row w5 _ 0 _ _ _ x5
              have n0b : w5.frozen? ⟨w.heap.size, 0, none⟩ = false := frozen_of_row w5 _ 0 _ _ x5
              have m1b : w5.cell? ⟨w.heap.size, 1, none⟩ = some (.int .i64 to) := cell_of_row w5 _ 1 _ _ _ x5
              have n1b : w5.frozen? ⟨w.heap.size, 1, none⟩ = false := frozen_of_row w5 _ 1 _ _ x5
              have m2b : w5.cell? ⟨w.heap.size, 2, none⟩ = some (.int .i64 0) := cell_of_row w5 _ 2 _ _ _ x5
              have n2b : w5.frozen? ⟨w.heap.size, 2, none⟩ = false := frozen_of_row w5 _ 2 _ _ x5
              have m3b : w5.cell? ⟨w.heap.size, 3, none⟩ = some (.int .i64 lno) := cell_of_row w5 _ 3 _ _ _ x5
              have n3b : w5.frozen? ⟨w.heap.size, 3, none⟩ = false := frozen_of_row w5 _ 3 _ _ x5
              have m4b : w5.cell? ⟨w.heap.size, 4, none⟩ = some (.slice none 0 0) := cell_of_row w5 _ 4 _ _ _ x5
              have n4b : w5.frozen? ⟨w.heap.size, 4, none⟩ = false := frozen_of_row w5 _ 4 _ _ x5
              have m5b : w5.cell? ⟨w.heap.size, 5, none⟩ = some (.slice none 0 0) := cell_of_row w5 _ 5 _ _ _ x5
              have n5b : w5.frozen? ⟨w.heap.size, 5, none⟩ = false := frozen_of_row w5 _ 5 _ _ x5
              generalize diffL qw lw = dl at *
              generalize diffE qw lw = de at *
              subst hde
              go_wp2_with fail
              refine bodyPost_ret (results_cell_row2 rfl _ _ w.heap.size 32 _ (0, 0) _ rfl (heap_put6 (heap_setCell_same _ _ 5 _ _ _ (heap_setCell_same _ _ 2 _ _ _ (heap_setCell_same w5 _ 0 _ _ _ x5))) _ _ _ _ _ _) Try.underlying32 rfl infoMsg) rfl ?_
              first | rw [hMM, HE.out] | rw [HE.out]
              exact ⟨_, _, rfl, World.ownsRow_nil _ _ _ _, own_put6 (own_set (own_set (own_set hown5' hne5) hne5) hne5) hne5 _ _ _ _ _ _, below_put6 (((hbw5.setCell (p := ⟨w.heap.size, 0, none⟩) (Nat.le_refl _) _).setCell (p := ⟨w.heap.size, 2, none⟩) (Nat.le_refl _) _).setCell (p := ⟨w.heap.size, 5, none⟩) (Nat.le_refl _) _) (Nat.le_refl _) _ _ _ _ _ _⟩
            · have dde : (diffE qw lw == 0) = false := by simpa using hde
              go_wp2_with fail
              refine (cloneP_any Al lw.length cl lw w5 hp5 (by omega)).mono ?_
              rintro e w4 ⟨v, rfl, hown, hb4⟩
              obtain ⟨Av, cv, rfl, rv⟩ := own_rdK hown
              have hsz : w.heap.size < w5.heap.size := (Array.getElem?_eq_some_iff.1 x5).1
              have x4 := (hb4.block _ hsz).trans x5
              have hbw4 : Below w.heap.size w w4 := hbw5.trans (hb4.mono hbw5.size)
              have m0a : w4.cell? ⟨w.heap.size, 0, none⟩ = some (.int .i64 1) := cell_of_row w4 _ 0 _ _ _ x4
              have n0a : w4.frozen? ⟨w.heap.size, 0, none⟩ = false := frozen_of_row w4 _ 0 _ _ x4
              have m1a : w4.cell? ⟨w.heap.size, 1, none⟩ = some (.int .i64 to) := cell_of_row w4 _ 1 _ _ _ x4
              have n1a : w4.frozen? ⟨w.heap.size, 1, none⟩ = false := frozen_of_row w4 _ 1 _ _ x4
              have m2a : w4.cell? ⟨w.heap.size, 2, none⟩ = some (.int .i64 0) := cell_of_row w4 _ 2 _ _ _ x4
              have n2a : w4.frozen? ⟨w.heap.size, 2, none⟩ = false := frozen_of_row w4 _ 2 _ _ x4
              have m3a : w4.cell? ⟨w.heap.size, 3, none⟩ = some (.int .i64 lno) := cell_of_row w4 _ 3 _ _ _ x4
              have n3a : w4.frozen? ⟨w.heap.size, 3, none⟩ = false := frozen_of_row w4 _ 3 _ _ x4
              have m4a : w4.cell? ⟨w.heap.size, 4, none⟩ = some (.slice none 0 0) := cell_of_row w4 _ 4 _ _ _ x4
              have n4a : w4.frozen? ⟨w.heap.size, 4, none⟩ = false := frozen_of_row w4 _ 4 _ _ x4
              have m5a : w4.cell? ⟨w.heap.size, 5, none⟩ = some (.slice none 0 0) := cell_of_row w4 _ 5 _ _ _ x4
              have n5a : w4.frozen? ⟨w.heap.size, 5, none⟩ = false := frozen_of_row w4 _ 5 _ _ x4
              have hne4 : ∀ g, (Value.slice Av lw.length cv).ownBlock = some g → w.heap.size ≠ g := fun g hg => by have := (hown.lt g hg).1; omega
              have hown4 := own_mono hown hbw5.size
              have hMM : replyM vs ((q : Int) + 1) to = ⟨1, to, 0, lno, lw, []⟩ := by rw [HM.out, if_neg (fun h => hde h.2)]
              go_wp2_with fail
              refine bodyPost_ret (results_cell_row2 rfl _ _ w.heap.size 32 _ (0, 0) _ rfl (heap_put6 (heap_setCell_same w4 _ 4 _ _ _ x4) _ _ _ _ _ _) Try.underlying32 rfl infoMsg) rfl ?_
              first | rw [hMM, HE.out] | rw [HE.out]
              exact ⟨_, _, rfl, own_put6 (own_set hown4 hne4) hne4 _ _ _ _ _ _, World.ownsRow_nil _ _ _ _, below_put6 (hbw4.setCell (p := ⟨w.heap.size, 4, none⟩) (Nat.le_refl _) _) (Nat.le_refl _) _ _ _ _ _ _⟩
          · have dp : decide (0 < no) = false := decide_eq_false hpos
            obtain ⟨W3, hW3⟩ : ∃ W3, W3 = ((((((w2.setCell ⟨w.heap.size, 0, none⟩ (.int .i64 1)).setCell ⟨w.heap.size, 1, none⟩ (.int .i64 to)).setCell ⟨w.heap.size, 2, none⟩ (.int .i64 0)).setCell ⟨w.heap.size, 3, none⟩ (.int .i64 lno)).setCell ⟨w.heap.size, 4, none⟩ (.slice none 0 0)).setCell ⟨w.heap.size, 5, none⟩ (.slice none 0 0)).alloc (.cells #[.int .i64 lno, .slice Al lw.length cl, .int .i64 lcost, .bool lbest] 52) := ⟨_, rfl⟩
            have x3 : W3.heap[w.heap.size]? = some (.cells #[.int .i64 1, .int .i64 to, .int .i64 0, .int .i64 lno, .slice none 0 0, .slice none 0 0] 32) := by rw [hW3]; exact (Below.heap_alloc _ _ _ (by simp; omega)).trans (heap_put6 x2 _ _ _ _ _ _)
            have y3 : W3.heap[w2.heap.size]? = some (.cells #[.int .i64 lno, .slice Al lw.length cl, .int .i64 lcost, .bool lbest] 52) := by
              rw [hW3]; have := heap_alloc_new ((((((w2.setCell ⟨w.heap.size, 0, none⟩ (.int .i64 1)).setCell ⟨w.heap.size, 1, none⟩ (.int .i64 to)).setCell ⟨w.heap.size, 2, none⟩ (.int .i64 0)).setCell ⟨w.heap.size, 3, none⟩ (.int .i64 lno)).setCell ⟨w.heap.size, 4, none⟩ (.slice none 0 0)).setCell ⟨w.heap.size, 5, none⟩ (.slice none 0 0)) (.cells #[.int .i64 lno, .slice Al lw.length cl, .int .i64 lcost, .bool lbest] 52); simpa using this
            have hb3 : Below w.heap.size w W3 := by rw [hW3]; exact (below_put6 hbw2 (Nat.le_refl _) _ _ _ _ _ _).alloc (by simp; omega) _
            have hp3 : RdP W3 W3.heap.size Al lw.length cl lw := by
              have hq : Below w.heap.size w2 W3 := by rw [hW3]; exact (below_put6 (Below.refl _ _) (Nat.le_refl _) _ _ _ _ _ _).alloc (by simp; omega) _
              exact (hp.below hq).more (Nat.le_trans hbw2.size hq.size)
            go_wp2_with fail
            rw [← hW3]
            clear hW3
            refine (cloneP_any Al lw.length cl lw W3 hp3 (by omega)).mono ?_
            rintro e w4 ⟨v, rfl, hown, hb4⟩
            obtain ⟨Av, cv, rfl, rv⟩ := own_rdK hown
            have hsz : w.heap.size < W3.heap.size := (Array.getElem?_eq_some_iff.1 x3).1
            have x4 := (hb4.block _ hsz).trans x3
            have hbw4 : Below w.heap.size w w4 := hb3.trans (hb4.mono hb3.size)
            have m0a : w4.cell? ⟨w.heap.size, 0, none⟩ = some (.int .i64 1) := cell_of_row w4 _ 0 _ _ _ x4
            have n0a : w4.frozen? ⟨w.heap.size, 0, none⟩ = false := frozen_of_row w4 _ 0 _ _ x4
            have m1a : w4.cell? ⟨w.heap.size, 1, none⟩ = some (.int .i64 to) := cell_of_row w4 _ 1 _ _ _ x4
            have n1a : w4.frozen? ⟨w.heap.size, 1, none⟩ = false := frozen_of_row w4 _ 1 _ _ x4
            have m2a : w4.cell? ⟨w.heap.size, 2, none⟩ = some (.int .i64 0) := cell_of_row w4 _ 2 _ _ _ x4
            have n2a : w4.frozen? ⟨w.heap.size, 2, none⟩ = false := frozen_of_row w4 _ 2 _ _ x4
            have m3a : w4.cell? ⟨w.heap.size, 3, none⟩ = some (.int .i64 lno) := cell_of_row w4 _ 3 _ _ _ x4
            have n3a : w4.frozen? ⟨w.heap.size, 3, none⟩ = false := frozen_of_row w4 _ 3 _ _ x4
            have m4a : w4.cell? ⟨w.heap.size, 4, none⟩ = some (.slice none 0 0) := cell_of_row w4 _ 4 _ _ _ x4
            have n4a : w4.frozen? ⟨w.heap.size, 4, none⟩ = false := frozen_of_row w4 _ 4 _ _ x4
            have m5a : w4.cell? ⟨w.heap.size, 5, none⟩ = some (.slice none 0 0) := cell_of_row w4 _ 5 _ _ _ x4
            have n5a : w4.frozen? ⟨w.heap.size, 5, none⟩ = false := frozen_of_row w4 _ 5 _ _ x4
            have hne4 : ∀ g, (Value.slice Av lw.length cv).ownBlock = some g → w.heap.size ≠ g := fun g hg => by have := (hown.lt g hg).1; omega
            have hown4 := own_mono hown hb3.size
            have hMM : replyM vs no to = ⟨1, to, 0, lno, lw, []⟩ := by rw [HM.out, if_neg (fun h => by omega)]
            clear g0 g1 g2 g3 g4 g5 f0 f1 f2 f3 f4 f5 fz x1 x2
            go_wp2_with fail
            refine bodyPost_ret (results_cell_row2 rfl _ _ w.heap.size 32 _ (0, 0) _ rfl (heap_put6 (heap_setCell_same w4 _ 4 _ _ _ x4) _ _ _ _ _ _) Try.underlying32 rfl infoMsg) rfl ?_
            first | rw [hMM, HE.out] | rw [HE.out]
            exact ⟨_, _, rfl, own_put6 (own_set hown4 hne4) hne4 _ _ _ _ _ _, World.ownsRow_nil _ _ _ _, below_put6 (hbw4.setCell (p := ⟨w.heap.size, 4, none⟩) (Nat.le_refl _) _) (Nat.le_refl _) _ _ _ _ _ _⟩
      · have dt : decide (0 ≤ to ∧ to ≤ 7) = false := decide_eq_false hto
        go_wp2_with fail
        refine bodyPost_ret (results_cell_row2 rfl _ _ w.heap.size 32 _ (0, 0) _ rfl (heap_put6 x2 _ _ _ _ _ _) Try.underlying32 rfl infoMsg) rfl ?_
        have er : replyE vs no to = 1 := by unfold replyE; rw [if_neg (fun h => hto h.2.2)]
        exact mzero (replyM_zero (by rw [er]; decide)) er (below_put6 hbw2 (Nat.le_refl _) _ _ _ _ _ _)
    · have dn : decide (0 ≤ no ∧ no ≤ 1099511627776) = false := decide_eq_false hno
      go_wp2_with fail
      refine bodyPost_ret (results_cell_row2 rfl _ _ w.heap.size 32 _ (0, 0) _ rfl (heap_put6 x2 _ _ _ _ _ _) Try.underlying32 rfl infoMsg) rfl ?_
      have er : replyE vs no to = 1 := by unfold replyE; rw [if_neg (fun h => hno h.2.1)]
      exact mzero (replyM_zero (by rw [er]; decide)) er (below_put6 hbw2 (Nat.le_refl _) _ _ _ _ _ _)
end Go.Proofs.Ytmighpfjjaaknaa
