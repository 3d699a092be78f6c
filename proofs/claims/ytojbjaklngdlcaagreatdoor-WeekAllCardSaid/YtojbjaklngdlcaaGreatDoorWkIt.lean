/-
  The iterator of week.All: it yields all weeks in order, in one row that it makes at its start.
-/
import Derived.Test.YtojbjaklngdlcaaGreatDoorWkA
import Derived.Test.YtojbjaklngdlcaaGreatDoorLotA
import Derived.Test.YtojbjaklngdlcaaGreatDoorWkW
import Derived.Test.YtojbjaklngdlcaaGreatDoorWeekG
import Derived.Sort.LoopGhostIn
import Derived.Sort.QuietIn
namespace Go.Proofs.YtojbjaklngdlcaaGreatDoor
open Go.RowKit Go.Shelf
set_option linter.unusedVariables false
set_option linter.unusedSimpArgs false
attribute [local go_sem] Oper.semAt_some

/-- A block of cells stays as it is. -/
def CellsKept (k : Nat) (A B : World) : Prop := ∀ (cs : Array Value) (t : TypeId) (fr : Nat × Nat), A.heap[k]? = some (.cells cs t fr) → B.heap[k]? = some (.cells cs t fr)
/-- What a round keeps for the iterator: what lay below n₀, the school's box, the row. -/
def KpW (n₀ bS Bb : Nat) (A B : World) : Prop := Below n₀ A B ∧ CellsKept bS A B ∧ CellsKept Bb A B
/-- What the iterator's own steps do: they turn the row alone. -/
def StW (Bb : Nat) (A B : World) : Prop := A.grownBy B (some Bb) ∧ ∀ o, A.heap[Bb]? = some o → o.isCells = false → B.heap[Bb]? = some o
def wkY (Bb S R L : Nat) (i : Nat) (args : Array Value) (W : World) : Prop :=
  args = #[.slice (some ⟨Bb, 0, none⟩) L L] ∧ W.ownsRow Bb 62 2 (.slice (some ⟨Bb, 0, none⟩) L L) L (pv (Wk.dec S R L i))
theorem stw_alloc (Bb : Nat) (A : World) (o : Obj) : StW Bb A (A.alloc o) := ⟨World.grownBy_alloc _ _ _, fun x hx _ => (Below.heap_alloc _ _ _ (Array.getElem?_eq_some_iff.1 hx).1).trans hx⟩
theorem stw_noncells {Bb : Nat} {A B : World} (h : StW Bb A B) {k : Nat} {o : Obj} (ho : A.heap[k]? = some o) (hc : o.isCells = false) : B.heap[k]? = some o := by
  by_cases hk : k = Bb
  · subst hk; exact h.2 o ho hc
  · exact (h.1.block k (Array.getElem?_eq_some_iff.1 ho).1 (fun e => hk (Option.some.inj e))).trans ho
theorem stw_set {Bb : Nat} {A : World} {cs : Array Value} {t : TypeId} {fr : Nat × Nat} (h : A.heap[Bb]? = some (.cells cs t fr)) (j : Nat) (v : Value) : StW Bb A (A.setCell ⟨Bb, j, none⟩ v) :=
  ⟨grown_set (World.grownBy.refl _ _), fun o ho hc => by rw [h] at ho; cases ho; cases hc⟩
theorem stw_trans {Bb : Nat} {A B C : World} (h1 : StW Bb A B) (h2 : StW Bb B C) : StW Bb A C := ⟨grown_trans h1.1 h2.1, fun o ho hc => h2.2 o (h1.2 o ho hc) hc⟩
theorem stw_drewN {Bb : Nat} {A : World} (k : Nat) : StW Bb A (A.drewN k) := ⟨⟨rfl, rfl, rfl, Nat.le_refl _, fun _ _ _ => rfl⟩, fun _ h _ => h⟩
theorem stw_grown {Bb : Nat} {A B : World} (h : A.grownBy B none) : StW Bb A B := ⟨⟨h.os, h.tape, h.output, h.size, fun k hk _ => h.block k hk (by simp)⟩, fun o ho _ => (h.block Bb (Array.getElem?_eq_some_iff.1 ho).1 (by simp)).trans ho⟩
theorem ck_alloc (k : Nat) (A : World) (o : Obj) : CellsKept k A (A.alloc o) := fun cs t fr h => (Below.heap_alloc _ _ _ (Array.getElem?_eq_some_iff.1 h).1).trans h
theorem ck_trans {k : Nat} {A B C : World} (h1 : CellsKept k A B) (h2 : CellsKept k B C) : CellsKept k A C := fun cs t fr h => h2 _ _ _ (h1 _ _ _ h)
theorem ck_put {k r : Nat} {A : World} {o : Obj} (o' : Obj) (ho : A.heap[r]? = some o) (hc : o.isCells = false) : CellsKept k A (A.putObj r o') := fun cs t fr h => by
  refine (World.putObj_heap_other (fun e => ?_)).trans h
  subst e
  rw [h] at ho
  cases ho
  cases hc
theorem ck_below {k : Nat} {A B : World} (h : Below A.heap.size A B) : CellsKept k A B := fun cs t fr hc => (h.block k (Array.getElem?_eq_some_iff.1 hc).1).trans hc
theorem kpw_alloc {n₀ bS Bb : Nat} {A : World} (h : n₀ ≤ A.heap.size) (o : Obj) : KpW n₀ bS Bb A (A.alloc o) := ⟨(Below.refl _ _).alloc h o, ck_alloc _ _ _, ck_alloc _ _ _⟩
theorem kpw_trans {n₀ bS Bb : Nat} {A B C : World} (h1 : KpW n₀ bS Bb A B) (h2 : KpW n₀ bS Bb B C) : KpW n₀ bS Bb A C := ⟨h1.1.trans h2.1, ck_trans h1.2.1 h2.2.1, ck_trans h1.2.2 h2.2.2⟩
theorem kpw_put {n₀ bS Bb r : Nat} {A : World} {o : Obj} (o' : Obj) (hr : n₀ ≤ r) (ho : A.heap[r]? = some o) (hc : o.isCells = false) : KpW n₀ bS Bb A (A.putObj r o') := ⟨below_put (Below.refl _ _) o' hr ho, ck_put o' ho hc, ck_put o' ho hc⟩
theorem wkY_put {Bb S R L i B : Nat} {args : Array Value} : Puts B (wkY Bb S R L i args) := fun A r o o' h hr ho hc => ⟨h.1, ownsRow_putObj h.2 o' ho hc⟩
theorem own_row {w : World} {B e size n c k g : Nat} {xs : List Value} (h : w.ownsRow B e size (.slice (some ⟨g, 0, none⟩) n c) k xs) : ∃ cs t fr, w.heap[g]? = some (.cells cs t fr) := by
  rcases h.2 with ⟨h1, _⟩ | ⟨g', cap, cur, h1, _, hg', _⟩
  · cases h1
  · injection h1 with h1
    injection h1 with h1
    injection h1 with h1
    subst h1
    exact ⟨_, _, _, hg'⟩

theorem own_ck {w W : World} {B e size n c k g : Nat} {xs : List Value} (h : w.ownsRow B e size (.slice (some ⟨g, 0, none⟩) n c) k xs) (hk : CellsKept g w W) : W.ownsRow B e size (.slice (some ⟨g, 0, none⟩) n c) k xs := by
  refine ⟨h.1, ?_⟩
  rcases h.2 with ⟨h1, _⟩ | ⟨g', cap, cur, h1, h2, hg', rest⟩
  · cases h1
  · have e : g' = g := by
      injection h1 with h1
      injection h1 with h1
      injection h1 with h1
      exact h1.symm
    subst e
    exact .inr ⟨g', cap, cur, h1, h2, hk _ _ _ hg', rest⟩
theorem pv_at0 (acc : List Pl) (q : Pl) (zs : List Pl) {k : Nat} (hk : acc.length = k) : (pv (acc ++ q :: zs))[k * 2]? = some (.int .i64 q.1) := by
  subst hk
  rw [pv_append, List.getElem?_append_right (by rw [pv_length]; omega), pv_length, Nat.sub_self]
  rfl
theorem pv_at1 (acc : List Pl) (q : Pl) (zs : List Pl) {k : Nat} (hk : acc.length = k) : (pv (acc ++ q :: zs))[k * 2 + 1]? = some (.int .i64 q.2) := by
  subst hk
  rw [pv_append, List.getElem?_append_right (by rw [pv_length]; omega), pv_length, Nat.add_sub_cancel_left]
  rfl
theorem dig_carry {R : Nat} {x1 x2 : Int} (h1 : 0 ≤ x1) (h2 : 0 ≤ x2) (hr : x2 + 1 = (R : Int)) : (x1 + 1).toNat * R + (0 : Int).toNat = x1.toNat * R + x2.toNat + 1 := by
  rw [show (x1 + 1).toNat = x1.toNat + 1 by omega, Nat.succ_mul]
  simp only [Int.toNat_zero]
  omega
/-- make with its length, inside a fence. -/
theorem wpListIn_make_full {F : Fence} {nn : Nat} {P : Program} (w : World) {ops : Array Oper} {rest : List Oper} {o : Oper} {a : Act} {Q : Exit → Act → World → Prop}
    (hg : o.guard = none) (l c : Operand) (t : TypeId) (hop : o.op = Op.makeSlice t l c)
    (base : Nat) (e : TypeId) (i : TypeInfo) (z : Value) (size : Nat) (h1 : P.underlying t = some (.slice e)) (h2 : P.info? e = some i) (h3 : i.zero = some z) (h4 : i.size = size)
    (kl kc : IntKind) (L C : Int) (n : Nat) (hl : a.eval l = .int kl L) (hc : a.eval c = .int kc C) (hL : L = (n : Int)) (hC : C = (n : Int)) (b2 : i.bytes * n ≤ 281474976710656) (b3 : n ≤ maxLen) (b4 : base ≤ w.heap.size)
    (hK : ∀ w', w'.ownsRow base e size (.slice (some ⟨w.heap.size, 0, none⟩) n n) n (madeCells z.cells (n * size)).toList → w.grownBy w' none → wpListIn F nn P ops Q rest (a.put o.dst (.slice (some ⟨w.heap.size, 0, none⟩) n n)) w') :
    wpListIn F nn P ops Q (o :: rest) a w := by
  refine wpListIn_plain hg fun K hK' => ?_
  obtain ⟨w', hrun, r1, r2⟩ := run_make_full (P := P) w base t e i z size h1 h2 h3 h4 kl kc n b2 b3 b4
  subst hL
  subst hC
  unfold Oper.wpIn
  refine ⟨?_, ?_⟩
  · simp [Oper.about, hop]
  · rw [Oper.semAt_plain F _ _ (by rw [hop]; intro c hc'; cases hc')]
    simp [execOp, hop, hl, hc, hrun, Result.andThen]
    exact hK' _ _ (hK w' r1 r2)

set_option maxRecDepth 100000 in
set_option maxHeartbeats 4000000 in
theorem weeks1_iter (bS Bb n₀ : Nat) (f : Sc.Five) (w : World) (b0 : w.heap[bS]? = some (.cells f.vals 28)) (hBb : Bb = w.heap.size + 2) (hn₀ : n₀ ≤ w.heap.size) (mS : f.nS ≤ f.cS ∧ f.cS ≤ 9223372036854775807) (mR : f.nR ≤ f.cR ∧ f.cR ≤ 9223372036854775807) (mL : f.nL ≤ f.cL ∧ f.cL ≤ 9223372036854775807) (hs : f.nS ≤ 1000 ∧ f.nR ≤ 1000 ∧ f.nL ≤ 1000) (hp : 0 < f.nS ∧ 0 < f.nR) :
    IterB Tryz.prog 59 #[.pointer (some ⟨bS, 0, none⟩)] (StW Bb) (KpW n₀ bS Bb) ((f.nS * f.nR) ^ f.nL) (wkY Bb f.nS f.nR f.nL) w := by
  intro l0 J W hKw hsz hJ hY h0
  rw [← hBb] at hsz
  have bW := hKw.2.1 _ _ _ b0
  unfold Sc.Five.vals at bW
  have HJ := Lib.hid hJ
  obtain ⟨M, hM⟩ : ∃ M, M = (f.nS * f.nR) ^ f.nL := ⟨_, rfl⟩
  rw [← hM] at hY ⊢
  have hM0 : 0 < M := by rw [hM]; exact Nat.pow_pos (Nat.mul_pos hp.1 hp.2)
  have HM := Lib.hid hM
  clear hM
  have HY := Lib.hid hY
  clear hJ hY
  have c4 := blk_cell (j := 4) bW
  simp only [List.getElem?_toArray, List.getElem?_cons_zero, List.getElem?_cons_succ] at c4
  refine callsIn_of_wp Tryz.func59 rfl trivial ?_ rfl
  simp only [Tryz.ntmps59, List.size_toArray, List.length_cons, List.length_nil, Nat.reduceAdd, Nat.reduceSub, Array.replicate_succ, Array.replicate_zero, List.push_toArray, List.append_toArray, List.nil_append, List.cons_append]
  obtain ⟨i0, hi, hz0, hz1, hz2⟩ := info_parts elP.i
  have H2 := Lib.hid hz2
  clear hz2
  have HBb := Lib.hid hBb
  have HSZ := Lib.hid hsz
  clear hsz hBb
  gi_wp2_with (gi_at_make; refine wpListIn_make_full _ rfl _ _ 29 rfl Bb 62 i0 (.agg #[.int .i64 0, .int .i64 0]) 2 Tryz.underlying29 hi hz0 hz1 _ _ _ _ f.nL rfl rfl rfl rfl (by rw [H2.out]; omega) (by unfold maxLen; omega) (by rw [HSZ.out]; exact Nat.le_refl _) ?_; intro w4 hown hg4)
  have hst4 : StW Bb W w4 := stw_grown hg4
  rw [made_places, ← Wk.val_first f.nS f.nR f.nL] at hown
  rw [HSZ.out] at hown ⊢
  have bW4 := (hg4.block bS (blk_lt bW) (by simp)).trans bW
  have hJ4 := HJ.out 0 _ _ h0 hst4
  clear h0 hst4 hg4 c4 bW hKw b0 H2 hi hz0 hz1
  gi_loopg [] M (fun k wr => ∃ i, i < M ∧ k = M - i ∧ J i wr ∧ wr.ownsRow Bb 62 2 (.slice (some ⟨Bb, 0, none⟩) f.nL f.nL) f.nL (pv (Wk.dec f.nS f.nR f.nL i)) ∧
    wr.heap[bS]? = some (.cells #[.slice f.aS f.nS f.cS, .slice f.aR f.nR f.cR, .slice f.aP f.nP f.cP, .slice f.aG f.nG f.cG, .slice f.aL f.nL f.cL] 28))
  case atStart => exact ⟨0, hM0, rfl, hJ4, hown, bW4⟩
  case round =>
    clear hJ4 hown bW4
    obtain ⟨i, hi, hk, hJi, hown, b0⟩ := hrel
    have HK := Lib.hid hk
    clear hk
    obtain ⟨fn, tmps, assign, body, hy, hR⟩ := HY.out i #[.slice (some ⟨Bb, 0, none⟩) f.nL f.nL] wr hi hJi ⟨rfl, hown⟩
    have HR := Lib.hid hR
    clear hR hJi
    gi_wp2
    refine HR.out.mono ?_
    rintro e W3 ⟨rfl, hJ3, hk3⟩
    replace b0 := hk3.2.1 _ _ _ b0
    replace hown := own_ck hown hk3.2.2
    clear hk3 HR hy
    have HI := Lib.hid hi
    obtain ⟨q, hq⟩ : ∃ q : Pl, q = (((f.nS - 1 : Nat) : Int), ((f.nR - 1 : Nat) : Int)) := ⟨_, rfl⟩
    have HQ : Hid (Wk.dig f.nR q + 1 = f.nS * f.nR) := by rw [hq]; exact Wk.dig_last hp.1 hp.2
    have HQQ := Lib.hid hq
    clear hi hq
    gi_wp2
    gi_loopw [4] (fun nv wr => ∃ k : Nat, k ≤ f.nL ∧ nv = .int .i64 ((k : Int) - 1) ∧ J (i + 1) wr ∧
      wr.heap[bS]? = some (.cells #[.slice f.aS f.nS f.cS, .slice f.aR f.nR f.cR, .slice f.aP f.nP f.cP, .slice f.aG f.nG f.cG, .slice f.aL f.nL f.cL] 28) ∧
      ∃ l : List Pl, l.length = k ∧ Wk.dec f.nS f.nR f.nL i = l ++ List.replicate (f.nL - k) q ∧ wr.ownsRow Bb 62 2 (.slice (some ⟨Bb, 0, none⟩) f.nL f.nL) f.nL (pv (l ++ List.replicate (f.nL - k) (0, 0)))) (fun nv _ => (intOf nv + 1).toNat)
    case atStart => exact ⟨f.nL, Nat.le_refl _, rfl, hJ3, b0, Wk.dec f.nS f.nR f.nL i, Wk.dec_length _ _ _ _, by simp, by simpa using hown⟩
    case round =>
      clear hJ3 hown b0
      obtain ⟨k, hk, hnv, hJ3, b0, l, hl, hd, hown⟩ := hrel
      rcases k with _ | k
      · replace hnv : u4 = .int .i64 (-1) := hnv
        subst hnv
        have hl0 : l = [] := List.eq_nil_of_length_eq_zero hl
        have HE : Hid (i + 1 = M) := by
          show _ = _
          rw [HM.out]
          exact Wk.dec_end (S := f.nS) (R := f.nR) (q := q) (by rw [← HM.out]; exact HI.out) (by rw [hd, hl0]; simp) HQ.out
        clear hd hown
        gi_wp2
        refine bodyPost_ret (results_none rfl _ _ _) rfl ?_
        exact ⟨⟨_, rfl⟩, by rw [← HE.out]; exact hJ3⟩
      · replace hnv : u4 = .int .i64 (k : Int) := by rw [hnv]; congr 1; omega
        subst hnv
        obtain ⟨l1, x, rfl⟩ : ∃ l1 x, l = l1 ++ [x] := ⟨l.dropLast, l.getLast (fun e => by subst e; cases hl), (List.dropLast_concat_getLast _).symm⟩
        have hl1 : l1.length = k := by simpa using hl
        have hx := Wk.dec_placed (S := f.nS) (R := f.nR) f.nL i (by rw [← HM.out]; exact HI.out) x (by rw [hd]; simp)
        rw [List.append_assoc, List.singleton_append] at hd hown
        have HD := Lib.hid hd
        obtain ⟨x1, x2⟩ := x
        obtain ⟨⟨hx0, hx1⟩, hx2, hx3⟩ := hx
        dsimp only at hx0 hx1 hx2 hx3
        clear hd hl
        have cR := blk_cell (j := 1) b0
        have cS := blk_cell (j := 0) b0
        simp only [List.getElem?_toArray, List.getElem?_cons_zero, List.getElem?_cons_succ] at cR cS
        have z1 := hown.cellAt (k * 2 + 1) (by omega)
        rw [pv_at1 l1 _ _ hl1] at z1
        dsimp only at z1
        have f1 := hown.frozenAt (k * 2 + 1)
        obtain ⟨cs, ct, cf, hrow⟩ := own_row hown
        have d4 : decide (k < f.nL) = true := by simp; omega
        obtain ⟨W1, hW1⟩ : ∃ W1, W1 = wr.setCell ⟨Bb, k * 2 + 1, none⟩ (.int .i64 (x2 + 1)) := ⟨_, rfl⟩
        have own1 := (hown.stored (k * 2 + 1) (.int .i64 (x2 + 1))).1
        rw [pv_set1 l1 _ _ _ hl1, ← hW1] at own1
        have J1 := HJ.out _ _ _ hJ3 (stw_set hrow (k * 2 + 1) (.int .i64 (x2 + 1)))
        rw [← hW1] at J1
        have hbb : Bb ≠ bS := fun e => own_blk_ne hown b0 (by decide) Bb rfl e.symm
        have b1 := blk_other (p := ⟨Bb, k * 2 + 1, none⟩) (.int .i64 (x2 + 1)) b0 hbb
        rw [← hW1] at b1
        have HW1 := Lib.hid hW1.symm
        clear hW1 hrow hJ3 hown b0 cR cS
        gi_wp2
        rw [HW1.out]
        clear HW1 z1 f1
        have z1 := own1.cellAt (k * 2 + 1) (by omega)
        rw [pv_at1 l1 _ _ hl1] at z1
        dsimp only at z1
        have cR := blk_cell (j := 1) b1
        simp only [List.getElem?_toArray, List.getElem?_cons_zero, List.getElem?_cons_succ] at cR
        have hlen : l1.length + 1 + (f.nL - (k + 1)) = f.nL := by omega
        by_cases hr : x2 + 1 < (f.nR : Int)
        · have d5 : decide (x2 + 1 < (f.nR : Int)) = true := by simp; omega
          gi_quiet (fail)
          have HN := Lib.hid (Wk.dec_next (S := f.nS) (R := f.nR) (by rw [← HM.out]; exact HI.out) hlen HD.out HQ.out (x' := (x1, x2 + 1)) (by unfold Wk.dig; dsimp only; omega) ⟨⟨hx0, hx1⟩, by dsimp only; omega, hr⟩)
          rw [HN.out.2] at own1
          have J2 := HJ.out _ _ _ J1 (stw_drewN nq)
          replace own1 : (W1.drewN nq).ownsRow Bb 62 2 (.slice (some ⟨Bb, 0, none⟩) f.nL f.nL) f.nL _ := own1
          replace b1 : (W1.drewN nq).heap[bS]? = _ := b1
          have d6 : decide ((k : Int) < 0) = false := by simp
          clear z1 cR J1
          gi_wp2
          gi_roundg (M - (i + 1))
          case rel => exact ⟨i + 1, by rw [HM.out]; exact HN.out.1, rfl, J2, own1, b1⟩
          case measure => rw [HK.out]; have := HI.out; omega
        · have hr : x2 + 1 = (f.nR : Int) := by omega
          have d5 : decide (x2 + 1 < (f.nR : Int)) = false := by simp; omega
          have HR2 := Lib.hid hr
          gi_quiet (fail)
          have J2 := HJ.out _ _ _ J1 (stw_drewN nq)
          replace own1 : (W1.drewN nq).ownsRow Bb 62 2 (.slice (some ⟨Bb, 0, none⟩) f.nL f.nL) f.nL _ := own1
          replace b1 : (W1.drewN nq).heap[bS]? = _ := b1
          obtain ⟨W2, hW2⟩ : ∃ W2, W2 = W1.drewN nq := ⟨_, rfl⟩
          rw [← hW2] at J2 own1 b1 ⊢
          clear hW2 z1 cR J1 d5
          obtain ⟨cs2, ct2, cf2, hrow2⟩ := own_row own1
          have f1 := own1.frozenAt (k * 2 + 1)
          obtain ⟨W4, hW4⟩ : ∃ W4, W4 = W2.setCell ⟨Bb, k * 2 + 1, none⟩ (.int .i64 0) := ⟨_, rfl⟩
          have own2 := (own1.stored (k * 2 + 1) (.int .i64 0)).1
          rw [pv_set1 l1 _ _ _ hl1, ← hW4] at own2
          have J3 := HJ.out _ _ _ J2 (stw_set hrow2 (k * 2 + 1) (.int .i64 0))
          have b2 := blk_other (p := ⟨Bb, k * 2 + 1, none⟩) (.int .i64 0) b1 hbb
          rw [← hW4] at b2 J3
          have z1 := own1.cellAt (k * 2 + 1) (by omega)
          rw [pv_at1 l1 _ _ hl1] at z1
          have z0 := own2.cellAt (k * 2) (by omega)
          rw [pv_at0 l1 _ _ hl1] at z0
          have f0 := own2.frozenAt (k * 2)
          dsimp only at z0 z1
          obtain ⟨cs3, ct3, cf3, hrow3⟩ := own_row own2
          obtain ⟨W5, hW5⟩ : ∃ W5, W5 = W4.setCell ⟨Bb, k * 2, none⟩ (.int .i64 (x1 + 1)) := ⟨_, rfl⟩
          have own3 := (own2.stored (k * 2) (.int .i64 (x1 + 1))).1
          rw [pv_set0 l1 _ _ _ hl1, ← hW5] at own3
          have J4 := HJ.out _ _ _ J3 (stw_set hrow3 (k * 2) (.int .i64 (x1 + 1)))
          have b3 := blk_other (p := ⟨Bb, k * 2, none⟩) (.int .i64 (x1 + 1)) b2 hbb
          rw [← hW5] at b3 J4
          have HW5 := Lib.hid hW5.symm
          have HW4 := Lib.hid hW4.symm
          rw [hW4] at z0 f0
          clear hW4 hW5 hrow2 hrow3 own1 own2 J2 J3 b1 b2
          gi_wp2
          rw [HW4.out, HW5.out]
          clear HW4 HW5 z0 f0 z1 f1
          have z0 := own3.cellAt (k * 2) (by omega)
          rw [pv_at0 l1 _ _ hl1] at z0
          dsimp only at z0 own3
          have cS := blk_cell (j := 0) b3
          simp only [List.getElem?_toArray, List.getElem?_cons_zero, List.getElem?_cons_succ] at cS
          by_cases hs1 : x1 + 1 < (f.nS : Int)
          · have d5 : decide (x1 + 1 < (f.nS : Int)) = true := by simp; omega
            gi_quiet (fail)
            have HN := Lib.hid (Wk.dec_next (S := f.nS) (R := f.nR) (by rw [← HM.out]; exact HI.out) hlen HD.out HQ.out (x' := (x1 + 1, 0)) (by unfold Wk.dig; dsimp only; exact dig_carry hx0 hx2 HR2.out) ⟨⟨by dsimp only; omega, hs1⟩, by dsimp only; omega, by dsimp only; omega⟩)
            rw [HN.out.2] at own3
            have J2 := HJ.out _ _ _ J4 (stw_drewN nq)
            replace own3 : (W5.drewN nq).ownsRow Bb 62 2 (.slice (some ⟨Bb, 0, none⟩) f.nL f.nL) f.nL _ := own3
            replace b3 : (W5.drewN nq).heap[bS]? = _ := b3
            have d6 : decide ((k : Int) < 0) = false := by simp
            clear z0 cS J4
            gi_wp2
            gi_roundg (M - (i + 1))
            case rel => exact ⟨i + 1, by rw [HM.out]; exact HN.out.1, rfl, J2, own3, b3⟩
            case measure => rw [HK.out]; have := HI.out; omega
          · have hs1 : x1 + 1 = (f.nS : Int) := by omega
            have d5 : decide (x1 + 1 < (f.nS : Int)) = false := by simp; omega
            have HS2 := Lib.hid hs1
            gi_quiet (fail)
            have J2 := HJ.out _ _ _ J4 (stw_drewN nq)
            replace own3 : (W5.drewN nq).ownsRow Bb 62 2 (.slice (some ⟨Bb, 0, none⟩) f.nL f.nL) f.nL _ := own3
            replace b3 : (W5.drewN nq).heap[bS]? = _ := b3
            obtain ⟨W6, hW6⟩ : ∃ W6, W6 = W5.drewN nq := ⟨_, rfl⟩
            rw [← hW6] at J2 own3 b3 ⊢
            clear hW6 z0 cS J4 d5
            obtain ⟨cs4, ct4, cf4, hrow4⟩ := own_row own3
            have f0 := own3.frozenAt (k * 2)
            have z0 := own3.cellAt (k * 2) (by omega)
            rw [pv_at0 l1 _ _ hl1] at z0
            have own4 := (own3.stored (k * 2) (.int .i64 0)).1
            rw [pv_set0 l1 _ _ _ hl1] at own4
            have J5 := HJ.out _ _ _ J2 (stw_set hrow4 (k * 2) (.int .i64 0))
            have b4 := blk_other (p := ⟨Bb, k * 2, none⟩) (.int .i64 0) b3 hbb
            have HX : Hid ((x1, x2) = q) := by
              show _ = _
              rw [HQQ.out]
              have := HS2.out
              have := HR2.out
              have h1 : x1 = ((f.nS - 1 : Nat) : Int) := by omega
              have h2 : x2 = ((f.nR - 1 : Nat) : Int) := by omega
              rw [h1, h2]
            have er : ∀ z : Pl, z :: List.replicate (f.nL - (k + 1)) z = List.replicate (f.nL - k) z := fun z => by
              rw [show f.nL - k = (f.nL - (k + 1)) + 1 by omega, List.replicate_succ]
            have HDN : Hid (Wk.dec f.nS f.nR f.nL i = l1 ++ List.replicate (f.nL - k) q) := by
              show _ = _
              rw [HD.out, HX.out, er]
            dsimp only at own4 z0
            rw [er] at own4
            clear hrow4 own3 J2 b3
            gi_wp2
            go_roundw
            case rel => exact ⟨k, by omega, rfl, J5, b4, l1, hl1, HDN.out, own4⟩
            case measure => simp [intOf]
end Go.Proofs.YtojbjaklngdlcaaGreatDoor
