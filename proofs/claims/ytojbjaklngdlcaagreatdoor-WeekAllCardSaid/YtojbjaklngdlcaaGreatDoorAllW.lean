/-
  The walk of week.All.
-/
import Derived.Test.YtojbjaklngdlcaaGreatDoorWkIt
import Derived.Test.YtojbjaklngdlcaaGreatDoorLotA
import Derived.Test.YtojbjaklngdlcaaGreatDoorOfW
namespace Go.Proofs.YtojbjaklngdlcaaGreatDoor
open Go.RowKit Go.Shelf
set_option linter.unusedVariables false
set_option linter.unusedSimpArgs false
attribute [local go_sem] Oper.semAt_some

/-- A week as an element of a slice. -/
def RWk (w : World) (B : Nat) (l : List Pl) (r : List Value) : Prop := ∃ A c, r = [.slice A l.length c] ∧ RdP w B A l.length c l
theorem lastsWk : Lasts RWk := ⟨fun h hb => by obtain ⟨A, c, h1, h2⟩ := h; exact ⟨A, c, h1, h2.below hb⟩, fun h hB => by obtain ⟨A, c, h1, h2⟩ := h; exact ⟨A, c, h1, h2.more hB⟩⟩
open Classical in
/-- What All answers. -/
noncomputable def Wk.allR (s : Sc.Sch) (most : Int) : List (List Pl) × Int :=
  if Sc.chk s ≠ 0 then ([], Sc.chk s) else if most < 0 then ([], 1)
  else if most < (((s.slots.length * s.rooms.length) ^ s.lessons.length : Nat) : Int) then ([], 2)
  else ((List.range ((s.slots.length * s.rooms.length) ^ s.lessons.length)).map (Wk.dec s.slots.length s.rooms.length s.lessons.length), 0)
def AllPost (R : List (List Pl) × Int) (w : World) (e : Ending) (w' : World) : Prop :=
  ∃ A n c, e = .returned (.tuple #[.slice A n c, .int .i64 R.2]) ∧ RdS 1 RWk w' w'.heap.size A n c R.1 ∧ Below w.heap.size w w'
theorem allpost_err {R : List (List Pl) × Int} {er : Int} {w w' : World} (hR : R = ([], er)) (hb : Below w.heap.size w w') : AllPost R w (.returned (.tuple #[.slice none 0 0, .int .i64 er])) w' := by
  subst hR
  exact ⟨none, 0, 0, rfl, RdS.nil _ _, hb⟩
theorem all_results {W : World} {tmps : Array Value} {b : Nat} {v : Value} {er : Int} (h4 : tmps[4]? = some (.pointer (some ⟨b, 0, none⟩))) (h5 : tmps[5]? = some (.int .i64 er)) (hb : W.heap[b]? = some (.cells #[v] 47)) :
    (results Tryz.f22 tmps).run Tryz.prog W = .ok (.tuple #[v, .int .i64 er]) W := by
  have c := blk_cell (j := 0) hb
  simp only [List.getElem?_toArray, List.getElem?_cons_zero] at c
  simp [results, Tryz.results22, go_sem, c, h4, h5, Array.getD_eq_getD_getElem?]
theorem wrap_div {q D : Nat} (hq : q ≤ 1000) : wrap64 ((q : Int) / (D : Int)) = ((q / D : Nat) : Int) := by
  rw [show (q : Int) / (D : Int) = ((q / D : Nat) : Int) from (Int.natCast_ediv q D).symm]
  have hle := Nat.div_le_self q D
  generalize q / D = z at *
  unfold wrap64
  omega
theorem Wk.div_step (m D k : Nat) : m / D ^ k / D = m / D ^ (k + 1) := by rw [Nat.div_div_eq_div_mul, Nat.pow_succ]

set_option maxRecDepth 100000 in
set_option maxHeartbeats 2000000 in
theorem wweeks_any (f : Sc.Five) (w : World) :
    Calls Tryz.prog 40 #[.agg f.vals] w fun e w' => e = .returned (.func (.func 59) #[] #[.pointer (some ⟨w.heap.size, 0, none⟩)]) ∧ w' = w.alloc (.cells f.vals 28) := by
  unfold Sc.Five.vals
  go_enter Tryz.func40, Tryz.ntmps40
  go_wp2_with fail
  go_ret
  exact ⟨rfl, rfl⟩

/-- Between two rounds of All. -/
def AllAt (w : World) (bO Bb S R L : Nat) (i : Nat) (W : World) : Prop :=
  ∃ v xs, W.heap[bO]? = some (.cells #[v] 47) ∧ W.ownsRow (Bb + 1) 31 1 v i xs ∧
    (∀ (j : Nat) (u : Value), xs[j]? = some u → ∃ A c, u = .slice A L c ∧ W.ownsRow (Bb + 1) 62 2 u L (pv (Wk.dec S R L j))) ∧ Below w.heap.size w W
section
variable {w W W' : World} {bO Bb S R L i : Nat}
theorem own_stw {B e size n : Nat} {v : Value} {xs : List Value} (h : W.ownsRow B e size v n xs) (hst : StW Bb W W') (hB : Bb < B) : W'.ownsRow B e size v n xs := by
  refine own_grown' h hst.1 (fun g hg e => ?_)
  have := (h.lt g hg).1
  injection e with e
  omega
theorem AllAt.st (h : AllAt w bO Bb S R L i W) (hb : bO ≠ Bb) (hw : w.heap.size ≤ Bb) (hst : StW Bb W W') : AllAt w bO Bb S R L i W' := by
  obtain ⟨v, xs, h1, h2, h4, h5⟩ := h
  refine ⟨v, xs, blk_grown h1 hst.1 (fun e => hb (Option.some.inj e)), own_stw h2 hst (by omega), fun j u hu => ?_, h5.grown hst.1 h5.size (fun g hg => by cases hg; exact hw)⟩
  obtain ⟨A, c, e1, e2⟩ := h4 j u hu
  exact ⟨A, c, e1, own_stw e2 hst (by omega)⟩
theorem AllAt.put (h : AllAt w bO Bb S R L i W) {r : Nat} {o : Obj} (o' : Obj) (hr : w.heap.size ≤ r) (ho : W.heap[r]? = some o) (hc : o.isCells = false) : AllAt w bO Bb S R L i (W.putObj r o') := by
  obtain ⟨v, xs, h1, h2, h4, h5⟩ := h
  refine ⟨v, xs, ck_put o' ho hc _ _ _ h1, ownsRow_putObj h2 o' ho hc, fun j u hu => ?_, below_put h5 o' hr ho⟩
  obtain ⟨A, c, e1, e2⟩ := h4 j u hu
  exact ⟨A, c, e1, ownsRow_putObj e2 o' ho hc⟩
theorem AllAt.below (h : AllAt w bO Bb S R L i W) (hb : Below W.heap.size W W') : AllAt w bO Bb S R L i W' := by
  obtain ⟨v, xs, h1, h2, h4, h5⟩ := h
  refine ⟨v, xs, blk_below h1 hb, own_below h2 hb, fun j u hu => ?_, h5.trans (hb.mono h5.size)⟩
  obtain ⟨A, c, e1, e2⟩ := h4 j u hu
  exact ⟨A, c, e1, own_below e2 hb⟩
theorem kpw_set {n₀ bS k : Nat} {p : Addr} (v : Value) (hp : n₀ ≤ p.block) (h1 : p.block ≠ bS) (h2 : p.block ≠ k) : KpW n₀ bS k W (W.setCell p v) :=
  ⟨(Below.refl _ _).setCell hp v, fun cs t fr h => blk_other v h h1, fun cs t fr h => blk_other v h h2⟩
/-- One round's worth: 'out = append(out, week)'. -/
theorem all_step {n₀ bS : Nat} {v v' : Value} {xs : List Value} {A2 : Option Addr} {c2 : Nat} {X w1 : World}
    (x1 : X.heap[bO]? = some (.cells #[v] 47)) (x3 : X.ownsRow (Bb + 1) 31 1 v i xs)
    (x5 : ∀ (j : Nat) (u : Value), xs[j]? = some u → ∃ A c, u = .slice A L c ∧ X.ownsRow (Bb + 1) 62 2 u L (pv (Wk.dec S R L j))) (x6 : Below w.heap.size w X)
    (hO : w.heap.size ≤ bO) (hOS : bO < bS) (hSB : bS < Bb) (hB : Bb < X.heap.size) (hn : n₀ ≤ bO)
    (h2 : X.ownsRow (Bb + 1) 62 2 (.slice A2 L c2) L (pv (Wk.dec S R L i)))
    (hown : w1.ownsRow (Bb + 1) 31 1 v' (i + 1) (xs ++ [.slice A2 L c2])) (hg : X.grownBy w1 v.ownBlock) :
    w1.heap[bO]? = some (.cells #[v] 47) ∧ KeepsOthers X (w1.setCell ⟨bO, 0, none⟩ v') ∧ KpW n₀ bS Bb X (w1.setCell ⟨bO, 0, none⟩ v') ∧ AllAt w bO Bb S R L (i + 1) (w1.setCell ⟨bO, 0, none⟩ v') := by
  have hlo := fun g hg => (x3.lt g hg).1
  have hlen : xs.length = i := by have := x3.1; omega
  have k1 : w1.heap[bO]? = some (.cells #[v] 47) := blk_grown x1 hg (fun e => by have := hlo _ e.symm; omega)
  have kk : ∀ {k : Nat} {o : Obj}, k < Bb + 1 → X.heap[k]? = some o → w1.heap[k]? = some o := fun {k o} hk ho => blk_grown ho hg (fun e => by have := hlo _ e.symm; omega)
  have ke : ∀ {u : Value} {ys : List Value} {n : Nat}, X.ownsRow (Bb + 1) 62 2 u n ys → (w1.setCell ⟨bO, 0, none⟩ v').ownsRow (Bb + 1) 62 2 u n ys := fun {u ys n} hu => by
    refine own_set (own_grown' hu hg (fun g hgu e => ?_)) (fun g hgu => ?_)
    · rcases own_apart hu x3 (by decide) with h | h
      · rw [h] at hgu; cases hgu
      · exact h (by rw [hgu, e])
    · have := (hu.lt g hgu).1
      dsimp only
      omega
  refine ⟨k1, ⟨?_, fun k o ho hc => ?_⟩, ⟨?_, fun cs t fr h => blk_other _ (kk (by omega) h) (by dsimp only; omega), fun cs t fr h => blk_other _ (kk (by omega) h) (by dsimp only; omega)⟩, ⟨v', xs ++ [.slice A2 L c2], blk_set (k := 0) v' k1, own_set hown (fun g hgv => ?_), fun j u hu => ?_, (x6.grown hg x6.size (fun g hgv => by have := hlo g hgv; have := x6.size; omega)).setCell hO _⟩⟩
  · have := hg.size; simpa using this
  · have h1 : w1.heap[k]? = some o := by
      refine blk_grown ho hg (fun e => ?_)
      rcases x3.2 with ⟨rfl, _⟩ | ⟨g', cap, cur, rfl, _, hg', _⟩
      · cases e
      · simp [Value.ownBlock] at e
        subst e
        rw [hg'] at ho
        cases ho
        cases hc
    exact blk_other _ h1 (fun e => by dsimp only at e; subst e; rw [k1] at h1; cases h1; cases hc)
  · exact ((Below.refl _ _).grown hg (by omega) (fun g hgv => by have := hlo g hgv; omega)).setCell hn _
  · have := (hown.lt g hgv).1
    dsimp only
    omega
  · by_cases hj : j < i
    · rw [List.getElem?_append_left (by omega)] at hu
      obtain ⟨A, c, e1, e2⟩ := x5 j u hu
      exact ⟨A, c, e1, ke e2⟩
    · rw [List.getElem?_append_right (by omega), hlen] at hu
      have hji : j = i := by
        have := (List.getElem?_eq_some_iff.1 hu).1
        simp at this
        omega
      subst hji
      simp at hu
      subst hu
      exact ⟨A2, c2, rfl, ke h2⟩
end
theorem elW : El Tryz.prog 47 31 (.agg #[.slice none 0 0]) 24 := ⟨Tryz.underlying47, by kernel_rfl, rfl⟩
theorem own_tidy {m : Nat} {W W' : World} {B e size n : Nat} {v : Value} {xs : List Value} (h : W.ownsRow B e size v n xs) (hT : Tidied m W W') : W'.ownsRow B e size v n xs := by
  refine ⟨h.1, ?_⟩
  rcases h.2 with hn | ⟨g, cap, cur, rfl, h1, h2, h3⟩
  · exact .inl hn
  · exact .inr ⟨g, cap, cur, rfl, h1, hT.2 _ _ _ _ h2, h3⟩
theorem rdP_of_own {w : World} {base n c : Nat} {A : Option Addr} {l : List Pl} (h : w.ownsRow base 62 2 (.slice A n c) n (pv l)) (hl : okPs l) : RdP w w.heap.size A n c l := by
  obtain ⟨A2, c2, e, hr⟩ := own_rdP h hl
  cases e
  exact hr
theorem dec_ok {S R L : Nat} (hs : S ≤ 1000 ∧ R ≤ 1000 ∧ L ≤ 1000) {i : Nat} (hi : i < (S * R) ^ L) : okPs (Wk.dec S R L i) := fun p hp => by
  obtain ⟨⟨a1, a2⟩, b1, b2⟩ := Wk.dec_placed (S := S) (R := R) L i hi p hp
  unfold okI
  omega
/-- append as an operation of a region. -/
theorem oper_app {P : Program} {w : World} {t e : TypeId} {z : Value} {bytes base B n m cm : Nat} {v : Value} {xs news : List Value} {Am : Option Addr} {o : Oper} {a : Act} {K : Act → World → Prop} {Q : Exit → Act → World → Prop} (s x : Operand) (E : El P t e z bytes)
    (hown : w.ownsRow base e 1 v n xs) (hr : Rd w B Am m cm news) (h1 : ∀ u ∈ news, u.oneCell' = true)
    (hbytes : (n + m) * bytes ≤ 140737488355328) (h63 : n + m ≤ 140737488355328) (hbase : base ≤ w.heap.size)
    (ho : o.op = .call { callee := .builtin .append, args := #[s, x], argTypes := #[t, t] })
    (hs : a.eval s = v) (hx : a.eval x = .slice Am m cm)
    (h : ∀ v' w', w'.ownsRow base e 1 v' (n + m) (xs ++ news) → w.grownBy w' v.ownBlock → (v'.ownBlock = v.ownBlock ∨ v'.ownBlock = some w.heap.size) → K (a.put o.dst v') w') :
    o.wp P a w K Q := by
  obtain ⟨v', w', hrun, h2, h3, h4⟩ := run_app (ty := o.type) E hown hr h1 hbytes h63 hbase
  unfold Oper.wp execOp
  simp only [ho, resolve, invoke, builtin, Sem.run_bind, Sem.run_pure, Result.andThen_ok, List.map_toArray, List.map_cons, List.map_nil, hs, hx, hrun]
  exact h v' w' h2 h3 h4

set_option maxRecDepth 100000 in
set_option maxHeartbeats 8000000 in
theorem wAll_any (f : Sc.Five) (s : Sc.Sch) (most mx : Int) (w : World) (h : Sc.RdSch w w.heap.size f s) (hm : w.cell? ⟨0, 0, none⟩ = some (.int .i64 mx)) (hmost : most ≤ 300) (hs : f.nS ≤ 1000 ∧ f.nR ≤ 1000 ∧ f.nL ≤ 1000) (hpos : Sc.chk s = 0 → 0 < f.nS ∧ 0 < f.nR) :
    Calls Tryz.prog 22 #[.agg f.vals, .int .i64 most] w (AllPost (Wk.allR s most) w) := by
  have HLN := Lib.hid h.lens
  have mS : f.nS ≤ f.cS ∧ f.cS ≤ 9223372036854775807 := ⟨h.slots.le, h.slots.max⟩
  have mR : f.nR ≤ f.cR ∧ f.cR ≤ 9223372036854775807 := ⟨h.rooms.le, h.rooms.max⟩
  have mL : f.nL ≤ f.cL ∧ f.cL ≤ 9223372036854775807 := ⟨h.lessons.le, h.lessons.max⟩
  obtain ⟨D, hD⟩ : ∃ D, D = f.nS * f.nR := ⟨_, rfl⟩
  obtain ⟨R, hR⟩ : ∃ R, R = Wk.allR s most := ⟨_, rfl⟩
  rw [← hR]
  have HR : Hid (R = if Sc.chk s ≠ 0 then ([], Sc.chk s) else if most < 0 then ([], 1) else if most < ((D ^ f.nL : Nat) : Int) then ([], 2) else ((List.range (D ^ f.nL)).map (Wk.dec f.nS f.nR f.nL), 0)) := by
    show _ = _
    rw [hR]; unfold Wk.allR
    rw [HLN.out.1, HLN.out.2.1, HLN.out.2.2.2.2, hD]
  clear hR
  have HD := Lib.hid hD
  have HP := Lib.hid hpos
  clear hD hpos
  have hbt := Below.refl w.heap.size w
  unfold Sc.Five.vals
  obtain ⟨V1, hV⟩ : ∃ V1, V1 = w.alloc (.cells #[.slice f.aS f.nS f.cS, .slice f.aR f.nR f.cR, .slice f.aP f.nP f.cP, .slice f.aG f.nG f.cG, .slice f.aL f.nL f.cL] 28) := ⟨_, rfl⟩
  have b0 := blk_new hV
  have hb := below_new hV
  replace h := (h.below hb).more hb.size
  replace hbt := hbt.trans (hb.mono hbt.size)
  clear hb
  have HSV1 : Hid (V1.heap.size = w.heap.size + 1) := by show V1.heap.size = _; rw [hV, World.size_alloc]
  have HVV1 := Lib.hid hV.symm
  clear hV
  obtain ⟨V2, hV⟩ : ∃ V2, V2 = V1.alloc (.cells #[.slice none 0 0] 47) := ⟨_, rfl⟩
  have b1 := blk_new hV
  have hb := below_new hV
  replace h := (h.below hb).more hb.size
  replace b0 := blk_below b0 hb
  replace hbt := hbt.trans (hb.mono hbt.size)
  clear hb
  have HVV2 := Lib.hid hV.symm
  clear hV
  rw [HSV1.out] at b1
  rw [← HVV1.out] at HVV2
  have hm2 : V2.cell? ⟨0, 0, none⟩ = some (.int .i64 mx) := (hbt.cell (World.block_lt_of_cell? _ _ hm)).trans hm
  have c0 := blk_cell (j := 0) b0
  have c1 := blk_cell (j := 1) b0
  have c2 := blk_cell (j := 2) b0
  have c3 := blk_cell (j := 3) b0
  have c4 := blk_cell (j := 4) b0
  simp only [List.getElem?_toArray, List.getElem?_cons_zero, List.getElem?_cons_succ] at c0 c1 c2 c3 c4
  rw [← HVV2.out] at c0 c1 c2 c3 c4
  refine (callsIn_wide (n := 3)).1 ?_
  refine callsIn_of_wp_marks Tryz.func22 rfl trivial ?_ rfl
  simp only [Tryz.ntmps22, List.size_toArray, List.length_cons, List.length_nil, Nat.reduceAdd, Nat.reduceSub, Array.replicate_succ, Array.replicate_zero, List.push_toArray, List.append_toArray, List.nil_append, List.cons_append]
  gi_wp2_with fail
  rw [HVV2.out]
  clear HVV2 HVV1 HSV1 c0 c1 c2 c3 c4
  refine ⟨trivial, ?_⟩
  refine CallsIn.mono (callsIn_wide.2 (sCheck_any f s mx V2 h hm2)) ?_
  rintro e w3 ⟨rfl, hb⟩
  replace h := (h.below hb).more hb.size
  replace b0 := blk_below b0 hb
  replace b1 := blk_below b1 hb
  replace hbt := hbt.trans (hb.mono hbt.size)
  clear hb hm2
  by_cases hE : Sc.chk s ≠ 0
  · have HC : Hid (R = ([], Sc.chk s)) := by show _ = _; rw [HR.out, if_pos hE]
    generalize Sc.chk s = er at *
    have dE : (er != 0) = true := by simp; omega
    have r0 := blk_cell (j := 0) b1
    have r1 := blk_frozen 0 b1
    simp only [List.getElem?_toArray, List.getElem?_cons_zero] at r0
    have x2 := blk_set (k := 0) (.slice none 0 0) b1
    simp only [List.setIfInBounds_toArray, List.set_cons_zero] at x2
    gi_wp2_with fail
    refine ⟨_, all_results rfl rfl x2, ?_⟩
    exact allpost_err HC.out (hbt.setCell (p := ⟨w.heap.size + 1, 0, none⟩) (by simp) _)
  · have hE : Sc.chk s = 0 := Classical.not_not.1 hE
    have hp := HP.out hE
    rw [hE] at HR ⊢
    clear hE HP
    have r0 := blk_cell (j := 0) b1
    have r1 := blk_frozen 0 b1
    simp only [List.getElem?_toArray, List.getElem?_cons_zero] at r0
    have x2 := blk_set (k := 0) (.slice none 0 0) b1
    simp only [List.setIfInBounds_toArray, List.set_cons_zero] at x2
    by_cases hneg : most < 0
    · have HC : Hid (R = ([], 1)) := by show _ = _; rw [HR.out, if_neg (by simp), if_pos hneg]
      have d1 : decide (most < 0) = true := by simp; omega
      gi_wp2_with fail
      refine ⟨_, all_results rfl rfl x2, ?_⟩
      exact allpost_err HC.out (hbt.setCell (p := ⟨w.heap.size + 1, 0, none⟩) (by simp) _)
    · have d1 : decide (most < 0) = false := by simp; omega
      obtain ⟨m, rfl⟩ : ∃ m : Nat, most = (m : Int) := ⟨most.toNat, by omega⟩
      have HR2 : Hid (R = if m < D ^ f.nL then ([], 2) else ((List.range (D ^ f.nL)).map (Wk.dec f.nS f.nR f.nL), 0)) := by
        show _ = _
        rw [HR.out, if_neg (by simp), if_neg hneg]
        congr 1
        exact propext Int.ofNat_lt
      have HD0 : Hid (0 < D) := by show 0 < D; rw [HD.out]; exact Nat.mul_pos hp.1 hp.2
      clear hneg HR
      have c0 := blk_cell (j := 0) b0
      have c1 := blk_cell (j := 1) b0
      have c2 := blk_cell (j := 2) b0
      have c3 := blk_cell (j := 3) b0
      have c4 := blk_cell (j := 4) b0
      simp only [List.getElem?_toArray, List.getElem?_cons_zero, List.getElem?_cons_succ] at c0 c1 c2 c3 c4
      have hprod : (f.nS : Int) * (f.nR : Int) ≤ 1000000 := by have := Nat.mul_le_mul hs.1 hs.2.1; have := Int.ofNat_le.2 this; simpa using this
      have hprod0 : 0 < (f.nS : Int) * (f.nR : Int) := Int.mul_pos (by omega) (by omega)
      have hprodD : (f.nS : Int) * (f.nR : Int) = (D : Int) := by rw [HD.out]; simp
      gi_wp2_with fail
      gi_loopw [6, 19] (fun lv iv wr => ∃ k : Nat, k ≤ f.nL ∧ lv = .int .i64 ((m / D ^ k : Nat) : Int) ∧ iv = .int .i64 (k : Int) ∧ wr = w3) (fun _ iv _ => f.nL - (intOf iv).toNat)
      case atStart => exact ⟨0, Nat.zero_le _, by simp, rfl, rfl⟩
      case round =>
        obtain ⟨k, hk, rfl, rfl, rfl⟩ := hrel
        by_cases hkn : k < f.nL
        · have d2 : decide ((k : Int) < (f.nL : Int)) = true := by simp; omega
          have HDV := Lib.hid (Wk.div_step m D k)
          have hle : m / D ^ k ≤ m := Nat.div_le_self _ _
          obtain ⟨q, hq⟩ : ∃ q, q = m / D ^ k := ⟨_, rfl⟩
          rw [← hq] at HDV hle ⊢
          clear hq
          gi_wp2_with fail
          have HW : Hid (wrap64 ((q : Int) / (D : Int)) = ((m / D ^ (k + 1) : Nat) : Int)) := by show _ = _; rw [← HDV.out]; exact wrap_div (by omega)
          go_roundw
          case rel => exact ⟨k + 1, by omega, by rw [HW.out], by go_num, trivial⟩
          case measure => simp [intOf]; omega
        · obtain rfl : k = f.nL := by omega
          have d2 : decide ((f.nL : Int) < (f.nL : Int)) = false := by simp
          have HQ : Hid ((((m / D ^ f.nL : Nat) : Int) == 0) = decide (m < D ^ f.nL)) := by
            show _ = _
            have h1 := Nat.div_eq_zero_iff_lt (x := m) (Nat.pow_pos (n := f.nL) HD0.out)
            generalize m / D ^ f.nL = q at *
            rw [Bool.eq_iff_iff, decide_eq_true_iff, ← h1]
            simp
          by_cases hlt : m < D ^ f.nL
          · have HC : Hid (R = ([], 2)) := by show _ = _; rw [HR2.out, if_pos hlt]
            have d3 : (((m / D ^ f.nL : Nat) : Int) == 0) = true := by rw [HQ.out]; simp [hlt]
            generalize m / D ^ f.nL = q at *
            gi_wp2_with fail
            refine ⟨_, all_results rfl rfl x2, ?_⟩
            exact allpost_err HC.out (hbt.setCell (p := ⟨w.heap.size + 1, 0, none⟩) (by simp) _)
          · have d3 : (((m / D ^ f.nL : Nat) : Int) == 0) = false := by rw [HQ.out]; simp [hlt]
            have HC : Hid (R = ((List.range (D ^ f.nL)).map (Wk.dec f.nS f.nR f.nL), 0)) := by show _ = _; rw [HR2.out, if_neg hlt]
            have HLE : Hid (D ^ f.nL ≤ 300) := by show _ ≤ _; omega
            clear HR2 hlt HQ
            generalize m / D ^ f.nL = q at *
            gi_wp2_with fail
            refine ⟨trivial, ?_⟩
            refine CallsIn.mono (callsIn_wide.2 (wweeks_any f wr)) ?_
            rintro e W0 ⟨rfl, hW0⟩
            have hl1 := blk_lt b1
            have b2 := blk_new hW0
            have hb := below_new hW0
            replace b0 := blk_below b0 hb
            replace b1 := blk_below b1 hb
            replace hbt := hbt.trans (hb.mono hbt.size)
            have HS0 : Hid (W0.heap.size = wr.heap.size + 1) := by show W0.heap.size = _; rw [hW0, World.size_alloc]
            clear hW0 hb c0 c1 c2 c3 c4 x2 r0 r1
            gi_wp2_with fail
            generalize hbS : wr.heap.size = bS at *
            refine wpIn_rangeB (gf := 59) (lb := #[.pointer (some ⟨bS, 0, none⟩)]) rfl (enters_of Tryz.func59 (by kernel_rfl) rfl)
              (weeks1_iter bS (W0.heap.size + 2) w.heap.size f W0 b2 rfl hbt.size mS mR mL hs hp)
              (fun X o => stw_alloc _ X o)
              (fun X Y k o hst hk hx hc => stw_noncells hst hx hc)
              (fun X o hx => kpw_alloc (Nat.le_trans hbt.size hx) o)
              (fun X Y Z h1 h2 => kpw_trans h1 h2)
              (fun X r o o' hr ho hc => kpw_put o' (Nat.le_trans hbt.size hr) ho hc)
              (fun i args => wkY_put) (fun i args W hy => by obtain ⟨rfl, _⟩ := hy; rfl)
              (AllAt w (w.heap.size + 1) (W0.heap.size + 2) f.nS f.nR f.nL) (fun i X Y hi hst => hi.st (by rw [HS0.out]; omega) (by have := hbt.size; omega) hst) (fun i X r o o' hi hr ho hc => hi.put o' (Nat.le_trans hbt.size hr) ho hc)
              ⟨.slice none 0 0, [], b1, World.ownsRow_nil _ _ _ _, by simp, hbt⟩
              (fun args => { tmps := #[.agg #[.slice f.aS f.nS f.cS, .slice f.aR f.nR f.cR, .slice f.aP f.nP f.cP, .slice f.aG f.nG f.cG, .slice f.aL f.nL f.cL], .int .i64 m, .pointer (some ⟨w.heap.size, 0, none⟩), undef,
                .pointer (some ⟨w.heap.size + 1, 0, none⟩), .int .i64 0, .int .i64 q, args.getD 0 undef, .agg #[.slice f.aS f.nS f.cS, .slice f.aR f.nR f.cR, .slice f.aP f.nP f.cP, .slice f.aG f.nG f.cG, .slice f.aL f.nL f.cL],
                .int .i64 0, .int .i64 0, .bool false, undef, .int .i64 m, .bool false, .int .i64 m, .pointer (some ⟨w.heap.size, 4, none⟩), .slice f.aL f.nL f.cL, .int .i64 f.nL, .int .i64 f.nL, .bool false,
                u21, u22, u23, u24, u25, u26, u27, u28, u29, u30, .int .i64 q, .bool false, .agg #[.slice f.aS f.nS f.cS, .slice f.aR f.nR f.cR, .slice f.aP f.nP f.cP, .slice f.aG f.nG f.cG, .slice f.aL f.nL f.cL],
                .func (.func 59) #[] #[.pointer (some ⟨bS, 0, none⟩)], args.getD 0 undef, undef, undef, undef, undef, undef, undef, undef, undef], defers := [] }) ?assign ?body ?done
            case assign =>
              rintro l0 i args W K ⟨rfl, _⟩ hK
              gi_wp2
              exact hK
            case body =>
              rintro l0 i args W hi hA ⟨rfl, hrow⟩
              have hBW : W0.heap.size + 2 < W.heap.size := own_some_lt hrow
              gi_wp2
              refine wpIn_region_stage 5 [([0, 1], some 2), ([3], some 4)] [([], some 5), ([], some 6)] (by kernel_rfl) (by kernel_rfl) (by kernel_rfl) ?_
              intro wd hsz hb
              replace hA := hA.below hb
              replace hrow := own_below hrow hb
              have hKP : KpW w.heap.size bS (W0.heap.size + 2) W wd := ⟨hb.mono (by have := hbt.size; omega), ck_below hb, ck_below hb⟩
              have hKO : KeepsOthers W wd := ⟨hb.size, fun k o hk _ => (hb.block k (Array.getElem?_eq_some_iff.1 hk).1).trans hk⟩
              obtain ⟨v, xs, x1, x3, x5, x6⟩ := hA
              obtain ⟨Av, cv, rfl, _⟩ := own_rd x3
              simp only [pickP, pick, List.map_cons, List.map_nil, Option.map_some, Option.map_none, List.getD_cons_zero, List.getD_cons_succ]
              have c0 : ∀ x : Ext wd.heap.size wd, x.val.cell? ⟨w.heap.size + 1, 0, none⟩ = some (.slice Av i cv) := fun x => ((x.cell (blk_lt x1)).trans (blk_cell x1)).trans rfl
              refine stage_cons ?_
              (repeat (go_big_quiet_step (fail)))
              refine plan_nil ?_
              clear c0
              refine plan_call (by kernel_rfl) (fun K hK => ?_)
              go_simp
              refine (cloneP_any (some ⟨W0.heap.size + 2, 0, none⟩) f.nL f.nL (Wk.dec f.nS f.nR f.nL i) wd (rdP_of_own hrow (dec_ok hs hi)) (by omega)).mono ?_
              rintro e w2 ⟨v2, rfl, ho2, hb⟩
              refine hK.out _ _ hb ?_
              clear hK K
              (try simp only [Act.put, List.setIfInBounds_toArray, List.set_cons_zero, List.set_cons_succ])
              obtain ⟨A2, c2, rfl, _⟩ := own_rdK ho2
              have hwd : W0.heap.size + 2 < wd.heap.size := by have := own_some_lt hrow; omega
              have ho2 := own_mono ho2 (show W0.heap.size + 2 + 1 ≤ wd.heap.size by omega)
              replace x1 := blk_below x1 hb
              replace x3 := own_below x3 hb
              replace x5 : ∀ (j : Nat) (u : Value), xs[j]? = some u → ∃ A c, u = .slice A f.nL c ∧ w2.ownsRow (W0.heap.size + 2 + 1) 62 2 u f.nL (pv (Wk.dec f.nS f.nR f.nL j)) := fun j u hu => by
                obtain ⟨A, c, e1, e2⟩ := x5 j u hu
                exact ⟨A, c, e1, own_below e2 hb⟩
              replace x6 := x6.trans (hb.mono x6.size)
              replace hKP := kpw_trans hKP ⟨hb.mono (by have := hbt.size; omega), ck_below hb, ck_below hb⟩
              replace hKO := hKO.trans ⟨hb.size, fun k o hk _ => (hb.block k (Array.getElem?_eq_some_iff.1 hk).1).trans hk⟩
              have hw2 := hb.size
              clear hb hrow
              refine stage_cons ?_
              (repeat (go_big_quiet_step (fail)))
              refine plan_nil ?_
              refine plan_call (by kernel_rfl) (fun K hK => ?_)
              go_simp
              obtain ⟨V5, hV⟩ : ∃ V5, V5 = w2.alloc (.cells #[.slice A2 f.nL c2] 31) := ⟨_, rfl⟩
              have b5 := blk_new hV
              have hb := below_new hV
              rw [← hV]
              clear hV
              refine hK.out _ _ hb ?_
              clear hK K
              (try simp only [Act.put, List.setIfInBounds_toArray, List.set_cons_zero, List.set_cons_succ])
              replace x1 := blk_below x1 hb
              replace x3 := own_below x3 hb
              replace ho2 := own_below ho2 hb
              replace x5 : ∀ (j : Nat) (u : Value), xs[j]? = some u → ∃ A c, u = .slice A f.nL c ∧ V5.ownsRow (W0.heap.size + 2 + 1) 62 2 u f.nL (pv (Wk.dec f.nS f.nR f.nL j)) := fun j u hu => by
                obtain ⟨A, c, e1, e2⟩ := x5 j u hu
                exact ⟨A, c, e1, own_below e2 hb⟩
              replace x6 := x6.trans (hb.mono x6.size)
              replace hKP := kpw_trans hKP ⟨hb.mono (by have := hbt.size; omega), ck_below hb, ck_below hb⟩
              replace hKO := hKO.trans ⟨hb.size, fun k o hk _ => (hb.block k (Array.getElem?_eq_some_iff.1 hk).1).trans hk⟩
              have hv5 := hb.size
              clear hb
              refine stage_late ?_
              refine late_cons ?_
              (repeat (go_big_quiet_step (fail)))
              refine late_nil ?_
              refine late_call (by kernel_rfl) (fun K hK => ?_)
              have hi300 : i < 300 := by rw [← HD.out] at hi; have := HLE.out; omega
              refine oper_app (.tmp 36) (.tmp 40) elW x3 (Rd.blk (n := 1) b5 rfl (by omega)) (by intro u hu; simp at hu; subst hu; rfl) (by omega) (by omega) (by omega) rfl rfl rfl ?_
              intro v' w6 ho6 hg6 hat6
              obtain ⟨A7, c7, rfl, _⟩ := own_rd ho6
              obtain ⟨s1, s2, s3, s4⟩ := all_step (n₀ := w.heap.size) (bS := bS) (bO := w.heap.size + 1) x1 x3 x5 x6 (by omega) hl1 (by have := HS0.out; omega) (by omega) (by omega) ho2 ho6 hg6
              refine hK.out _ _ ?_
              clear hK K
              (try simp only [Act.put, List.setIfInBounds_toArray, List.set_cons_zero, List.set_cons_succ])
              have c0 := blk_cell (j := 0) s1
              simp only [List.getElem?_toArray, List.getElem?_cons_zero] at c0
              have c1 := blk_frozen 0 s1
              refine late_cons ?_
              (repeat (go_big_quiet_step (fail)))
              refine late_nil ?_
              refine late_call (by kernel_rfl) (fun K hK => ?_)
              go_simp
              refine hK.out _ _ ?_
              clear hK K
              (try simp only [Act.put, List.setIfInBounds_toArray, List.set_cons_zero, List.set_cons_succ])
              refine late_end ?_
              exact ⟨(hKO.trans s2).from _, kpw_trans hKP s3, s4⟩
            case done =>
              rintro W ⟨v, xs, x1, x3, x5, x6⟩ hK
              obtain ⟨Av, cv, rfl, _⟩ := own_rd x3
              have r0 := blk_cell (j := 0) x1
              simp only [List.getElem?_toArray, List.getElem?_cons_zero] at r0
              have r1 := blk_frozen 0 x1
              obtain ⟨M, hM⟩ : ∃ M, M = (f.nS * f.nR) ^ f.nL := ⟨_, rfl⟩
              rw [← hM] at x1 x3 r0
              have HM := Lib.hid hM
              clear hM
              have y1 := blk_set (k := 0) (.slice Av M cv) x1
              simp only [List.setIfInBounds_toArray, List.set_cons_zero] at y1
              gi_wp2
              refine leaves_marks (m := w.heap.size) (ds := [_]) ⟨W0.heap.size, rfl, hbt.size, blk_other _ hK (by have := HS0.out; dsimp only; omega), by simp, trivial⟩ fun W' hW' => ?_
              refine ⟨_, all_results rfl rfl (hW'.2 _ _ _ _ y1), ?_⟩
              have hrow := own_tidy (own_set (p := ⟨w.heap.size + 1, 0, none⟩) (u := .slice Av M cv) x3 (fun g hg => by have := (x3.lt g hg).1; have := HS0.out; dsimp only; omega)) hW'
              obtain ⟨A2, c2, e2, hr2⟩ := own_rdK hrow
              cases e2
              refine ⟨Av, M, cv, by rw [HC.out], ?_, (x6.setCell (p := ⟨w.heap.size + 1, 0, none⟩) (by simp) _).trans hW'.1⟩
              rw [HC.out]
              have hxl : xs.length = M := by have := hrow.1; omega
              have HMD : M = D ^ f.nL := by rw [HM.out, HD.out]
              refine ⟨xs.map fun u => [u], by simp [hxl, HMD], by simp, ?_, fun i x r hi hr => ?_⟩
              · rw [← List.flatMap_def, List.flatMap_singleton']; exact hr2
              · rw [List.getElem?_map] at hi hr
                obtain ⟨j, hj, rfl⟩ := Option.map_eq_some_iff.1 hi
                obtain ⟨u, hu, rfl⟩ := Option.map_eq_some_iff.1 hr
                obtain ⟨hjl, rfl⟩ := List.getElem?_eq_some_iff.1 hj
                rw [List.length_range] at hjl
                rw [List.getElem_range]
                obtain ⟨A, c, rfl, ho⟩ := x5 _ u hu
                refine ⟨A, c, by rw [Wk.dec_length], ?_⟩
                rw [Wk.dec_length]
                exact rdP_of_own (own_tidy (own_set ho (fun g hg => by have := (ho.lt g hg).1; have := HS0.out; dsimp only; omega)) hW') (dec_ok hs (by rw [← HD.out]; exact hjl))
end Go.Proofs.YtojbjaklngdlcaaGreatDoor
