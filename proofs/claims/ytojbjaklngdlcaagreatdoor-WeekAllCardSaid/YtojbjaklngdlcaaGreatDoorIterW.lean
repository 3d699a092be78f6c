/-
  The iterator of PutInt.
-/
import Derived.Test.YtojbjaklngdlcaaGreatDoorPutW
import Derived.Test.YtojbjaklngdlcaaGreatDoorLotA
import Derived.Laws.Bits128
namespace Go.Proofs.YtojbjaklngdlcaaGreatDoor
open Go.RowKit Go.Shelf
set_option linter.unusedVariables false
set_option linter.unusedSimpArgs false
attribute [local go_sem] Oper.semAt_some

/-- What a round keeps for the iterator: what lay below n₀, and its box. -/
def KpB (n₀ Bb : Nat) (A B : World) : Prop := Below n₀ A B ∧ B.heap[Bb]? = A.heap[Bb]?
def StG (Bb : Nat) (A B : World) : Prop := A.grownBy B (some Bb)
def gY (Z : Nat) (i : Nat) (args : Array Value) (W : World) : Prop := ∃ b : UInt8, (Vi.enc Z)[i]? = some b ∧ args = #[.int .u8 (b.toNat : Int)]
/-- The number in the iterator's box. -/
def boxU (Bb : Nat) (W : World) : Nat := match W.cell? ⟨Bb, 0, none⟩ with | some v => (intOf v).toNat | none => 0

theorem or128_nat : ∀ a : Fin 256, (a.val ||| 128) = a.val % 128 + 128 := by decide +kernel
theorem or128 (U : Nat) : bits .or .u8 ((U : Int) % 256) 128 = ((U % 128 + 128 : Nat) : Int) := by
  have h1 := u8_or_nat (U % 256) 128 (Nat.mod_lt _ (by decide)) (by decide)
  have h2 := or128_nat ⟨U % 256, Nat.mod_lt _ (by decide)⟩
  simp only at h2
  rw [h2] at h1
  have e : ((U % 256 : Nat) : Int) = (U : Int) % 256 := by omega
  rw [e] at h1
  rw [show (128 : Int) = ((128 : Nat) : Int) from rfl, h1]
  omega
theorem enc_at {Z U : Nat} {pre : List UInt8} (h : Vi.enc Z = pre ++ Vi.enc U) : (Vi.enc Z)[pre.length]? = (Vi.enc U)[0]? := by
  rw [h, List.getElem?_append_right (Nat.le_refl _), Nat.sub_self]
theorem enc_more {Z U : Nat} {pre : List UInt8} (h : Vi.enc Z = pre ++ Vi.enc U) : pre.length < (Vi.enc Z).length := by
  rw [h, List.length_append]
  have := Vi.enc_pos U
  omega
theorem u8_ofNat (b : Nat) (h : b < 256) : (((UInt8.ofNat b).toNat : Nat) : Int) = (b : Int) := by
  rw [UInt8.toNat_ofNat', Nat.mod_eq_of_lt h]

set_option maxRecDepth 100000 in
set_option maxHeartbeats 1000000 in
theorem groups1_iter (Bb n₀ Z : Nat) (w : World) (hbox : Boxed w Bb 136 (.int .u64 (Z : Int))) (hZ : Z < 18446744073709551616) (hn₀ : n₀ ≤ w.heap.size) :
    IterT Tryz.prog 90 #[.pointer (some ⟨Bb, 0, none⟩)] (StG Bb) (KpB n₀ Bb) (Vi.enc Z).length (gY Z) w := by
  intro l0 J W hKw hJ hY h0
  have hbW : Boxed W Bb 136 (.int .u64 (Z : Int)) := hKw.2.trans hbox
  refine callsIn_of_wp Tryz.func90 rfl trivial ?_ rfl
  simp only [Tryz.ntmps90, List.size_toArray, List.length_cons, List.length_nil, Nat.reduceAdd, Nat.reduceSub, Array.replicate_succ, Array.replicate_zero, List.push_toArray, List.append_toArray, List.nil_append, List.cons_append]
  gi_wp2
  gi_loopw [3] (fun _ wr => ∃ (U : Nat) (pre : List UInt8), U < 18446744073709551616 ∧ Vi.enc Z = pre ++ Vi.enc U ∧ J pre.length wr ∧ Boxed wr Bb 136 (.int .u64 (U : Int))) (fun _ wr => boxU Bb wr)
  case atStart => exact ⟨Z, [], hZ, rfl, h0, hbW⟩
  case round =>
    obtain ⟨U, pre, hU, hen, hJs, hbx⟩ := hrel
    have hcell := hbx.cell
    have hfrz := hbx.frozen
    have HM : Hid (boxU Bb wr = U) := by show boxU Bb wr = U; unfold boxU; rw [hcell]; simp [intOf]
    have hlt := enc_more hen
    by_cases h128 : U < 128
    · have d1 : decide ((127 : Int) < (U : Int)) = false := by simp; omega
      have d1' : decide (127 < U) = false := by simp; omega
      have d2 : decide ((U : Int) < 128) = true := by simp; omega
      have d2' : decide (U < 128) = true := by simp; omega
      have hyy := hY pre.length #[.int .u8 (U : Int)] wr hlt hJs ⟨UInt8.ofNat U, by rw [enc_at hen, Vi.enc_lt h128]; rfl, by rw [u8_ofNat U (by omega)]⟩
      obtain ⟨fn, tmps, assign, body, hy, hR⟩ := hyy
      have HR := Lib.hid hR
      have HE : Hid (pre.length + 1 = (Vi.enc Z).length) := by show pre.length + 1 = _; rw [hen, Vi.enc_lt h128, List.length_append]; rfl
      clear hR hY hJ hen hlt
      gi_wp2
      refine ⟨fun _ h => (by cases h), ?_⟩
      gi_wp2
      refine HR.out.mono ?_
      rintro e W3 ⟨rfl, hJ3, hk3⟩
      gi_wp2
      refine bodyPost_end (results_none rfl _ _ _) rfl ?_
      exact ⟨⟨_, rfl⟩, by rw [← HE.out]; exact hJ3⟩
    · have d1 : decide ((127 : Int) < (U : Int)) = true := by simp; omega
      have d1' : decide (127 < U) = true := by simp; omega
      have hyy := hY pre.length #[.int .u8 (bits .or .u8 ((U : Int) % 256) 128)] wr hlt hJs ⟨UInt8.ofNat (U % 128 + 128), by rw [enc_at hen, Vi.enc_ge h128]; rfl, by rw [u8_ofNat _ (by omega), or128]⟩
      obtain ⟨fn, tmps, assign, body, hy, hR⟩ := hyy
      have HR := Lib.hid hR
      have HE := Lib.hid (enc_split hen h128)
      have HJ := Lib.hid hJ
      clear hR hY hJ hen hlt
      gi_wp2
      refine HR.out.mono ?_
      rintro e W3 ⟨rfl, hJ3, hk3⟩
      have hbx3 : Boxed W3 Bb 136 (.int .u64 (U : Int)) := hk3.2.trans hbx
      have c3 := hbx3.cell
      have f3 := hbx3.frozen
      gi_wp2
      go_roundw
      case rel => exact ⟨U / 128, pre ++ [UInt8.ofNat (U % 128 + 128)], by omega, HE.out, by rw [List.length_append]; exact HJ.out _ _ _ hJ3 (grownBy_setCell' _ _ _), hbx3.set _⟩
      case measure =>
        have HM2 : boxU Bb (W3.setCell ⟨Bb, 0, none⟩ (.int .u64 (((U / 128 : Nat) : Int)))) = U / 128 := by
          unfold boxU
          rw [(hbx3.set (.int .u64 (((U / 128 : Nat) : Int)))).cell]
          simp [intOf]
          omega
        have e : ((U / 128 : Nat) : Int) = (U : Int) / 128 := by omega
        rw [e] at HM2
        rw [HM.out]
        first | (rw [HM2]; omega) | (simp only [HM2]; omega)

/-- Between two rounds: the box of the slice, what it owns, apart from the iterator's box Bb. -/
def putIv (l s : List UInt8) (B Bb B0 : Nat) (w : World) (i : Nat) (W : World) : Prop :=
  ∃ v, Boxed W B 59 v ∧ W.ownsRow B0 5 1 v (l.length + i) (bv (l ++ s.take i)) ∧ v.ownBlock ≠ some Bb ∧ Below B0 w W ∧ Bb < W.heap.size
theorem putIv_st {l s : List UInt8} {B Bb B0 : Nat} {w : World} {i : Nat} {X Y : World} (hB : B ≠ Bb) (h : putIv l s B Bb B0 w i X) (hw : B0 ≤ Bb) (hs0 : B0 ≤ w.heap.size) (hst : StG Bb X Y) : putIv l s B Bb B0 w i Y := by
  obtain ⟨v, h1, h2, h3, h4, h5⟩ := h
  refine ⟨v, h1.kept hst (fun e => hB (Option.some.inj e)), h2.kept hst ?_, h3, h4.grown hst (Nat.le_trans hs0 h4.size) (fun g hg => by cases hg; exact hw), Nat.lt_of_lt_of_le h5 hst.size⟩
  cases hv : v.ownBlock with
  | none => exact .inl rfl
  | some g => exact .inr (by rw [← hv]; exact h3)
theorem putIv_put {l s : List UInt8} {B Bb B0 : Nat} {w : World} {i B1 : Nat} (hB : B0 ≤ B1) : Puts B1 (putIv l s B Bb B0 w i) := by
  rintro A r o o' ⟨v, h1, h2, h3, h4, h5⟩ hr ho hc
  exact ⟨v, boxed_put h1 o' ho hc, ownsRow_putObj h2 o' ho hc, h3, below_put h4 o' (by omega) ho, by simpa using h5⟩
theorem gY_put {Z i B : Nat} {args : Array Value} : Puts B (gY Z i args) := by
  rintro A r o o' ⟨b, h1, h2⟩ hr ho hc
  exact ⟨b, h1, h2⟩
theorem take_snoc {s : List UInt8} {i : Nat} {b : UInt8} (h : s[i]? = some b) : s.take (i + 1) = s.take i ++ [b] := by
  obtain ⟨hi, rfl⟩ := List.getElem?_eq_some_iff.1 h
  exact List.take_succ_eq_append_getElem hi
/-- One round's worth: the world behind 'b = append(b, c)'. -/
theorem put_step {l s : List UInt8} {B Bb B0 : Nat} {w W w1 : World} {i : Nat} {b : UInt8} {v v' : Value}
    (hb : Boxed W B 59 v) (hrow : W.ownsRow B0 5 1 v (l.length + i) (bv (l ++ s.take i))) (hne : v.ownBlock ≠ some Bb) (hB : Below B0 w W) (hs0 : B0 ≤ w.heap.size) (hBb : Bb < W.heap.size) (hBB : B ≠ Bb) (hwB : B0 ≤ B)
    (hx : s[i]? = some b) (hown' : w1.ownsRow B0 5 1 v' (l.length + i + 1) (bv (l ++ s.take i) ++ [.int .u8 (b.toNat : Int)])) (hgr : (W.alloc (.cells #[.int .u8 (b.toNat : Int)] 5)).grownBy w1 v.ownBlock)
    (hat : v'.ownBlock = v.ownBlock ∨ v'.ownBlock = some (W.alloc (.cells #[.int .u8 (b.toNat : Int)] 5)).heap.size) :
    Boxed w1 B 59 v ∧ (∀ B₀, KeepsFrom B₀ W (w1.setCell ⟨B, 0, none⟩ v')) ∧ ((w1.setCell ⟨B, 0, none⟩ v').heap[Bb]? = W.heap[Bb]?) ∧ putIv l s B Bb B0 w (i + 1) (w1.setCell ⟨B, 0, none⟩ v') ∧ Below B0 W (w1.setCell ⟨B, 0, none⟩ v') := by
  obtain ⟨b1, b2, b3, b4, b5⟩ := hb.appended (by decide) hrow (Nat.le_trans hs0 hB.size) hwB hown' hgr
  refine ⟨b1, fun B₀ => b4.from B₀, ?_, ⟨v', b2, ?_, ?_, hB.trans b5, ?_⟩, b5⟩
  · have e1 : w1.heap[Bb]? = W.heap[Bb]? := (hgr.block _ (by simp; omega) (fun e => hne e.symm)).trans (Below.heap_alloc _ _ _ hBb)
    rw [← e1]
    exact heap_setCell_other _ _ _ _ (by simpa using fun e => hBB e.symm)
  · rw [take_snoc hx, ← List.append_assoc, bv_append]
    exact b3
  · rcases hat with h | h
    · rw [h]; exact hne
    · rw [h]; simp; omega
  · have := b5.size
    have e : (w1.setCell ⟨B, 0, none⟩ v').heap.size = w1.heap.size := by simp
    have := hgr.size
    simp at this
    omega

set_option maxRecDepth 100000 in
set_option maxHeartbeats 1000000 in
theorem putInt_any (A : Option Addr) (m c : Nat) (l : List UInt8) (n : Int) (w : World) (h : RdB w w.heap.size A m c l) (hm : m ≤ 1099511627776) (hn : -9223372036854775808 ≤ n ∧ n ≤ 9223372036854775807) :
    Calls Tryz.prog 55 #[.slice A m c, .int .i64 n] w (RetNew 5 (m + (Vi.putI n).length) (bv (l ++ Vi.putI n)) w) := by
  have hlen := Lib.hid h.len
  have hb1 := (Below.refl w.heap.size w).alloc (Nat.le_refl _) (.cells #[.slice A m c] 59)
  have hp1 := (h.below hb1).more hb1.size
  have x1 : Boxed (w.alloc (.cells #[.slice A m c] 59)) w.heap.size 59 (.slice A m c) := Boxed.new w _ _
  refine (callsIn_wide (n := 3)).1 ?_
  refine callsIn_of_wp_marks Tryz.func55 rfl trivial ?_ rfl
  simp only [Tryz.ntmps55, List.size_toArray, List.length_cons, List.length_nil, Nat.reduceAdd, Nat.reduceSub, Array.replicate_succ, Array.replicate_zero, List.push_toArray, List.append_toArray, List.nil_append, List.cons_append]
  gi_wp2_with fail
  refine ⟨trivial, ?_⟩
  refine CallsIn.mono (callsIn_wide.2 (cloneB_any A m c l _ hp1 (by omega))) ?_
  rintro e w2 ⟨v2, rfl, hown2, hb2⟩
  obtain ⟨A2, c2, rfl, _⟩ := own_rdB hown2
  have x2 := boxed_below x1 hb2
  have hbw2 : Below w.heap.size w w2 := hb1.trans (hb2.mono hb1.size)
  have hown3 : w2.ownsRow w.heap.size 5 1 (.slice A2 m c2) m (bv l) := own_mono hown2 hb1.size
  have hlt2 : w.heap.size < w2.heap.size := x2.lt
  have k1 := x2.cell
  have k2 := x2.frozen
  clear hown2 hb2 x1 hp1 hb1
  gi_wp2_with fail
  refine ⟨trivial, ?_⟩
  refine CallsIn.mono (callsIn_wide.2 (groups_any n _ hn)) ?_
  rintro e W0 ⟨rfl, hW0⟩
  obtain ⟨Z, hZ⟩ : ∃ Z, Z = Vi.zig n := ⟨_, rfl⟩
  have hZ64 : Z < 18446744073709551616 := by rw [hZ]; exact Vi.zig_lt hn
  have HP : Hid (Vi.putI n = Vi.enc Z) := by show Vi.putI n = _; unfold Vi.putI; rw [hZ]
  rw [← hZ] at hW0
  have HLEN := Lib.hid (Vi.enc_len10 hZ64)
  have es : (w2.setCell ⟨w.heap.size, 0, none⟩ (.slice A2 m c2)).heap.size = w2.heap.size := by simp
  have hs0 : W0.heap.size = w2.heap.size + 1 := by rw [hW0, World.size_alloc, es]
  have hB0 : Below w.heap.size w W0 := by rw [hW0]; exact (hbw2.setCell (p := ⟨w.heap.size, 0, none⟩) (Nat.le_refl _) _).alloc (by rw [es]; omega) _
  have y1 : Boxed W0 w.heap.size 59 (.slice A2 m c2) := by rw [hW0]; exact (x2.set _).alloc _
  have y2 : Boxed W0 w2.heap.size 136 (.int .u64 (Z : Int)) := by rw [hW0, ← es]; exact Boxed.new _ _ _
  have y3 : W0.ownsRow w.heap.size 5 1 (.slice A2 m c2) m (bv l) := by rw [hW0]; exact (hown3.kept (grownBy_setCell' _ _ _) (.inr (x2.not_row (by decide) hown3).symm)).alloc _
  have y4 : (Value.slice A2 m c2).ownBlock ≠ some w2.heap.size := fun e => by have := (hown3.lt _ e).2; omega
  rw [es]
  clear hZ hW0 k1 k2 x2 hown3 es hbw2
  gi_wp2_with fail
  refine wpIn_rangeT (gf := 90) (lb := #[.pointer (some ⟨w2.heap.size, 0, none⟩)]) rfl (enters_of Tryz.func90 (by kernel_rfl) rfl)
    (groups1_iter w2.heap.size w.heap.size Z W0 y2 hZ64 hB0.size)
    (fun X o => World.grownBy_alloc _ _ _)
    (fun X Y k o hst hk hx _ => (hst.block k (Array.getElem?_eq_some_iff.1 hx).1 (fun e => by cases e; omega)).trans hx)
    (fun X o hs => ⟨(Below.refl _ X).alloc (by omega) o, Below.heap_alloc _ _ _ (by omega)⟩)
    (fun X Y Z h1 h2 => ⟨h1.1.trans h2.1, h2.2.trans h1.2⟩)
    (fun X r o o' hr hk _ => ⟨below_put (Below.refl _ _) o' (by omega) hk, World.putObj_heap_other (by omega)⟩)
    (fun i args => gY_put) (fun i args W hy => by obtain ⟨_, _, rfl⟩ := hy; rfl)
    (putIv l (Vi.enc Z) w.heap.size w2.heap.size w.heap.size w) (fun i X Y hi hb => putIv_st (by omega) hi (by omega) (Nat.le_refl _) hb) (fun i => putIv_put (by omega))
    ⟨_, y1, by rw [hlen.out]; simpa using y3, y4, hB0, by omega⟩
    (fun args => { tmps := #[.slice A m c, .int .i64 n, .pointer (some ⟨w.heap.size, 0, none⟩), undef, .slice none 0 0, args.getD 0 undef, .slice A m c, .slice A2 m c2, .int .i64 n,
        .func (.func 90) #[] #[.pointer (some ⟨w2.heap.size, 0, none⟩)], args.getD 0 undef, undef, undef, undef, undef, undef], defers := [] }) ?assign ?body ?done
  case assign =>
    rintro l0 i args W K ⟨b, _, rfl⟩ hK
    gi_wp2
    exact hK
  case body =>
    rintro l0 i args W hi ⟨v, z1, z2, z3, z4, z5⟩ ⟨b, hx, rfl⟩
    have hc1 := z1.cell
    have hf1 := z1.frozen
    have hsz := z4.size
    have hi10 : i ≤ 10 := by have := HLEN.out; omega
    have hlm := hlen.out
    have hx1 : (l.length + i + 1) * 1 ≤ 140737488355328 := by omega
    have hx1' : l.length + i + 1 ≤ 140737488355328 := by omega
    have hx2 : ∀ o, w.heap.size ≤ (W.alloc o).heap.size := fun o => by rw [World.size_alloc]; omega
    have HLM := Lib.hid hlm
    have HSTEP : Hid (∀ v' w1, w1.ownsRow w.heap.size 5 1 v' (l.length + i + 1) (bv (l ++ (Vi.enc Z).take i) ++ [.int .u8 (b.toNat : Int)]) → (W.alloc (.cells #[.int .u8 (b.toNat : Int)] 5)).grownBy w1 v.ownBlock → (v'.ownBlock = v.ownBlock ∨ v'.ownBlock = some (W.alloc (.cells #[.int .u8 (b.toNat : Int)] 5)).heap.size) → _) :=
      fun v' w1 a1 a2 a3 => put_step (B := w.heap.size) z1 z2 z3 z4 (Nat.le_refl _) z5 (by omega) (Nat.le_refl _) hx a1 a2 a3
    clear hlm y1 y2 y3 y4 hs0
    gi_wp2_with (gi_at_builtin; refine wpListIn_app (.tmp 11) (.tmp 13) elB (z2.alloc _) (Rd.one W _ _) (one_u8 _) hx1 hx1' (hx2 _) rfl rfl rfl rfl ?_; intro v' w1 hown1 hg1 hat1; obtain ⟨g', cap', rfl⟩ := ownsRow_succ hown1; obtain ⟨s1, s2, s3, s4, s5⟩ := HSTEP.out _ _ hown1 hg1 hat1; have t1 := s1.cell; have t2 := s1.frozen)
    exact ⟨s2 _, ⟨s5, s3⟩, s4⟩
  case done =>
    rintro W ⟨v, z1, z2, z3, z4, z5⟩ hK
    obtain ⟨Av, cv, rfl, hrv⟩ := own_rd z2
    have c1 := z1.cell
    gi_wp2
    refine ⟨by simp, .inl ⟨_, _, rfl, run_takeDeferred (w := W) hK, ?_⟩⟩
    refine ⟨.slice Av (l.length + (Vi.enc Z).length) cv, ?_, ⟨.slice Av (l.length + (Vi.enc Z).length) cv, rfl, ?_, below_put z4 _ (by have := hB0.size; omega) hK⟩⟩
    · simp [results, Tryz.results55, go_sem]
    · have := ownsRow_putObj z2 (.deferred none) hK rfl
      rw [List.take_length] at this
      rw [HP.out, ← hlen.out]
      exact this

/-- What an append onto a row that the caller owns leaves. -/
def RetOn (B0 : Nat) (t : TypeId) (k : Nat) (xs : List Value) (w : World) (e : Ending) (w' : World) : Prop :=
  ∃ v', e = .returned v' ∧ w'.ownsRow B0 t 1 v' k xs ∧ Below B0 w w'
end Go.Proofs.YtojbjaklngdlcaaGreatDoor
