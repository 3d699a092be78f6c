/-
  The walks of the frames' iterator, of Scan and of the reference's Scan.
-/
import Derived.Test.YtfacdoemgalodaaSealOne
import Derived.Test.YtfacdoemgalodaaRange
import Derived.Test.YtfacdoemgalodaaExt
namespace Go.Proofs.Ytfacdoemgalodaa
open Go.RowKit Go.Shelf
set_option linter.unusedVariables false
attribute [local go_sem] Oper.semAt_some

/-- The frames from offset p on, each with the offset behind it, until the first that does not open. -/
def ScanOK (l : List UInt8) : Nat → List (List UInt8 × Nat) → Prop
  | p, [] => (openI l p).err ≠ 0
  | p, (b, q) :: r => openI l p = ⟨0, b, q⟩ ∧ ScanOK l q r

/-- What a round keeps for the iterator: what lay below n₀, and its box. -/
def KpB (n₀ Bb : Nat) (A B : World) : Prop := Below n₀ A B ∧ B.heap[Bb]? = A.heap[Bb]?

def frY (sc : List (List UInt8 × Nat)) (base : Nat) (i : Nat) (args : Array Value) (W : World) : Prop :=
  ∃ (A : Option Addr) (c : Nat) (body : List UInt8) (next : Nat), sc[i]? = some (body, next) ∧ args = #[.slice A body.length c, .int .i64 next] ∧ W.ownsRow base 5 1 (.slice A body.length c) body.length (bv body)

set_option maxRecDepth 100000 in
set_option maxHeartbeats 1000000 in
theorem frames1_iter (Bb n₀ : Nat) (A : Option Addr) (n c : Nat) (l : List UInt8) (sc : List (List UInt8 × Nat)) (w : World) (hbox : Boxed w Bb 22 (.slice A n c)) (h : RdB w n₀ A n c l) (hn₀ : n₀ ≤ w.heap.size)
    (hn : n ≤ 140737488355328) (hsc : ScanOK l 0 sc) :
    Iter Try.prog 64 #[.pointer (some ⟨Bb, 0, none⟩)] (fun A B => Below A.heap.size A B) (KpB n₀ Bb) sc.length (frY sc w.heap.size) w := by
  intro l0 J Jx W hKw hJ hJx hY h0
  have hbW : Boxed W Bb 22 (.slice A n c) := hKw.2.trans hbox
  have hrW : RdB W n₀ A n c l := h.below hKw.1
  have hsW : w.heap.size ≤ W.heap.size := hKw.1.size
  have hm := h.max
  have hle := h.le
  have hlen := Lib.hid h.len
  refine callsIn_of_wp Try.func64 rfl trivial ?_ rfl
  simp only [Try.ntmps64, List.size_toArray, List.length_cons, List.length_nil, Nat.reduceAdd, Nat.reduceSub, Array.replicate_succ, Array.replicate_zero, List.push_toArray, List.append_toArray, List.nil_append, List.cons_append]
  gi_wp2
  gi_loopw [3] (fun p wr => ∃ (pre rest : List (List UInt8 × Nat)) (q : Nat), p = .int .i64 q ∧ q ≤ n ∧ sc = pre ++ rest ∧ ScanOK l q rest ∧ J pre.length wr ∧ Boxed wr Bb 22 (.slice A n c) ∧ RdB wr n₀ A n c l ∧ w.heap.size ≤ wr.heap.size)
    (fun p _ => n - (intOf p).toNat)
  case atStart => exact ⟨[], sc, 0, rfl, by omega, rfl, hsc, h0, hbW, hrW, hsW⟩
  case round =>
    obtain ⟨pre, rest, q, rfl, hq, hsplit, hok, hJs, hbx, hrd, hsz⟩ := hrel
    have hcell := hbx.cell
    have HS := Lib.hid hsplit
    clear hsplit
    gi_wp2_with fail
    refine ⟨trivial, ?_⟩
    refine CallsIn.mono (callsIn_wide.2 (open_any A n c l q wr (hrd.more (by omega)) hn (by omega) (by omega))) ?_
    have hcases := open_cases l q
    rintro e w2 ⟨v2, rfl, hown2, hb2⟩
    have hJ2 := hJ _ _ _ hJs hb2
    have hbx2 : Boxed w2 Bb 22 (.slice A n c) := (hb2.block Bb hbx.lt).trans hbx
    have hrd2 := hrd.below (hb2.mono (by omega))
    have hsz2 : w.heap.size ≤ w2.heap.size := Nat.le_trans hsz hb2.size
    cases rest with
    | nil =>
      have herr : (openI l q).err ≠ 0 := hok
      generalize openI l q = R at *
      obtain ⟨err, body, next⟩ := R
      dsimp only at *
      have d1 : ((err : Int) != 0) = true := by rw [bne_iff_ne]; omega
      clear hcases hok herr
      gi_wp2
      refine ⟨fun _ h => (by cases h), ?_⟩
      gi_wp2
      refine bodyPost_ret (results_none rfl _ _ _) rfl ?_
      exact ⟨⟨_, rfl⟩, .inl (by have e := HS.out; simp at e; rw [e]; exact hJ2)⟩
    | cons x rest =>
      obtain ⟨b, q'⟩ := x
      obtain ⟨hop, hok'⟩ : openI l q = ⟨0, b, q'⟩ ∧ ScanOK l q' rest := hok
      rw [hop] at hown2 hcases
      rw [hop]
      dsimp only at hown2 hcases ⊢
      have hfacts : q < q' ∧ q' ≤ n := by
        rcases hcases with ⟨_, q2, hq2, hq3, hbl, hnx, hnx2, _⟩ | ⟨hbad, _⟩
        · rw [hlen.out] at hnx2; omega
        · simp at hbad
      obtain ⟨hf1, hf2⟩ := hfacts
      have Hok := Lib.hid hok'
      clear hop hcases hok'
      obtain ⟨A2, c2, rfl, hr2⟩ := own_rdB hown2
      have hlt : pre.length < sc.length := by rw [HS.out]; simp
      have hyy := hY pre.length _ w2 hlt hJ2 ⟨A2, c2, b, q', by rw [HS.out]; simp, rfl, own_mono hown2 hsz⟩
      obtain ⟨fn, tmps, assign, body, hy, hR⟩ := hyy
      have HR := Lib.hid hR
      clear hR hY hJ hJx
      generalize b.length = bl at *
      gi_wp2
      refine HR.out.mono ?_
      rintro e W3 (⟨rfl, hJ3, hk3⟩ | ⟨rfl, hJx3⟩)
      · have hbx3 : Boxed W3 Bb 22 (.slice A n c) := hk3.2.trans hbx2
        have hrd3 := hrd2.below hk3.1
        gi_wp2
        go_roundw
        case rel => exact ⟨pre ++ [(b, q')], rest, q', rfl, hf2, by simp [HS.out], Hok.out, by simpa using hJ3, hbx3, hrd3, Nat.le_trans hsz2 hk3.1.size⟩
        case measure => simp [intOf]; omega
      · gi_wp2
        refine bodyPost_ret (results_none rfl _ _ _) rfl ?_
        exact ⟨⟨_, rfl⟩, .inr ⟨pre.length + 1, hlt, hJx3⟩⟩

/-- The iterator's maker: its argument in a box. -/
theorem frames_any (A : Option Addr) (n c : Nat) (w : World) :
    Calls Try.prog 48 #[.slice A n c] w fun e w' => e = .returned (.func (.func 64) #[] #[.pointer (some ⟨w.heap.size, 0, none⟩)]) ∧ w' = w.alloc (.cells #[.slice A n c] 22) := by
  go_enter Try.func48, Try.ntmps48
  go_wp2
  go_ret
  exact ⟨rfl, rfl⟩

theorem elBs : El Try.prog 56 22 (.slice none 0 0) 24 := ⟨Try.underlying56, by kernel_rfl, rfl⟩

/-- What Scan answers: the payloads, each in memory of its own, and the offset behind the last. -/
def ScanPost (sc : List (List UInt8 × Nat)) (w : World) (e : Ending) (w' : World) : Prop :=
  ∃ v vs, e = .returned (.tuple #[v, .int .i64 (((sc.getLast?.map (·.2)).getD 0 : Nat) : Int)]) ∧ w'.ownsRow w.heap.size 22 1 v sc.length vs ∧
    (∀ (i : Nat) (body : List UInt8) (next : Nat), sc[i]? = some (body, next) → ∃ u, vs[i]? = some u ∧ w'.ownsRow w.heap.size 5 1 u body.length (bv body)) ∧ Below w.heap.size w w'

/-- Between two rounds of Scan's loop. -/
def scanI (sc : List (List UInt8 × Nat)) (w : World) (i : Nat) (W : World) : Prop :=
  (∃ v vs, Boxed W w.heap.size 56 v ∧ W.ownsRow (w.heap.size + 3) 22 1 v i vs ∧ (∀ (j : Nat) (body : List UInt8) (next : Nat), j < i → sc[j]? = some (body, next) → ∃ u, vs[j]? = some u ∧ W.ownsRow w.heap.size 5 1 u body.length (bv body))) ∧
  Boxed W (w.heap.size + 1) 3 (.int .i64 ((((sc.take i).getLast?.map (·.2)).getD 0 : Nat) : Int)) ∧ Below w.heap.size w W ∧ w.heap.size + 3 ≤ W.heap.size

/-- A store of what a box holds already turns nothing. -/
theorem setCell_same {W : World} {B : Nat} {t : TypeId} {v : Value} (h : Boxed W B t v) : W.setCell ⟨B, 0, none⟩ v = W := by
  obtain ⟨hlt, hk⟩ := Array.getElem?_eq_some_iff.1 h
  cases W with
  | mk heap tape drawn os output =>
    simp only [World.setCell]
    congr 1
    apply Array.ext
    · simp
    · intro k h1 h2
      rw [Array.getElem_modify]
      split
      · rename_i e
        subst e
        simp only at hk
        rw [hk]
        rfl
      · rfl

theorem scanI_below {sc : List (List UInt8 × Nat)} {w : World} {i : Nat} {A B : World} (h : scanI sc w i A) (hb : Below A.heap.size A B) : scanI sc w i B := by
  obtain ⟨⟨v, vs, h1, h2, h3⟩, h4, h5, h6⟩ := h
  refine ⟨⟨v, vs, boxed_below h1 hb, own_below h2 hb, fun j body next hj hs => ?_⟩, boxed_below h4 hb, h5.trans (hb.mono h5.size), Nat.le_trans h6 hb.size⟩
  obtain ⟨u, hu, ho⟩ := h3 j body next hj hs
  exact ⟨u, hu, own_below ho hb⟩
theorem scanI_put {sc : List (List UInt8 × Nat)} {w : World} {i : Nat} {B : Nat} (hB : w.heap.size ≤ B) : Puts B (scanI sc w i) := by
  rintro A r o o' ⟨⟨v, vs, h1, h2, h3⟩, h4, h5, h6⟩ hr ho hc
  refine ⟨⟨v, vs, boxed_put h1 o' ho hc, ownsRow_putObj h2 o' ho hc, fun j body next hj hs => ?_⟩, boxed_put h4 o' ho hc, below_put h5 o' (by omega) ho, by simpa using h6⟩
  obtain ⟨u, hu, h⟩ := h3 j body next hj hs
  exact ⟨u, hu, ownsRow_putObj h o' ho hc⟩
theorem frY_put {sc : List (List UInt8 × Nat)} {base i B : Nat} {args : Array Value} : Puts B (frY sc base i args) := by
  rintro A r o o' ⟨A', c, body, next, h1, h2, h3⟩ hr ho hc
  exact ⟨A', c, body, next, h1, h2, ownsRow_putObj h3 o' ho hc⟩

theorem take_last (sc : List (List UInt8 × Nat)) (i : Nat) (x : List UInt8 × Nat) (h : sc[i]? = some x) : ((sc.take (i + 1)).getLast?.map (·.2)).getD 0 = x.2 := by
  obtain ⟨hi, rfl⟩ := List.getElem?_eq_some_iff.1 h
  rw [List.take_succ_eq_append_getElem hi, List.getLast?_append]
  simp

/-- One round's worth: the world behind 'l, good = append(l, body), next'. -/
theorem scan_step {sc : List (List UInt8 × Nat)} {w W w1 : World} {i base : Nat} {A2 : Option Addr} {c2 : Nat} {body : List UInt8} {next : Nat} {v v' : Value} {vs : List Value} {g : Value}
    (hb : Boxed W w.heap.size 56 v) (hrow3 : W.ownsRow (w.heap.size + 3) 22 1 v i vs)
    (hold : ∀ (j : Nat) (body : List UInt8) (next : Nat), j < i → sc[j]? = some (body, next) → ∃ u, vs[j]? = some u ∧ W.ownsRow w.heap.size 5 1 u body.length (bv body))
    (hg : Boxed W (w.heap.size + 1) 3 g) (hB : Below w.heap.size w W) (hW3 : w.heap.size + 3 ≤ W.heap.size)
    (hx : sc[i]? = some (body, next)) (hbase : w.heap.size ≤ base) (hown : W.ownsRow base 5 1 (.slice A2 body.length c2) body.length (bv body))
    (hown3 : w1.ownsRow (w.heap.size + 3) 22 1 v' (i + 1) (vs ++ [.slice A2 body.length c2])) (hgr : (W.alloc (.cells #[.slice A2 body.length c2] 22)).grownBy w1 v.ownBlock) :
    Boxed w1 w.heap.size 56 v ∧ Boxed (w1.setCell ⟨w.heap.size, 0, none⟩ v') (w.heap.size + 1) 3 g ∧
    (∀ B₀, KeepsFrom B₀ W ((w1.setCell ⟨w.heap.size, 0, none⟩ v').setCell ⟨w.heap.size + 1, 0, none⟩ (.int .i64 (next : Int)))) ∧
    (((w1.setCell ⟨w.heap.size, 0, none⟩ v').setCell ⟨w.heap.size + 1, 0, none⟩ (.int .i64 (next : Int))).heap[w.heap.size + 2]? = W.heap[w.heap.size + 2]?) ∧
    scanI sc w (i + 1) ((w1.setCell ⟨w.heap.size, 0, none⟩ v').setCell ⟨w.heap.size + 1, 0, none⟩ (.int .i64 (next : Int))) ∧
    Below w.heap.size W ((w1.setCell ⟨w.heap.size, 0, none⟩ v').setCell ⟨w.heap.size + 1, 0, none⟩ (.int .i64 (next : Int))) := by
  have hrow := own_mono hrow3 (show w.heap.size ≤ w.heap.size + 3 by omega)
  have hown' := own_mono hown3 (show w.heap.size ≤ w.heap.size + 3 by omega)
  have hil : vs.length = i := by have := hrow.1; omega
  obtain ⟨b1, b2, b3, b4, b5⟩ := hb.appended (by decide) hrow hB.size (Nat.le_refl _) hown' hgr
  have hgW : Boxed w1 (w.heap.size + 1) 3 g := (hg.alloc _).kept hgr (hg.not_row (by decide) hrow)
  have hgS : Boxed (w1.setCell ⟨w.heap.size, 0, none⟩ v') (w.heap.size + 1) 3 g := hgW.kept (grownBy_setCell' _ _ _) (by simp)
  have k5 : ∀ (b : Nat) (u : Value) (ys : List Value) (k : Nat), W.ownsRow b 5 1 u k ys → ((w1.setCell ⟨w.heap.size, 0, none⟩ v').setCell ⟨w.heap.size + 1, 0, none⟩ (.int .i64 (next : Int))).ownsRow b 5 1 u k ys := by
    intro b u ys k hu
    have h1 : w1.ownsRow b 5 1 u k ys := (hu.alloc _).kept hgr (own_apart hu hrow (by decide))
    have h2 := h1.kept (grownBy_setCell' w1 w.heap.size v') (.inr (b1.not_row (by decide) h1).symm)
    exact h2.kept (grownBy_setCell' _ (w.heap.size + 1) _) (.inr (hgS.not_row (by decide) h2).symm)
  refine ⟨b1, hgS, fun B₀ => ((b4.trans (KeepsOthers.setCell _ _ _)).from B₀), ?_, ⟨⟨v', vs ++ [.slice A2 body.length c2], b2.kept (grownBy_setCell' _ _ _) (by simp), ?_, ?_⟩, ?_, ?_, ?_⟩, b5.setCell (p := ⟨w.heap.size + 1, 0, none⟩) (by simp) _⟩
  · have hlt : w.heap.size + 2 < W.heap.size := by omega
    have e1 : w1.heap[w.heap.size + 2]? = W.heap[w.heap.size + 2]? := (hgr.block _ (by simp; omega) (fun e => by have := own_lt hrow3 _ e.symm; omega)).trans (Below.heap_alloc _ _ _ hlt)
    rw [Below.heap_setCell _ _ _ _ (by simp), Below.heap_setCell _ _ _ _ (by simp), e1]
  · have h3 := hown3.kept (grownBy_setCell' w1 w.heap.size v') (.inr (b1.not_row (by decide) hown3).symm)
    exact h3.kept (grownBy_setCell' _ (w.heap.size + 1) _) (.inr (hgS.not_row (by decide) h3).symm)
  · intro j body' next' hj hs
    by_cases hji : j < i
    · obtain ⟨u, hu, ho⟩ := hold j body' next' hji hs
      exact ⟨u, by rw [List.getElem?_append_left (by omega)]; exact hu, k5 _ _ _ _ ho⟩
    · obtain rfl : j = i := by omega
      rw [hx] at hs
      cases hs
      exact ⟨_, by rw [List.getElem?_append_right (by omega), hil]; simp, own_mono (k5 _ _ _ _ hown) hbase⟩
  · rw [take_last sc i _ hx]
    exact hgS.set _
  · exact (hB.trans b5).setCell (p := ⟨w.heap.size + 1, 0, none⟩) (by simp) _
  · have e1 := b5.size
    have e2 := (KeepsOthers.setCell (w1.setCell ⟨w.heap.size, 0, none⟩ v') ⟨w.heap.size + 1, 0, none⟩ (.int .i64 (next : Int))).size
    omega

set_option maxRecDepth 100000 in
set_option maxHeartbeats 1000000 in
theorem scan_any (A : Option Addr) (n c : Nat) (l : List UInt8) (sc : List (List UInt8 × Nat)) (w : World) (h : RdB w w.heap.size A n c l) (hn : n ≤ 1073741824) (hsc : ScanOK l 0 sc) (hsl : sc.length ≤ 1073741824) :
    Calls Try.prog 30 #[.slice A n c] w (ScanPost sc w) := by
  refine (callsIn_wide (n := 3)).1 ?_
  refine callsIn_of_wp_marks Try.func30 rfl trivial ?_ rfl
  simp only [Try.ntmps30, List.size_toArray, List.length_cons, List.length_nil, Nat.reduceAdd, Nat.reduceSub, Array.replicate_succ, Array.replicate_zero, List.push_toArray, List.append_toArray, List.nil_append, List.cons_append]
  gi_wp2_with (refine ⟨trivial, ?_⟩; gi_at_call 48; refine CallsIn.mono (callsIn_wide.2 (frames_any _ _ _ _)) ?_; rintro e w' ⟨rfl, rfl⟩)
  have hB0 : Below w.heap.size w (((w.alloc (.cells #[.slice none 0 0] 56)).alloc (.cells #[.int .i64 0] 3)).alloc (.cells #[.slice A n c] 22)) :=
    (((Below.refl _ w).alloc (Nat.le_refl _) _).alloc (by simp) _).alloc (by simp; omega) _
  have x1 : Boxed (((w.alloc (.cells #[.slice none 0 0] 56)).alloc (.cells #[.int .i64 0] 3)).alloc (.cells #[.slice A n c] 22)) w.heap.size 56 (.slice none 0 0) := ((Boxed.new w _ _).alloc _).alloc _
  have x2 : Boxed (((w.alloc (.cells #[.slice none 0 0] 56)).alloc (.cells #[.int .i64 0] 3)).alloc (.cells #[.slice A n c] 22)) (w.heap.size + 1) 3 (.int .i64 0) := by
    have := (Boxed.new (w.alloc (.cells #[.slice none 0 0] 56)) 3 (.int .i64 0)).alloc (.cells #[.slice A n c] 22)
    rwa [World.size_alloc] at this
  have x3 : Boxed (((w.alloc (.cells #[.slice none 0 0] 56)).alloc (.cells #[.int .i64 0] 3)).alloc (.cells #[.slice A n c] 22)) (w.heap.size + 2) 22 (.slice A n c) := by
    have := Boxed.new ((w.alloc (.cells #[.slice none 0 0] 56)).alloc (.cells #[.int .i64 0] 3)) 22 (.slice A n c)
    simpa using this
  have x4 : (((w.alloc (.cells #[.slice none 0 0] 56)).alloc (.cells #[.int .i64 0] 3)).alloc (.cells #[.slice A n c] 22)).heap.size = w.heap.size + 3 := by simp
  generalize ((w.alloc (.cells #[.slice none 0 0] 56)).alloc (.cells #[.int .i64 0] 3)).alloc (.cells #[.slice A n c] 22) = W0 at *
  have hh := h.below hB0
  refine wpIn_range (gf := 64) (lb := #[.pointer (some ⟨w.heap.size + 2, 0, none⟩)]) rfl (enters_of Try.func64 (by kernel_rfl) rfl)
    (frames1_iter (w.heap.size + 2) w.heap.size A n c l sc W0 x3 hh (by omega) (by omega) hsc)
    (fun X o => (Below.refl _ X).alloc (Nat.le_refl _) o)
    (fun X Y k o hst _ hk _ => (hst.block k (Array.getElem?_eq_some_iff.1 hk).1).trans hk)
    (fun X o hs => ⟨(Below.refl _ X).alloc (by omega) o, Below.heap_alloc _ _ _ (by omega)⟩)
    (fun X Y Z h1 h2 => ⟨h1.1.trans h2.1, h2.2.trans h1.2⟩)
    (fun X r o o' hr hk _ => ⟨below_put (Below.refl _ _) o' (by omega) hk, World.putObj_heap_other (by omega)⟩)
    (fun i args => frY_put) (fun i args W hy => by obtain ⟨_, _, _, _, _, rfl, _⟩ := hy; rfl)
    (scanI sc w) (fun _ _ _ => False) (fun i X Y hi hb => scanI_below hi hb) (fun i => scanI_put (by omega)) (fun _ _ _ _ hf _ => hf) (fun _ _ _ _ _ _ hf _ _ _ => hf)
    ⟨⟨_, [], x1, World.ownsRow_nil _ _ _ _, fun j _ _ hj => by omega⟩, x2, hB0, by omega⟩
    (fun args => { tmps := #[.slice A n c, undef, .pointer (some ⟨w.heap.size, 0, none⟩), .pointer (some ⟨w.heap.size + 1, 0, none⟩), args.getD 0 undef, args.getD 1 undef, .slice A n c,
        .func (.func 64) #[] #[.pointer (some ⟨w.heap.size + 2, 0, none⟩)], args.getD 0 undef, args.getD 1 undef, undef, undef, undef, undef, undef, undef, undef], defers := [] }) ?assign ?body ?done ?stop
  case assign =>
    rintro l0 i args W K ⟨A2, c2, body, next, _, rfl, _⟩ hK
    gi_wp2
    exact hK
  case body =>
    rintro l0 i args W hi ⟨⟨v, vs, y1, y2, y3⟩, y4, y5, hWs⟩ ⟨A2, c2, body, next, hx, rfl, hown⟩
    have hc1 := y1.cell
    have hf1 := y1.frozen
    have HX4 := Lib.hid x4
    have hsz := y5.size
    clear x4 x1 x2 x3
    gi_wp2_with (gi_at_builtin; refine wpListIn_app (.tmp 10) (.tmp 12) elBs (y2.alloc _) (Rd.one W _ _) (by simp [Value.oneCell']) (by omega) (by omega) (by simp; omega) rfl rfl rfl rfl ?_; intro v' w1 hown1 hg1 hat1; obtain ⟨g', cap', rfl⟩ := ownsRow_succ hown1; obtain ⟨s1, s2, s3, s4, s5, s6⟩ := scan_step y1 y2 y3 y4 y5 hWs hx (by rw [HX4.out]; omega) hown hown1 hg1; have t1 := s1.cell; have t2 := s1.frozen; have t3 := s2.cell; have t4 := s2.frozen)
    exact ⟨s3 _, ⟨s6, s4⟩, s5⟩
  case done =>
    rintro W ⟨⟨v, vs, y1, y2, y3⟩, y4, y5, hWs⟩ hK
    rw [List.take_length] at y4
    obtain ⟨Av, cv, rfl, hrv⟩ := own_rd y2
    have c1 := y1.cell
    have c2 := y1.frozen
    have c3 := y4.cell
    have c4 := y4.frozen
    gi_wp2
    gi_region
    have e1 : (W.setCell ⟨w.heap.size, 0, none⟩ (.slice Av sc.length cv)) = W := setCell_same y1
    have e2 := setCell_same y4
    rw [e1, e2]
    have HX := Lib.hid x4
    clear x4 x1 x2 x3 e1 e2
    gi_wp2
    refine ⟨by simp, .inl ⟨_, _, rfl, run_takeDeferred (w := W.drew) hK, ?_⟩⟩
    have z1 : Boxed (W.drew.putObj W0.heap.size (.deferred none)) w.heap.size 56 (.slice Av sc.length cv) := boxed_put (W := W.drew) y1 _ hK rfl
    have z2 : Boxed (W.drew.putObj W0.heap.size (.deferred none)) (w.heap.size + 1) 3 _ := boxed_put (W := W.drew) y4 _ hK rfl
    have z3 := z1.cell
    have z4 := z2.cell
    refine ⟨_, ?_, ⟨.slice Av sc.length cv, vs, rfl, own_mono (ownsRow_putObj (W := W.drew) y2 _ hK rfl) (by omega), fun i body next hi => ?_, below_put (W := W.drew) y5.drew _ (by rw [HX.out]; omega) hK⟩⟩
    · simp [results, Try.results30, go_sem, z3, z4]
    · have hil : i < sc.length := (List.getElem?_eq_some_iff.1 hi).1
      obtain ⟨u, hu, ho⟩ := y3 i body next hil hi
      exact ⟨u, hu, ownsRow_putObj (W := W.drew) ho _ hK rfl⟩
  case stop =>
    rintro c0 i W _ hf _
    exact hf.elim
end Go.Proofs.Ytfacdoemgalodaa
