/-
  The walks of written and numbered.
-/
import Derived.Test.YtfacdoemgalodaaFewW
import Derived.Test.YtfacdoemgalodaaAppW
import Derived.Test.YtfacdoemgalodaaJLaws
namespace Go.Proofs.Ytfacdoemgalodaa
open Go.RowKit
set_option linter.unusedVariables false
set_option linter.unusedSimpArgs false

namespace Jn
open Vi
def setNo (i : Nat) (v : Ver) : Ver := ⟨(i : Int) + 1, v.week, v.cost, v.best⟩
def num (vs : List Ver) : List Ver := vs.mapIdx setNo
theorem num_len (vs : List Ver) : (num vs).length = vs.length := List.length_mapIdx
theorem num_at {vs : List Ver} {i : Nat} (h : i < (num vs).length) : (num vs)[i] = setNo i (vs[i]'(by rw [num_len] at h; exact h)) := List.getElem_mapIdx ..
theorem num_take {vs : List Ver} {i : Nat} (h : i < vs.length) : (num vs).take (i + 1) = (num vs).take i ++ [setNo i vs[i]] := by
  have hl : i < (num vs).length := by rw [num_len]; exact h
  rw [List.take_add_one, List.getElem?_eq_getElem hl, num_at]; rfl
theorem num_good {vs : List Ver} (hf : ∀ v ∈ vs, fit v) (hp : ∀ v ∈ vs, okPs v.week) (hn : vs.length ≤ 10) : Good 1 (num vs) := by
  refine ⟨fun v hv => ?_, fun i h => ?_⟩
  · obtain ⟨i, hi, rfl⟩ := List.getElem_of_mem hv
    rw [num_at]
    have hi' : i < vs.length := by rw [num_len] at hi; exact hi
    have hm := List.getElem_mem hi'
    have h1 := hf _ hm
    refine ⟨?_, hp vs[i] hm⟩
    unfold may setNo
    rw [mayB_iff]
    unfold fit at h1
    dsimp only
    omega
  · rw [num_at]
    show (i : Int) + 1 = _
    omega
theorem enc_le : ∀ {vs : List Ver}, (∀ v ∈ vs, okV v) → (encB vs).length ≤ 1408 * vs.length
  | [], _ => by simp [encB_nil]
  | v :: r, h => by
    have e : encB (v :: r) = frameB (recB v) ++ encB r := by unfold encB framesB; simp
    have h1 := recB_len (h v (by simp))
    have h2 := enc_le (vs := r) (fun u hu => h u (by simp [hu]))
    rw [e, List.length_append, frameB_length, List.length_cons]
    omega
theorem sync_of {a b : List Ver} (h : Good 1 (a ++ b)) (hl : (a ++ b).length ≤ 10) : syncD (encB a) (encB b) = (encB (a ++ b), [], 0) := by
  have h1 := enc_le h.1
  rw [encB_app, List.length_append] at h1
  unfold syncD
  rw [readD_of h (by omega), encB_app]
  rfl
theorem append_of {a b : List Ver} {v : Ver} (h : Good 1 (a ++ (b ++ [v]))) (hl : (a ++ (b ++ [v])).length ≤ 10) : appendD (encB a) (encB b) v = (encB a, encB (b ++ [v]), 0) := by
  have h1 := enc_le h.1
  rw [encB_app, encB_app, List.length_append, List.length_append] at h1
  have h2 := h
  rw [← List.append_assoc, good_app] at h2
  obtain ⟨h2, h3⟩ := h2
  obtain ⟨hok, hno, _⟩ := good_cons.1 h3
  have ev : encB [v] = frameB (recB v) := by unfold encB framesB; simp
  have e8 : (encB [v]).length = 8 + (recB v).length := by rw [ev, frameB_length]
  unfold appendD
  rw [readD_of h2 (by omega)]
  dsimp only
  rw [if_neg (by simp), if_neg, if_neg (by omega), encB_app, ev]
  intro hh
  refine hh ⟨hok.1, ?_⟩
  rw [hno, List.length_append]
  congr 1
  omega
theorem good_pre {a b : List Ver} {k : Nat} (h : Good k (a ++ b)) : Good k a := (good_app.1 h).1
/-- How the disk stands at round i: synced at round k. -/
def At (vs : List Ver) (k i : Nat) (x y : List Ver) : Prop := x ++ y = (num vs).take i ∧ x.length = if k < i then k else 0
theorem At.good {vs x y : List Ver} {k i : Nat} (h : At vs k i x y) (hg : Good 1 (num vs)) : Good 1 (x ++ y) := by rw [h.1]; exact good_take hg i
theorem At.len {vs x y : List Ver} {k i : Nat} (h : At vs k i x y) (hn : vs.length ≤ 10) : (x ++ y).length ≤ 10 := by
  rw [h.1, List.length_take, num_len]; omega
theorem At.zero (vs : List Ver) (k : Nat) : At vs k 0 [] [] := ⟨by simp, by simp⟩
theorem At.next {vs x y : List Ver} {k i : Nat} (h : At vs k i x y) (hi : i < vs.length) (hk : i ≠ k) : At vs k (i + 1) x (y ++ [setNo i vs[i]]) := by
  refine ⟨by rw [← List.append_assoc, h.1, num_take hi], ?_⟩
  rw [h.2]
  split <;> split <;> omega
theorem At.sync {vs x y : List Ver} {k : Nat} (h : At vs k k x y) (hi : k < vs.length) : At vs k (k + 1) (x ++ y) ([] ++ [setNo k vs[k]]) := by
  refine ⟨by rw [h.1, num_take hi]; rfl, ?_⟩
  rw [h.1, List.length_take, num_len, if_pos (by omega)]
  omega
theorem At.done {vs x y : List Ver} {k : Nat} (h : At vs k vs.length x y) (hk : k < vs.length) : x = (num vs).take k ∧ y = (num vs).drop k := by
  obtain ⟨h1, h2⟩ := h
  rw [if_pos hk] at h2
  rw [List.take_of_length_le (by rw [num_len]; omega)] at h1
  rw [← h1, ← h2]
  exact ⟨by rw [List.take_left], by rw [List.drop_left]⟩
theorem At.all {vs x y : List Ver} (h : At vs vs.length vs.length x y) : x ++ y = num vs := by
  rw [h.1, List.take_of_length_le (by rw [num_len]; omega)]
end Jn

theorem RdV.weeks {w : World} {B : Nat} {A : Option Addr} {n c : Nat} {vs : List Ver} (h : RdV w B A n c vs) : ∀ v ∈ vs, okPs v.week := by
  intro v hv
  have hl := h.len
  obtain ⟨i, hi, rfl⟩ := List.getElem_of_mem hv
  obtain ⟨_, _, _, _, _, _, _, _, _, hp, _⟩ := h.at_ (i := i) (by omega) hi
  exact hp.2

/-- A disk in new memory: what was written. -/
def WrPost (x y : List Ver) (w : World) (e : Ending) (w' : World) : Prop :=
  ∃ v1 v2, e = .returned (.tuple #[.agg #[v1, v2], .bool true]) ∧ w'.ownsRow w.heap.size 5 1 v1 (Jn.encB x).length (bv (Jn.encB x)) ∧ w'.ownsRow w.heap.size 5 1 v2 (Jn.encB y).length (bv (Jn.encB y)) ∧ Below w.heap.size w w'

set_option maxRecDepth 100000 in
set_option maxHeartbeats 4000000 in
theorem written_any (A : Option Addr) (n c : Nat) (vs : List Ver) (k : Nat) (w : World) (h : RdV w w.heap.size A n c vs) (hn : n ≤ 10) (hk : k ≤ n) (hfit : ∀ v ∈ vs, Jn.fit v) :
    Calls Try.prog 26 #[.slice A n c, .int .i64 k] w (WrPost ((Jn.num vs).take k) ((Jn.num vs).drop k) w) := by
  have h1 := h.max
  have h2 := h.le
  have hlen := h.len
  have hbt := Below.refl w.heap.size w
  have HG : Hid (Jn.Good 1 (Jn.num vs)) := Jn.num_good hfit (fun v hv => h.weeks v hv) (by omega)
  have HL := Lib.hid hlen
  clear hlen hfit
  obtain ⟨V1, hV⟩ : ∃ V1, V1 = w.alloc (.cells #[.slice none 0 0, .slice none 0 0] 24) := ⟨_, rfl⟩
  have b4 := blk_new hV
  have hb := below_new hV
  replace hbt := hbt.trans (hb.mono hbt.size)
  clear hb
  have HSV1 : Hid (V1.heap.size = w.heap.size + 1) := by show V1.heap.size = _; rw [hV, World.size_alloc]
  have HVV1 := Lib.hid hV.symm
  clear hV
  obtain ⟨V2, hV⟩ : ∃ V2, V2 = V1.alloc (.cells #[.slice none 0 0, .slice none 0 0] 24) := ⟨_, rfl⟩
  have b6 := blk_new hV
  have hb := below_new hV
  replace b4 := blk_below b4 hb
  replace hbt := hbt.trans (hb.mono hbt.size)
  clear hb
  have HSV2 : Hid (V2.heap.size = V1.heap.size + 1) := by show V2.heap.size = _; rw [hV, World.size_alloc]
  have HVV2 := Lib.hid hV.symm
  clear hV
  rw [HSV1.out] at b6
  rw [← HVV1.out] at HVV2
  go_enter Try.func26, Try.ntmps26
  go_wp2_with fail
  rw [HVV2.out]
  clear HVV2 HVV1 HSV1 HSV2
  go_loopw [17] (fun iv wr => ∃ (i : Nat) (x y : List Ver) (A1 B1 : Option Addr) (c1 d1 : Nat), i ≤ n ∧ iv = .int .i64 i ∧ Jn.At vs k i x y ∧ wr.ownsRow w.heap.size 5 1 (.slice A1 (Jn.encB x).length c1) (Jn.encB x).length (bv (Jn.encB x)) ∧ wr.ownsRow w.heap.size 5 1 (.slice B1 (Jn.encB y).length d1) (Jn.encB y).length (bv (Jn.encB y)) ∧
    wr.heap[w.heap.size]? = some (.cells #[.slice none 0 0, .slice none 0 0] 24) ∧ wr.heap[w.heap.size + 1]? = some (.cells #[.slice A1 (Jn.encB x).length c1, .slice B1 (Jn.encB y).length d1] 24) ∧ Below w.heap.size w wr) (fun i _ => n - (intOf i).toNat)
  case atStart => exact ⟨0, [], [], none, none, 0, 0, by omega, rfl, Jn.At.zero _ _, World.ownsRow_nil _ _ _ _, World.ownsRow_nil _ _ _ _, b4, b6, hbt⟩
  case round =>
    clear b4 b6 hbt
    obtain ⟨i, x, y, A1, B1, c1, d1, hi, rfl, hat, o1, o2, b4, b6, hbt⟩ := hrel
    have hgd := hat.good HG.out
    have hxl := hat.len (by rw [HL.out]; exact hn)
    have hex := Jn.enc_le hgd.1
    rw [Jn.encB_app, List.length_append] at hex
    have HSY := Lib.hid (Jn.sync_of hgd hxl)
    have HAT := Lib.hid hat
    clear hat hgd
    obtain ⟨lx, hlx⟩ : ∃ lx, (Jn.encB x).length = lx := ⟨_, rfl⟩
    obtain ⟨ly, hly⟩ : ∃ ly, (Jn.encB y).length = ly := ⟨_, rfl⟩
    rw [hlx] at o1 b6 hex
    rw [hly] at o2 b6 hex
    have HLX := Lib.hid hlx
    have HLY := Lib.hid hly
    clear hlx hly
    obtain ⟨_, _, e', q1⟩ := own_rdB o1
    injection e' with e1 _ e3
    subst e1 e3
    obtain ⟨_, _, e', q2⟩ := own_rdB o2
    injection e' with e1 _ e3
    subst e1 e3
    have m1 := q1.max
    have m2 := q1.le
    have m3 := q2.max
    have m4 := q2.le
    have hlx : lx ≤ 14080 ∧ ly ≤ 14080 := by omega
    by_cases hin : i < n
    · have d2 : decide ((i : Int) < (n : Int)) = true := by simp; omega
      have hil : i < vs.length := by rw [HL.out]; exact hin
      obtain ⟨ad, E, ce, rfl, _, x0, x1, x2, x3, hp, hv1, hv2⟩ := (h.below hbt).at_ hin hil
      have HNX := Lib.hid (fun hne => HAT.out.next hil hne)
      have HSN : Hid (i = k → Jn.At vs k (i + 1) (x ++ y) ([] ++ [Jn.setNo i vs[i]])) := fun e => by subst e; exact HAT.out.sync hil
      obtain ⟨v, hv⟩ : ∃ v, vs[i] = v := ⟨_, rfl⟩
      rw [hv] at x0 x1 x2 x3 hp hv1 hv2 HNX HSN
      clear hv
      have b6w := b6
      by_cases hik : i = k
      · have d3 : ((i : Int) == (k : Int)) = true := by simp; omega
        have HIK := Lib.hid hik
        clear hik
        have hp1 := hp
        clear o1 o2
        have hbw := Below.refl wr.heap.size wr
        obtain ⟨V3, hV⟩ : ∃ V3, V3 = wr.alloc (.cells #[.int .i64 v.no, .slice E v.week.length ce, .int .i64 v.cost, .bool v.best] 42) := ⟨_, rfl⟩
        have b8 := blk_new hV
        have hb := below_new hV
        replace b4 := blk_below b4 hb
        replace b6 := blk_below b6 hb
        replace q1 := (q1.below hb).more hb.size
        replace q2 := (q2.below hb).more hb.size
        replace hbw := hbw.trans (hb.mono hbw.size)
        replace hbt := hbt.trans (hb.mono hbt.size)
        clear hb
        have HSV3 : Hid (V3.heap.size = wr.heap.size + 1) := by show V3.heap.size = _; rw [hV, World.size_alloc]
        have HVV3 := Lib.hid hV.symm
        clear hV
        have cl0 := blk_cell (j := 0) b6
        simp only [List.getElem?_toArray, List.getElem?_cons_zero, List.getElem?_cons_succ] at cl0
        have cl1 := blk_cell (j := 1) b6
        simp only [List.getElem?_toArray, List.getElem?_cons_zero, List.getElem?_cons_succ] at cl1
        rw [← HVV3.out] at cl0 cl1
        go_wp2_with fail
        rw [HVV3.out]
        clear HVV3 HSV3 cl0 cl1 x0 x1 x2 x3
        refine (jSync_any A1 lx c1 (Jn.encB x) B1 ly d1 (Jn.encB y) V3 q1 q2 (by omega) (by omega)).mono ?_
        rintro e w4 ⟨v3, v4, rfl, o3, o4, hb⟩
        rw [HSY.out] at o3 o4 ⊢
        dsimp only at o3 o4 ⊢
        replace o3 := own_mono o3 hbt.size
        replace o4 := own_mono o4 hbt.size
        clear q1 q2
        replace b4 := blk_below b4 hb
        replace b6 := blk_below b6 hb
        replace hbw := hbw.trans (hb.mono hbw.size)
        replace b8 := blk_below b8 hb
        replace hbt := hbt.trans (hb.mono hbt.size)
        clear hb
        obtain ⟨l3, hl3⟩ : ∃ l, (Jn.encB (x ++ y)).length = l := ⟨_, rfl⟩
        have hl3' : l3 ≤ lx + ly := by rw [← hl3, Jn.encB_app, List.length_append, HLX.out, HLY.out]; omega
        rw [hl3] at o3
        clear hl3
        obtain ⟨A3, c3, rfl, q3⟩ := own_rdB o3
        obtain ⟨B3, d3', rfl, q4⟩ := own_rdB (n := 0) (l := []) o4
        have m5 := q3.max
        have m6 := q3.le
        have m7 := q4.max
        have m8 := q4.le
        clear q3 q4
        obtain ⟨V4, hV⟩ : ∃ V4, V4 = w4.alloc (.cells #[.slice A3 l3 c3, .slice B3 0 d3'] 24) := ⟨_, rfl⟩
        have b9 := blk_new hV
        have hb := below_new hV
        replace b4 := blk_below b4 hb
        replace b6 := blk_below b6 hb
        replace hbw := hbw.trans (hb.mono hbw.size)
        replace b8 := blk_below b8 hb
        replace o3 := own_below o3 hb
        replace o4 := own_below o4 hb
        replace hbt := hbt.trans (hb.mono hbt.size)
        clear hb
        have HSV4 : Hid (V4.heap.size = w4.heap.size + 1) := by show V4.heap.size = _; rw [hV, World.size_alloc]
        have HVV4 := Lib.hid hV.symm
        clear hV
        have n3 := own_blk_ne o3 b6 (by decide)
        have n4 := own_blk_ne o4 b6 (by decide)
        have n5 := own_blk_ne o3 b8 (by decide)
        have n6 := own_blk_ne o4 b8 (by decide)
        have hne8 : wr.heap.size ≠ w.heap.size + 1 := by have := blk_lt b6w; omega
        have z6 := blk_set (k := 1) (.slice B3 0 d3') (blk_set (k := 0) (.slice A3 l3 c3) b6)
        simp only [List.setIfInBounds_toArray, List.set_cons_zero, List.set_cons_succ] at z6
        have z8 := blk_other (p := ⟨w.heap.size + 1, 1, none⟩) (.slice B3 0 d3') (blk_other (p := ⟨w.heap.size + 1, 0, none⟩) (.slice A3 l3 c3) b8 (by simpa using hne8.symm)) (by simpa using hne8.symm)
        have e0 := blk_cell (j := 0) b9
        simp only [List.getElem?_toArray, List.getElem?_cons_zero, List.getElem?_cons_succ] at e0
        have e1 := blk_cell (j := 1) b9
        simp only [List.getElem?_toArray, List.getElem?_cons_zero, List.getElem?_cons_succ] at e1
        have cl0 := blk_cell (j := 0) b6
        simp only [List.getElem?_toArray, List.getElem?_cons_zero, List.getElem?_cons_succ] at cl0
        have clf0 := blk_frozen 0 b6
        have cl1 := blk_cell (j := 1) b6
        simp only [List.getElem?_toArray, List.getElem?_cons_zero, List.getElem?_cons_succ] at cl1
        have clf1 := blk_frozen 1 b6
        have g0 := blk_frozen 0 z8
        have gg0 := blk_cell (j := 0) b8
        simp only [List.getElem?_toArray, List.getElem?_cons_zero, List.getElem?_cons_succ] at gg0
        have y6 := blk_other (p := ⟨wr.heap.size, 0, none⟩) (.int .i64 ((i : Int) + 1)) z6 (by simpa using hne8)
        have y8 := blk_set (k := 0) (.int .i64 ((i : Int) + 1)) z8
        simp only [List.setIfInBounds_toArray, List.set_cons_zero, List.set_cons_succ] at y8
        have f0 := blk_cell (j := 0) y6
        simp only [List.getElem?_toArray, List.getElem?_cons_zero, List.getElem?_cons_succ] at f0
        have f1 := blk_cell (j := 1) y6
        simp only [List.getElem?_toArray, List.getElem?_cons_zero, List.getElem?_cons_succ] at f1
        have j0 := blk_cell (j := 0) y8
        simp only [List.getElem?_toArray, List.getElem?_cons_zero, List.getElem?_cons_succ] at j0
        have j1 := blk_cell (j := 1) y8
        simp only [List.getElem?_toArray, List.getElem?_cons_zero, List.getElem?_cons_succ] at j1
        have j2 := blk_cell (j := 2) y8
        simp only [List.getElem?_toArray, List.getElem?_cons_zero, List.getElem?_cons_succ] at j2
        have j3 := blk_cell (j := 3) y8
        simp only [List.getElem?_toArray, List.getElem?_cons_zero, List.getElem?_cons_succ] at j3
        rw [← HVV4.out] at e0 e1 cl0 cl1 clf0 clf1 g0 gg0 f0 f1 j0 j1 j2 j3
        go_wp2_with fail
        rw [HVV4.out]
        clear HVV4 HSV4 e0 e1 cl0 cl1 clf0 clf1 g0 gg0 f0 f1 j0 j1 j2 j3
        have y4 := blk_other (p := ⟨wr.heap.size, 0, none⟩) (.int .i64 ((i : Int) + 1)) (blk_other (p := ⟨w.heap.size + 1, 1, none⟩) (.slice B3 0 d3') (blk_other (p := ⟨w.heap.size + 1, 0, none⟩) (.slice A3 l3 c3) b4 (by simp)) (by simp)) (by have := blk_lt b6w; simp; omega)
        have hwr : w.heap.size ≤ wr.heap.size := by have := blk_lt b6w; omega
        have p3 := own_set (p := ⟨wr.heap.size, 0, none⟩) (u := .int .i64 ((i : Int) + 1)) (own_set (p := ⟨w.heap.size + 1, 1, none⟩) (u := .slice B3 0 d3') (own_set (p := ⟨w.heap.size + 1, 0, none⟩) (u := .slice A3 l3 c3) o3 n3) n3) n5
        have p4 := own_set (p := ⟨wr.heap.size, 0, none⟩) (u := .int .i64 ((i : Int) + 1)) (own_set (p := ⟨w.heap.size + 1, 1, none⟩) (u := .slice B3 0 d3') (own_set (p := ⟨w.heap.size + 1, 0, none⟩) (u := .slice A3 l3 c3) o4 n4) n4) n6
        have hbt := ((hbt.setCell (p := ⟨w.heap.size + 1, 0, none⟩) (by simp) (.slice A3 l3 c3)).setCell (p := ⟨w.heap.size + 1, 1, none⟩) (by simp) (.slice B3 0 d3')).setCell (p := ⟨wr.heap.size, 0, none⟩) (by simpa using hwr) (.int .i64 ((i : Int) + 1))
        have hbw := (((hbw.mono hwr).setCell (p := ⟨w.heap.size + 1, 0, none⟩) (by simp) (.slice A3 l3 c3)).setCell (p := ⟨w.heap.size + 1, 1, none⟩) (by simp) (.slice B3 0 d3')).setCell (p := ⟨wr.heap.size, 0, none⟩) (by simpa using hwr) (.int .i64 ((i : Int) + 1))
        generalize ((V4.setCell ⟨w.heap.size + 1, 0, none⟩ (.slice A3 l3 c3)).setCell ⟨w.heap.size + 1, 1, none⟩ (.slice B3 0 d3')).setCell ⟨wr.heap.size, 0, none⟩ (.int .i64 ((i : Int) + 1)) = W6 at *
        clear b4 b6 b8 o3 o4 z6 z8 b9
        have b4 := y4
        have b6 := y6
        have hp := hp1.below hbw
        clear y4 y6 hp1
        obtain ⟨_, _, e', q3⟩ := own_rdB p3
        injection e' with e1 _ e3
        subst e1 e3
        obtain ⟨_, _, e', q4⟩ := own_rdB (n := 0) (l := []) p4
        injection e' with e1 _ e3
        subst e1 e3
        clear p3 p4
        have HNA := Lib.hid (HSN.out HIK.out)
        have hgd := HNA.out.good HG.out
        have hal := HNA.out.len (by rw [HL.out]; exact hn)
        have HAP := Lib.hid (Jn.append_of hgd hal)
        have hz := Jn.enc_le hgd.1
        rw [Jn.encB_app, List.length_append] at hz
        clear hgd
        refine (jAppend_any A3 l3 c3 (Jn.encB (x ++ y)) B3 0 d3' (Jn.encB []) (Jn.setNo i v) E ce W6 q3 q4 (by omega) (by omega) (hp.more hbt.size) (by unfold okI; show _ ≤ (i : Int) + 1 ∧ (i : Int) + 1 ≤ _; omega) hv2).mono ?_
        rintro e w7 ⟨v5, v6, rfl, o5, o6, hb⟩
        rw [HAP.out] at o5 o6 ⊢
        dsimp only at o5 o6 ⊢
        replace o5 := own_mono o5 hbt.size
        replace o6 := own_mono o6 hbt.size
        clear q3 q4 hp
        replace b4 := blk_below b4 hb
        replace b6 := blk_below b6 hb
        replace hbt := hbt.trans (hb.mono hbt.size)
        clear hb
        obtain ⟨l5, hl5⟩ : ∃ l, (Jn.encB (x ++ y)).length = l := ⟨_, rfl⟩
        obtain ⟨l6, hl6⟩ : ∃ l, (Jn.encB ([] ++ [Jn.setNo i v])).length = l := ⟨_, rfl⟩
        rw [hl5] at o5 hz
        rw [hl6] at o6 hz
        have HL5 := Lib.hid hl5
        have HL6 := Lib.hid hl6
        clear hl5 hl6
        obtain ⟨A5, c5, rfl, _⟩ := own_rdB o5
        obtain ⟨B5, d5, rfl, _⟩ := own_rdB o6
        obtain ⟨V8, hV⟩ : ∃ V8, V8 = w7.alloc (.cells #[.slice A5 l5 c5, .slice B5 l6 d5] 24) := ⟨_, rfl⟩
        have b9 := blk_new hV
        have hb := below_new hV
        replace b4 := blk_below b4 hb
        replace b6 := blk_below b6 hb
        replace o5 := own_below o5 hb
        replace o6 := own_below o6 hb
        replace hbt := hbt.trans (hb.mono hbt.size)
        clear hb
        have HSV8 : Hid (V8.heap.size = w7.heap.size + 1) := by show V8.heap.size = _; rw [hV, World.size_alloc]
        have HVV8 := Lib.hid hV.symm
        clear hV
        have e0 := blk_cell (j := 0) b9
        simp only [List.getElem?_toArray, List.getElem?_cons_zero, List.getElem?_cons_succ] at e0
        have e1 := blk_cell (j := 1) b9
        simp only [List.getElem?_toArray, List.getElem?_cons_zero, List.getElem?_cons_succ] at e1
        have cl0 := blk_cell (j := 0) b6
        simp only [List.getElem?_toArray, List.getElem?_cons_zero, List.getElem?_cons_succ] at cl0
        have clf0 := blk_frozen 0 b6
        have cl1 := blk_cell (j := 1) b6
        simp only [List.getElem?_toArray, List.getElem?_cons_zero, List.getElem?_cons_succ] at cl1
        have clf1 := blk_frozen 1 b6
        rw [← HVV8.out] at e0 e1 cl0 cl1 clf0 clf1
        go_wp2_with fail
        rw [HVV8.out]
        clear HVV8 HSV8 e0 e1 cl0 cl1 clf0 clf1
        have y6 := blk_set (k := 1) (.slice B5 l6 d5) (blk_set (k := 0) (.slice A5 l5 c5) b6)
        simp only [List.setIfInBounds_toArray, List.set_cons_zero, List.set_cons_succ] at y6
        have y4 := blk_other (p := ⟨w.heap.size + 1, 1, none⟩) (.slice B5 l6 d5) (blk_other (p := ⟨w.heap.size + 1, 0, none⟩) (.slice A5 l5 c5) b4 (by simp)) (by simp)
        have n5 := own_blk_ne o5 b6 (by decide)
        have n6 := own_blk_ne o6 b6 (by decide)
        go_roundw
        case rel =>
          refine ⟨i + 1, (x ++ y), [] ++ [Jn.setNo i v], A5, B5, c5, d5, by omega, by go_num, HNA.out, ?_, ?_, y4, ?_, (hbt.setCell (p := ⟨w.heap.size + 1, 0, none⟩) (by simp) _).setCell (p := ⟨w.heap.size + 1, 1, none⟩) (by simp) _⟩
          · rw [HL5.out]; exact own_set (own_set o5 n5) n5
          · rw [HL6.out]; exact own_set (own_set o6 n6) n6
          · rw [HL5.out, HL6.out]; exact y6
        case measure => simp [intOf]; omega
      · have d3 : ((i : Int) == (k : Int)) = false := by simp; omega
        obtain ⟨W6, hV⟩ : ∃ W6, W6 = wr.alloc (.cells #[.int .i64 ((i : Int) + 1), .slice E v.week.length ce, .int .i64 v.cost, .bool v.best] 42) := ⟨_, rfl⟩
        have y8 := blk_new hV
        have hb := below_new hV
        have HV3 := Lib.hid hV.symm
        clear hV
        have y6 := blk_below b6 hb
        have f0 := blk_cell (j := 0) y6
        simp only [List.getElem?_toArray, List.getElem?_cons_zero, List.getElem?_cons_succ] at f0
        have f1 := blk_cell (j := 1) y6
        simp only [List.getElem?_toArray, List.getElem?_cons_zero, List.getElem?_cons_succ] at f1
        have j0 := blk_cell (j := 0) y8
        simp only [List.getElem?_toArray, List.getElem?_cons_zero, List.getElem?_cons_succ] at j0
        have j1 := blk_cell (j := 1) y8
        simp only [List.getElem?_toArray, List.getElem?_cons_zero, List.getElem?_cons_succ] at j1
        have j2 := blk_cell (j := 2) y8
        simp only [List.getElem?_toArray, List.getElem?_cons_zero, List.getElem?_cons_succ] at j2
        have j3 := blk_cell (j := 3) y8
        simp only [List.getElem?_toArray, List.getElem?_cons_zero, List.getElem?_cons_succ] at j3
        rw [← HV3.out] at f0 f1 j0 j1 j2 j3
        go_wp2_with fail
        rw [HV3.out]
        clear HV3 f0 f1 j0 j1 j2 j3 x0 x1 x2 x3 y8 y6
        replace hp := hp.below (hb.mono hbt.size)
        replace b4 := blk_below b4 hb
        replace b6 := blk_below b6 hb
        replace o1 := own_below o1 hb
        replace o2 := own_below o2 hb
        replace q1 := (q1.below hb).more hb.size
        replace q2 := (q2.below hb).more hb.size
        replace hbt := hbt.trans (hb.mono hbt.size)
        clear hb
        have q3 := q1
        have q4 := q2
        clear q1 q2 o1 o2
        have HNA := Lib.hid (HNX.out hik)
        have hgd := HNA.out.good HG.out
        have hal := HNA.out.len (by rw [HL.out]; exact hn)
        have HAP := Lib.hid (Jn.append_of hgd hal)
        have hz := Jn.enc_le hgd.1
        rw [Jn.encB_app, List.length_append] at hz
        clear hgd
        refine (jAppend_any A1 lx c1 (Jn.encB x) B1 ly d1 (Jn.encB y) (Jn.setNo i v) E ce W6 q3 q4 (by omega) (by omega) (hp.more hbt.size) (by unfold okI; show _ ≤ (i : Int) + 1 ∧ (i : Int) + 1 ≤ _; omega) hv2).mono ?_
        rintro e w7 ⟨v5, v6, rfl, o5, o6, hb⟩
        rw [HAP.out] at o5 o6 ⊢
        dsimp only at o5 o6 ⊢
        replace o5 := own_mono o5 hbt.size
        replace o6 := own_mono o6 hbt.size
        clear q3 q4 hp
        replace b4 := blk_below b4 hb
        replace b6 := blk_below b6 hb
        replace hbt := hbt.trans (hb.mono hbt.size)
        clear hb
        obtain ⟨l5, hl5⟩ : ∃ l, (Jn.encB x).length = l := ⟨_, rfl⟩
        obtain ⟨l6, hl6⟩ : ∃ l, (Jn.encB (y ++ [Jn.setNo i v])).length = l := ⟨_, rfl⟩
        rw [hl5] at o5 hz
        rw [hl6] at o6 hz
        have HL5 := Lib.hid hl5
        have HL6 := Lib.hid hl6
        clear hl5 hl6
        obtain ⟨A5, c5, rfl, _⟩ := own_rdB o5
        obtain ⟨B5, d5, rfl, _⟩ := own_rdB o6
        obtain ⟨V8, hV⟩ : ∃ V8, V8 = w7.alloc (.cells #[.slice A5 l5 c5, .slice B5 l6 d5] 24) := ⟨_, rfl⟩
        have b9 := blk_new hV
        have hb := below_new hV
        replace b4 := blk_below b4 hb
        replace b6 := blk_below b6 hb
        replace o5 := own_below o5 hb
        replace o6 := own_below o6 hb
        replace hbt := hbt.trans (hb.mono hbt.size)
        clear hb
        have HSV8 : Hid (V8.heap.size = w7.heap.size + 1) := by show V8.heap.size = _; rw [hV, World.size_alloc]
        have HVV8 := Lib.hid hV.symm
        clear hV
        have e0 := blk_cell (j := 0) b9
        simp only [List.getElem?_toArray, List.getElem?_cons_zero, List.getElem?_cons_succ] at e0
        have e1 := blk_cell (j := 1) b9
        simp only [List.getElem?_toArray, List.getElem?_cons_zero, List.getElem?_cons_succ] at e1
        have cl0 := blk_cell (j := 0) b6
        simp only [List.getElem?_toArray, List.getElem?_cons_zero, List.getElem?_cons_succ] at cl0
        have clf0 := blk_frozen 0 b6
        have cl1 := blk_cell (j := 1) b6
        simp only [List.getElem?_toArray, List.getElem?_cons_zero, List.getElem?_cons_succ] at cl1
        have clf1 := blk_frozen 1 b6
        rw [← HVV8.out] at e0 e1 cl0 cl1 clf0 clf1
        go_wp2_with fail
        rw [HVV8.out]
        clear HVV8 HSV8 e0 e1 cl0 cl1 clf0 clf1
        have y6 := blk_set (k := 1) (.slice B5 l6 d5) (blk_set (k := 0) (.slice A5 l5 c5) b6)
        simp only [List.setIfInBounds_toArray, List.set_cons_zero, List.set_cons_succ] at y6
        have y4 := blk_other (p := ⟨w.heap.size + 1, 1, none⟩) (.slice B5 l6 d5) (blk_other (p := ⟨w.heap.size + 1, 0, none⟩) (.slice A5 l5 c5) b4 (by simp)) (by simp)
        have n5 := own_blk_ne o5 b6 (by decide)
        have n6 := own_blk_ne o6 b6 (by decide)
        go_roundw
        case rel =>
          refine ⟨i + 1, x, y ++ [Jn.setNo i v], A5, B5, c5, d5, by omega, by go_num, HNA.out, ?_, ?_, y4, ?_, (hbt.setCell (p := ⟨w.heap.size + 1, 0, none⟩) (by simp) _).setCell (p := ⟨w.heap.size + 1, 1, none⟩) (by simp) _⟩
          · rw [HL5.out]; exact own_set (own_set o5 n5) n5
          · rw [HL6.out]; exact own_set (own_set o6 n6) n6
          · rw [HL5.out, HL6.out]; exact y6
        case measure => simp [intOf]; omega
    · have d2 : decide ((i : Int) < (n : Int)) = false := by simp; omega
      have hin' : i = n := by omega
      have HAT2 : Hid (Jn.At vs k vs.length x y) := by show Jn.At vs k vs.length x y; rw [HL.out, ← hin']; exact HAT.out
      clear hin'
      by_cases hkn : k = n
      · have d3 : ((k : Int) == (n : Int)) = true := by simp; omega
        have HAL : Hid (x ++ y = Jn.num vs) := by have := HAT2.out; rw [hkn, ← HL.out] at this; exact this.all
        have HTK : Hid ((Jn.num vs).take k = x ++ y) := by show _ = _; rw [HAL.out, List.take_of_length_le (by rw [Jn.num_len, HL.out]; omega)]
        have HDK : Hid ((Jn.num vs).drop k = []) := by show _ = _; rw [List.drop_of_length_le (by rw [Jn.num_len, HL.out]; omega)]
        have HKN := Lib.hid hkn
        clear hkn
        have cl0 := blk_cell (j := 0) b6
        simp only [List.getElem?_toArray, List.getElem?_cons_zero, List.getElem?_cons_succ] at cl0
        have cl1 := blk_cell (j := 1) b6
        simp only [List.getElem?_toArray, List.getElem?_cons_zero, List.getElem?_cons_succ] at cl1
        go_wp2_with fail
        clear cl0 cl1
        refine (jSync_any A1 lx c1 (Jn.encB x) B1 ly d1 (Jn.encB y) wr q1 q2 (by omega) (by omega)).mono ?_
        rintro e w4 ⟨v3, v4, rfl, o3, o4, hb⟩
        rw [HSY.out] at o3 o4 ⊢
        dsimp only at o3 o4 ⊢
        replace o3 := own_mono o3 hbt.size
        replace o4 := own_mono o4 hbt.size
        clear q1 q2 o1 o2
        replace b4 := blk_below b4 hb
        replace hbt := hbt.trans (hb.mono hbt.size)
        clear hb
        obtain ⟨l3, hl3⟩ : ∃ l, (Jn.encB (x ++ y)).length = l := ⟨_, rfl⟩
        have hl3' : l3 ≤ lx + ly := by rw [← hl3, Jn.encB_app, List.length_append, HLX.out, HLY.out]; omega
        rw [hl3] at o3
        have HL3 := Lib.hid hl3
        clear hl3
        obtain ⟨A3, c3, rfl, q3⟩ := own_rdB o3
        obtain ⟨B3, d3', rfl, q4⟩ := own_rdB (n := 0) (l := []) o4
        have m5 := q3.max
        have m6 := q3.le
        have m7 := q4.max
        have m8 := q4.le
        clear q3 q4
        obtain ⟨V4, hV⟩ : ∃ V4, V4 = w4.alloc (.cells #[.slice A3 l3 c3, .slice B3 0 d3'] 24) := ⟨_, rfl⟩
        have b9 := blk_new hV
        have hb := below_new hV
        replace b4 := blk_below b4 hb
        replace o3 := own_below o3 hb
        replace o4 := own_below o4 hb
        replace hbt := hbt.trans (hb.mono hbt.size)
        clear hb
        have HSV4 : Hid (V4.heap.size = w4.heap.size + 1) := by show V4.heap.size = _; rw [hV, World.size_alloc]
        have HVV4 := Lib.hid hV.symm
        clear hV
        have e0 := blk_cell (j := 0) b9
        simp only [List.getElem?_toArray, List.getElem?_cons_zero, List.getElem?_cons_succ] at e0
        have e1 := blk_cell (j := 1) b9
        simp only [List.getElem?_toArray, List.getElem?_cons_zero, List.getElem?_cons_succ] at e1
        have cl0 := blk_cell (j := 0) b4
        simp only [List.getElem?_toArray, List.getElem?_cons_zero, List.getElem?_cons_succ] at cl0
        have clf0 := blk_frozen 0 b4
        have cl1 := blk_cell (j := 1) b4
        simp only [List.getElem?_toArray, List.getElem?_cons_zero, List.getElem?_cons_succ] at cl1
        have clf1 := blk_frozen 1 b4
        rw [← HVV4.out] at e0 e1 cl0 cl1 clf0 clf1
        go_wp2_with fail
        rw [HVV4.out]
        have x4 := blk_set (k := 1) (.slice B3 0 d3') (blk_set (k := 0) (.slice A3 l3 c3) b4)
        simp only [List.setIfInBounds_toArray, List.set_cons_zero, List.set_cons_succ] at x4
        have n3 := own_blk_ne o3 b4 (by decide)
        have n4 := own_blk_ne o4 b4 (by decide)
        refine bodyPost_ret (results_cell_row2 rfl _ _ (w.heap.size) 24 #[.slice A3 l3 c3, .slice B3 0 d3'] (0, 0) _ rfl x4 Try.underlying24 rfl infoDisk) rfl ?_
        refine ⟨_, _, rfl, ?_, ?_, (hbt.setCell (p := ⟨w.heap.size, 0, none⟩) (by simp) _).setCell (p := ⟨w.heap.size, 1, none⟩) (by simp) _⟩
        · rw [HTK.out, HL3.out]; exact own_set (own_set o3 n3) n3
        · rw [HDK.out]; exact own_set (own_set o4 n4) n4
      · have d3 : ((k : Int) == (n : Int)) = false := by simp; omega
        obtain ⟨ex, ey⟩ := HAT2.out.done (by rw [HL.out]; omega)
        have EX := Lib.hid ex
        have EY := Lib.hid ey
        clear ex ey
        have cl0 := blk_cell (j := 0) b6
        simp only [List.getElem?_toArray, List.getElem?_cons_zero, List.getElem?_cons_succ] at cl0
        have cl1 := blk_cell (j := 1) b6
        simp only [List.getElem?_toArray, List.getElem?_cons_zero, List.getElem?_cons_succ] at cl1
        have e0 := blk_cell (j := 0) b4
        simp only [List.getElem?_toArray, List.getElem?_cons_zero, List.getElem?_cons_succ] at e0
        have ef0 := blk_frozen 0 b4
        have e1 := blk_cell (j := 1) b4
        simp only [List.getElem?_toArray, List.getElem?_cons_zero, List.getElem?_cons_succ] at e1
        have ef1 := blk_frozen 1 b4
        go_wp2_with fail
        have x4 := blk_set (k := 1) (.slice B1 ly d1) (blk_set (k := 0) (.slice A1 lx c1) b4)
        simp only [List.setIfInBounds_toArray, List.set_cons_zero, List.set_cons_succ] at x4
        have n3 := own_blk_ne o1 b4 (by decide)
        have n4 := own_blk_ne o2 b4 (by decide)
        refine bodyPost_ret (results_cell_row2 rfl _ _ (w.heap.size) 24 #[.slice A1 lx c1, .slice B1 ly d1] (0, 0) _ rfl x4 Try.underlying24 rfl infoDisk) rfl ?_
        refine ⟨_, _, rfl, ?_, ?_, (hbt.setCell (p := ⟨w.heap.size, 0, none⟩) (by simp) _).setCell (p := ⟨w.heap.size, 1, none⟩) (by simp) _⟩
        · rw [← EX.out, HLX.out]; exact own_set (own_set o1 n3) n3
        · rw [← EY.out, HLY.out]; exact own_set (own_set o2 n4) n4
theorem flat_set {α : Type} {f : α → List Value} {k : Nat} (hf : ∀ x, (f x).length = k) (l : List α) (i j : Nat) (x : α) (u : Value) (hi : i < l.length) (hj : j < k) (hx : f x = (f l[i]).set j u) : (l.flatMap f).set (i * k + j) u = (l.set i x).flatMap f := by
  induction l generalizing i with
  | nil => simp at hi
  | cons y r ih =>
    cases i with
    | zero =>
      simp only [Nat.zero_mul, Nat.zero_add, List.flatMap_cons, List.set_cons_zero]
      rw [List.set_append_left _ _ (by rw [hf]; exact hj), hx]
      rfl
    | succ i =>
      simp only [List.flatMap_cons, List.set_cons_succ]
      rw [List.set_append_right _ _ (by rw [hf, Nat.succ_mul]; omega), hf, show (i + 1) * k + j - k = i * k + j by rw [Nat.succ_mul]; omega]
      rw [ih i (by simpa using hi) (by simpa using hx)]
namespace Jn
/-- The versions with the first i numbered. -/
def mix (vs : List Ver) (i : Nat) : List Ver := vs.mapIdx fun j v => if j < i then setNo j v else v
theorem mix_len (vs : List Ver) (i : Nat) : (mix vs i).length = vs.length := List.length_mapIdx
theorem mix_zero (vs : List Ver) : mix vs 0 = vs := by
  apply List.ext_getElem?
  intro j
  unfold mix
  rw [List.getElem?_mapIdx]
  cases vs[j]? <;> simp
theorem mix_all (vs : List Ver) : mix vs vs.length = num vs := by
  apply List.ext_getElem?
  intro j
  unfold mix num
  rw [List.getElem?_mapIdx, List.getElem?_mapIdx]
  by_cases h : j < vs.length
  · rw [List.getElem?_eq_getElem h]; simp [h]
  · rw [List.getElem?_eq_none (by omega)]; rfl
theorem mix_step {vs : List Ver} {i : Nat} (h : i < vs.length) : (mix vs i).set i (setNo i vs[i]) = mix vs (i + 1) := by
  apply List.ext_getElem?
  intro j
  rw [List.getElem?_set]
  unfold mix
  rw [List.length_mapIdx, List.getElem?_mapIdx, List.getElem?_mapIdx]
  by_cases hj : i = j
  · subst hj
    rw [if_pos rfl, if_pos h, List.getElem?_eq_getElem h]
    simp
  · rw [if_neg hj]
    cases vs[j]? with
    | none => rfl
    | some v =>
      simp only [Option.map_some]
      by_cases h1 : j < i
      · rw [if_pos h1, if_pos (by omega)]
      · rw [if_neg h1, if_neg (by omega)]
theorem mix_at {vs : List Ver} {i : Nat} (h : i < (mix vs i).length) : (mix vs i)[i] = vs[i]'(by rw [mix_len] at h; exact h) := by
  have h' : i < vs.length := by rw [mix_len] at h; exact h
  have e : (mix vs i)[i]? = vs[i]? := by
    unfold mix
    rw [List.getElem?_mapIdx, List.getElem?_eq_getElem h']
    simp
  rw [List.getElem?_eq_getElem h, List.getElem?_eq_getElem h'] at e
  injection e
end Jn
theorem mix_row {vs : List Ver} {ss : List Value} (hl : ss.length = vs.length) {i : Nat} (hi : i < vs.length) :
    ((((Jn.mix vs i).zip ss).flatMap fun x => vcell x.1 x.2).set (i * 4) (.int .i64 ((i : Int) + 1))) = (((Jn.mix vs (i + 1)).zip ss).flatMap fun x => vcell x.1 x.2) := by
  have hz : i < ((Jn.mix vs i).zip ss).length := by rw [List.length_zip, Jn.mix_len]; omega
  have hs : i < ss.length := by omega
  have hm : i < (Jn.mix vs i).length := by rw [Jn.mix_len]; exact hi
  have := flat_set (k := 4) vcell_length ((Jn.mix vs i).zip ss) i 0 (Jn.setNo i vs[i], ss[i]) (.int .i64 ((i : Int) + 1)) hz (by omega) (by
    rw [List.getElem_zip]
    dsimp only
    rw [Jn.mix_at hm]
    rfl)
  rw [Nat.add_zero] at this
  rw [this]
  congr 1
  rw [← Jn.mix_step hi]
  apply List.ext_getElem?
  intro j
  rw [List.getElem?_set]
  by_cases hj : i = j
  · subst hj
    rw [if_pos rfl, if_pos hz, List.getElem?_zip_eq_some.2 ⟨?_, ?_⟩]
    · exact List.getElem?_set_self hm
    · exact List.getElem?_eq_getElem hs
  · rw [if_neg hj]
    unfold List.zip
    rw [List.getElem?_zipWith, List.getElem?_zipWith, List.getElem?_set_ne hj]
theorem vcells_one : ∀ (vs : List Ver) (ss : List Value), (∀ s ∈ ss, s.oneCell' = true) → ∀ u ∈ ((vs.zip ss).flatMap fun x => vcell x.1 x.2), u.oneCell' = true := by
  intro vs ss h u hu
  obtain ⟨⟨v, s⟩, hm, hu⟩ := List.mem_flatMap.1 hu
  have hs := h s (List.of_mem_zip hm).2
  simp [vcell] at hu
  rcases hu with rfl | rfl | rfl | rfl
  · rfl
  · exact hs
  · rfl
  · rfl
/-- What each version reads as. -/
def ElV (w : World) (B : Nat) (vs : List Ver) (ss : List Value) : Prop := ∀ (i : Nat) (v : Ver) (s : Value), vs[i]? = some v → ss[i]? = some s → ∃ A' c', s = .slice A' v.week.length c' ∧ RdP w B A' v.week.length c' v.week ∧ okI v.no ∧ okI v.cost
theorem ElV.below {w w' : World} {B : Nat} {vs : List Ver} {ss : List Value} (h : ElV w B vs ss) (hb : Below B w w') : ElV w' B vs ss := fun i v s hi hs => by
  obtain ⟨A', c', e, p, q⟩ := h i v s hi hs; exact ⟨A', c', e, p.below hb, q⟩
theorem ElV.more {w : World} {B B' : Nat} {vs : List Ver} {ss : List Value} (h : ElV w B vs ss) (hb : B ≤ B') : ElV w B' vs ss := fun i v s hi hs => by
  obtain ⟨A', c', e, p, q⟩ := h i v s hi hs; exact ⟨A', c', e, p.more hb, q⟩
theorem ElV.slices {w : World} {B : Nat} {vs : List Ver} {ss : List Value} (hl : ss.length = vs.length) (h : ElV w B vs ss) : ∀ s ∈ ss, s.oneCell' = true := by
  intro s hs
  obtain ⟨i, hi, rfl⟩ := List.getElem_of_mem hs
  obtain ⟨A', c', e, _⟩ := h i _ _ (List.getElem?_eq_getElem (by omega)) (List.getElem?_eq_getElem hi)
  rw [e]; rfl
theorem ElV.cat {w : World} {B : Nat} {us vs : List Ver} {ss ts : List Value} (hl : ss.length = us.length) (h : ElV w B us ss) (h' : ElV w B vs ts) : ElV w B (us ++ vs) (ss ++ ts) := fun i v s hi hs => by
  rcases Nat.lt_or_ge i us.length with hlt | hge
  · rw [List.getElem?_append_left hlt] at hi
    rw [List.getElem?_append_left (by omega)] at hs
    exact h i v s hi hs
  · rw [List.getElem?_append_right hge] at hi
    rw [List.getElem?_append_right (by omega), hl] at hs
    exact h' _ v s hi hs
theorem ElV.num {w : World} {B : Nat} {vs : List Ver} {ss : List Value} (h : ElV w B vs ss) (hn : vs.length ≤ 1000) : ElV w B (Jn.num vs) ss := fun i v s hi hs => by
  unfold Jn.num at hi
  rw [List.getElem?_mapIdx] at hi
  obtain ⟨u, hu, rfl⟩ := Option.map_eq_some_iff.1 hi
  obtain ⟨A', c', e, p, q1, q2⟩ := h i u s hu hs
  have hlt : i < vs.length := (List.getElem?_eq_some_iff.1 hu).1
  exact ⟨A', c', e, p, by unfold okI; show _ ≤ (i : Int) + 1 ∧ (i : Int) + 1 ≤ _; omega, q2⟩
/-- An owned row of versions reads. -/
theorem ElV.rd {w : World} {base : Nat} {vs : List Ver} {ss : List Value} {v : Value} (hl : ss.length = vs.length) (h : ElV w w.heap.size vs ss) (ho : w.ownsRow base 42 4 v vs.length ((vs.zip ss).flatMap fun x => vcell x.1 x.2)) :
    ∃ A' c', v = .slice A' vs.length c' ∧ RdV w w.heap.size A' vs.length c' vs := by
  obtain ⟨A', c', e, hr⟩ := own_rdK ho
  exact ⟨A', c', e, ss, hl, hr, h⟩
set_option maxRecDepth 100000 in
set_option maxHeartbeats 4000000 in
theorem numbered_any (A : Option Addr) (n c : Nat) (vs : List Ver) (w : World) (h : RdV w w.heap.size A n c vs) (hn : n ≤ 10) :
    Calls Try.prog 27 #[.slice A n c] w fun e w' => ∃ A' c', e = .returned (.slice A' n c') ∧ RdV w' w'.heap.size A' n c' (Jn.num vs) ∧ Below w.heap.size w w' := by
  have h1 := h.max
  have h2 := h.le
  have HL := Lib.hid h.len
  obtain ⟨ss, hss, hrk, hel⟩ := h
  have hel : ElV w w.heap.size vs ss := hel
  have HSS := Lib.hid hss
  have hone := vcells_one vs ss (ElV.slices hss hel)
  clear hss
  go_enter Try.func27, Try.ntmps27
  go_wp2_with (first
    | (refine wpList_appK (t := 27) _ _ elV (World.ownsRow_nil w w.heap.size 42 4) hrk hone (by omega) (by omega) (Nat.le_refl _) rfl rfl rfl rfl ?_
       intro v' w1 ho hg hat
       rw [Nat.zero_add, List.nil_append] at ho
       obtain ⟨A1, c1, rfl, hr1⟩ := own_rdK ho
       have k1 := hr1.max
       have k2 := hr1.le
       have hb : Below w.heap.size w w1 := (Below.refl _ _).grown hg (Nat.le_refl _) (fun g hg => by cases hg)
       clear hg hat hr1)
    | fail)
  clear hrk hone
  go_loopw [9] (fun iv wr => ∃ i : Nat, i ≤ n ∧ iv = .int .i64 i ∧ wr.ownsRow w.heap.size 42 4 (.slice A1 n c1) n (((Jn.mix vs i).zip ss).flatMap fun x => vcell x.1 x.2) ∧ Below w.heap.size w wr) (fun i _ => n - (intOf i).toNat)
  case atStart => exact ⟨0, by omega, rfl, by rw [Jn.mix_zero]; exact ho, hb⟩
  case round =>
    clear ho hb
    obtain ⟨i, hi, rfl, ho, hb⟩ := hrel
    by_cases hin : i < n
    · have d1 : decide ((i : Int) < (n : Int)) = true := by simp; omega
      have d2 : decide (i < n) = true := by simp; omega
      have HR := Lib.hid (mix_row (i := i) HSS.out (by rw [HL.out]; exact hin))
      obtain ⟨g, hA⟩ : ∃ g, A1 = some ⟨g, 0, none⟩ := by
        rcases ho.2 with ⟨e, e0⟩ | ⟨g, cap, cur, e, _⟩
        · omega
        · injection e with e1; exact ⟨g, e1⟩
      subst hA
      obtain ⟨u, x0⟩ := own_cell ho (j := i * 4) (by omega)
      have x1 := ho.frozenAt (i * 4)
      obtain ⟨hst, hgs⟩ := ho.stored (i * 4) (.int .i64 ((i : Int) + 1))
      have hgb := own_lt ho g rfl
      rw [HR.out] at hst
      go_wp2_with fail
      go_roundw
      case rel => exact ⟨i + 1, by omega, by go_num, by simpa using hst, hb.setCell (p := ⟨g, i * 4, none⟩) hgb _⟩
      case measure => simp [intOf]; omega
    · obtain rfl : i = n := by omega
      have d1 : decide ((i : Int) < (i : Int)) = false := by simp
      have ho2 : wr.ownsRow w.heap.size 42 4 (.slice A1 i c1) (Jn.num vs).length (((Jn.num vs).zip ss).flatMap fun x => vcell x.1 x.2) := by
        rw [Jn.num_len, HL.out, ← Jn.mix_all, HL.out]; exact ho
      obtain ⟨A', c', e, hr⟩ := ElV.rd (by rw [Jn.num_len]; exact HSS.out) (ElV.num ((hel.below hb).more hb.size) (by rw [HL.out]; omega)) ho2
      rw [Jn.num_len, HL.out] at e hr
      injection e with e1 _ e2
      subst e1 e2
      clear ho2
      go_wp2_with fail
      go_ret
      exact ⟨_, _, rfl, hr, hb⟩
section
variable {P : Program} {t e : TypeId} {z : Value} {k bytes base B n : Nat} {v : Value} {m cm : Nat} {xs news : List Value} {Am : Option Addr} {w : World}
/-- append under a guard that says yes. -/
theorem wpList_appG {ops : Array Oper} {rest : List Oper} {o : Oper} {a : Act} {Q : Exit → Act → World → Prop} (s x : Operand) (E : ElK P k t e z bytes)
    (hown : w.ownsRow base e k v n xs) (hr : RdK k w B Am m cm news) (h1 : ∀ u ∈ news, u.oneCell' = true)
    (hbytes : (n + m) * bytes ≤ 140737488355328) (h63 : n + m ≤ 140737488355328) (hbase : base ≤ w.heap.size) (hw : Region.wanted o (yielded ops a.tmps) = true)
    (ho : o.op = .call { callee := .builtin .append, args := #[s, x], argTypes := #[t, t] })
    (hs : a.eval s = v) (hx : a.eval x = .slice Am m cm)
    (h : ∀ v' w', w'.ownsRow base e k v' (n + m) (xs ++ news) → w.grownBy w' v.ownBlock → (v'.ownBlock = v.ownBlock ∨ v'.ownBlock = some w.heap.size) → wpList P ops Q rest (a.put o.dst v') w') :
    wpList P ops Q (o :: rest) a w := by
  refine wpList_step fun K hK => ?_
  rw [if_pos hw]
  obtain ⟨v', w', hrun, h2, h3, h4⟩ := run_appK (ty := o.type) E hown hr h1 hbytes h63 hbase
  unfold Oper.wp execOp
  simp only [ho, resolve, invoke, builtin, Sem.run_bind, Sem.run_pure, Result.andThen_ok, List.map_toArray, List.map_cons, List.map_nil, hs, hx, hrun]
  exact hK _ _ (h v' w' h2 h3 h4)
end
/-- A builtin append, once it is known what it does. -/
theorem wp_append {P : Program} {o : Oper} {a : Act} {K : Act → World → Prop} {Q : Exit → Act → World → Prop} {w w' : World} {ts : Array TypeId} {vs vx v' : Value} (s x : Operand)
    (ho : o.op = .call { callee := .builtin .append, args := #[s, x], argTypes := ts }) (hs : a.eval s = vs) (hx : a.eval x = vx)
    (hrun : (Builtin.append_ ts o.type #[vs, vx]).run P w = .ok v' w') (h : K (a.put o.dst v') w') : o.wp P a w K Q := by
  unfold Oper.wp execOp
  simp only [ho, resolve, invoke, builtin, Sem.run_bind, Sem.run_pure, Result.andThen_ok, List.map_toArray, List.map_cons, List.map_nil, hs, hx, hrun]
  exact h

end Go.Proofs.Ytfacdoemgalodaa
