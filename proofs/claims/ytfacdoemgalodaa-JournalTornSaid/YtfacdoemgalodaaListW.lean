/-
  Lists of byte slices: what they read as; the walks of the reference's Scan, SameAll and Few.
-/
import Derived.Test.YtfacdoemgalodaaScanW
namespace Go.Proofs.Ytfacdoemgalodaa
open Go.RowKit
set_option linter.unusedVariables false

/-- The slice value '.slice A n c' reads as the list of byte slices ls, all below block B. -/
def RdBB (w : World) (B : Nat) (A : Option Addr) (n c : Nat) (ls : List (List UInt8)) : Prop :=
  ls.length = n ∧ ∃ vs, Rd w B A n c vs ∧ ∀ (i : Nat) (l : List UInt8), ls[i]? = some l → ∃ A' c', vs[i]? = some (.slice A' l.length c') ∧ RdB w B A' l.length c' l

section
variable {w w' : World} {B B' : Nat} {A : Option Addr} {n c : Nat} {ls : List (List UInt8)}
theorem RdBB.below (h : RdBB w B A n c ls) (hb : Below B w w') : RdBB w' B A n c ls := by
  obtain ⟨hl, vs, h1, h2⟩ := h
  exact ⟨hl, vs, h1.below hb, fun i l hi => by obtain ⟨A', c', hv, hr⟩ := h2 i l hi; exact ⟨A', c', hv, hr.below hb⟩⟩
theorem RdBB.more (h : RdBB w B A n c ls) (hB : B ≤ B') : RdBB w B' A n c ls := by
  obtain ⟨hl, vs, h1, h2⟩ := h
  exact ⟨hl, vs, h1.more hB, fun i l hi => by obtain ⟨A', c', hv, hr⟩ := h2 i l hi; exact ⟨A', c', hv, hr.more hB⟩⟩
theorem RdBB.len (h : RdBB w B A n c ls) : ls.length = n := h.1
theorem RdBB.le (h : RdBB w B A n c ls) : n ≤ c := by obtain ⟨_, vs, h1, _⟩ := h; exact h1.le
theorem RdBB.max (h : RdBB w B A n c ls) : c ≤ 9223372036854775807 := by obtain ⟨_, vs, h1, _⟩ := h; exact h1.max
theorem RdBB.upto (h : RdBB w B A n c ls) {k : Nat} (hk : k ≤ n) : RdBB w B A k c (ls.take k) := by
  obtain ⟨hl, vs, h1, h2⟩ := h
  refine ⟨by rw [List.length_take]; omega, vs.take k, h1.upto hk, fun i l hi => ?_⟩
  rw [List.getElem?_take] at hi
  split at hi
  · rename_i hik
    obtain ⟨A', c', hv, hr⟩ := h2 i l hi
    exact ⟨A', c', by rw [List.getElem?_take, if_pos hik]; exact hv, hr⟩
  · cases hi
theorem RdBB.at_ (h : RdBB w B A n c ls) {k : Nat} (hk : k < n) (hl : k < ls.length) :
    ∃ ad A' c', A = some ad ∧ ad.block < B ∧ w.cell? (ad.add k) = some (.slice A' ls[k].length c') ∧ RdB w B A' ls[k].length c' ls[k] := by
  obtain ⟨_, vs, h1, h2⟩ := h
  obtain ⟨ad, u, e, hb, hu, hc⟩ := h1.at_ hk
  obtain ⟨A', c', hv, hr⟩ := h2 k ls[k] (List.getElem?_eq_getElem hl)
  rw [hv] at hu
  cases hu
  exact ⟨ad, A', c', e, hb, hc, hr⟩
end

/-- Scan's answer, read. -/
theorem ScanPost.read {sc : List (List UInt8 × Nat)} {w : World} {e : Ending} {w' : World} (h : ScanPost sc w e w') :
    ∃ A c, e = .returned (.tuple #[.slice A sc.length c, .int .i64 (((sc.getLast?.map (·.2)).getD 0 : Nat) : Int)]) ∧ RdBB w' w'.heap.size A sc.length c (sc.map (·.1)) ∧ Below w.heap.size w w' := by
  obtain ⟨v, vs, rfl, h1, h2, h3⟩ := h
  obtain ⟨A, c, rfl, hr⟩ := own_rd h1
  refine ⟨A, c, rfl, ⟨by simp, vs, hr, fun i l hi => ?_⟩, h3⟩
  rw [List.getElem?_map] at hi
  obtain ⟨⟨b, q⟩, hb, rfl⟩ := Option.map_eq_some_iff.1 hi
  obtain ⟨u, hu, ho⟩ := h2 i b q hb
  obtain ⟨A', c', rfl, hr'⟩ := own_rdB ho
  exact ⟨A', c', hu, hr'⟩



def fewB (ls : List (List UInt8)) (m : Nat) : Bool := (ls.take (m + 1)).all (fun l => decide (l.length ≤ 1000)) && decide (ls.length ≤ m)



theorem elBs_bytes (k : Nat) (h : k ≤ 1073741824) : k * 24 ≤ 140737488355328 := by omega

/-- The reference's Scan: the same answer. -/
def rscanI (sc : List (List UInt8 × Nat)) (w : World) (i : Nat) (v : Value) (W : World) : Prop :=
  ∃ vs, W.ownsRow w.heap.size 22 1 v i vs ∧ (∀ (j : Nat) (body : List UInt8) (next : Nat), j < i → sc[j]? = some (body, next) → ∃ u, vs[j]? = some u ∧ W.ownsRow w.heap.size 5 1 u body.length (bv body)) ∧ Below w.heap.size w W

theorem rscan_step {sc : List (List UInt8 × Nat)} {w W w1 : World} {i base : Nat} {A2 : Option Addr} {c2 : Nat} {body : List UInt8} {next : Nat} {v v' : Value}
    (vs : List Value) (hrow : W.ownsRow w.heap.size 22 1 v i vs)
    (hold : ∀ (j : Nat) (body : List UInt8) (next : Nat), j < i → sc[j]? = some (body, next) → ∃ u, vs[j]? = some u ∧ W.ownsRow w.heap.size 5 1 u body.length (bv body))
    (hB : Below w.heap.size w W) (hx : sc[i]? = some (body, next)) (hbase : w.heap.size ≤ base) (hown : W.ownsRow base 5 1 (.slice A2 body.length c2) body.length (bv body))
    (hown' : w1.ownsRow w.heap.size 22 1 v' (i + 1) (vs ++ [.slice A2 body.length c2])) (hgr : (W.alloc (.cells #[.slice A2 body.length c2] 22)).grownBy w1 v.ownBlock) :
    rscanI sc w (i + 1) v' w1 := by
  have hil : vs.length = i := by have := hrow.1; omega
  have k5 : ∀ (b : Nat) (u : Value) (ys : List Value) (k : Nat), W.ownsRow b 5 1 u k ys → w1.ownsRow b 5 1 u k ys := fun b u ys k hu => (hu.alloc _).kept hgr (own_apart hu hrow (by decide))
  refine ⟨_, hown', ?_, hB.trans (((Below.refl _ W).alloc hB.size _).grown hgr (by have := hB.size; simp; omega) (own_lt hrow))⟩
  intro j body' next' hj hs
  by_cases hji : j < i
  · obtain ⟨u, hu, ho⟩ := hold j body' next' hji hs
    exact ⟨u, by rw [List.getElem?_append_left (by omega)]; exact hu, k5 _ _ _ _ ho⟩
  · obtain rfl : j = i := by omega
    rw [hx] at hs
    cases hs
    exact ⟨_, by rw [List.getElem?_append_right (by omega), hil]; simp, own_mono (k5 _ _ _ _ hown) hbase⟩

theorem rscanI_below {sc : List (List UInt8 × Nat)} {w : World} {i : Nat} {v : Value} {A B : World} (h : rscanI sc w i v A) (hb : Below A.heap.size A B) : rscanI sc w i v B := by
  obtain ⟨vs, h2, h3, h5⟩ := h
  refine ⟨vs, own_below h2 hb, fun j body next hj hs => ?_, h5.trans (hb.mono h5.size)⟩
  obtain ⟨u, hu, ho⟩ := h3 j body next hj hs
  exact ⟨u, hu, own_below ho hb⟩

set_option maxHeartbeats 1000000 in
theorem rscan_any (A : Option Addr) (n c : Nat) (l : List UInt8) (sc : List (List UInt8 × Nat)) (w : World) (h : RdB w w.heap.size A n c l) (hn : n ≤ 1073741824) (hsc : ScanOK l 0 sc) (hsl : sc.length ≤ 1073741824) :
    Calls Try.prog 37 #[.slice A n c] w (ScanPost sc w) := by
  have hlen := Lib.hid h.len
  have hm := h.max
  have hle := h.le
  go_enter Try.func37, Try.ntmps37
  go_wp2
  go_loopw [4, 5] (fun v p wr => ∃ (pre rest : List (List UInt8 × Nat)) (q : Nat), p = .int .i64 q ∧ q ≤ n ∧ sc = pre ++ rest ∧ ScanOK l q rest ∧ q = (pre.getLast?.map (·.2)).getD 0 ∧ rscanI sc w pre.length v wr) (fun _ p _ => n - (intOf p).toNat)
  case atStart => exact ⟨[], sc, 0, rfl, by omega, rfl, hsc, rfl, [], World.ownsRow_nil _ _ _ _, fun j _ _ hj => by simp at hj, Below.refl _ _⟩
  case round =>
    obtain ⟨pre, rest, q, rfl, hq, hsplit, hok, hql, hI⟩ := hrel
    have HS := Lib.hid hsplit
    have HQ := Lib.hid hql
    clear hsplit hql
    have hB : Below w.heap.size w wr := by obtain ⟨vs, _, _, hB⟩ := hI; exact hB
    have hrd := (h.below hB).more hB.size
    go_wp2_with fail
    refine (ropen_any A n c l q wr hrd (by omega) (by omega) (by omega)).mono ?_
    have hcases := open_cases l q
    rintro e w2 ⟨v2, rfl, hown2, hb2⟩
    have hI2 := rscanI_below hI hb2
    clear hI
    cases rest with
    | nil =>
      have herr : (openI l q).err ≠ 0 := hok
      generalize openI l q = R at *
      obtain ⟨err, body, next⟩ := R
      dsimp only at *
      have d1 : ((err : Int) != 0) = true := by rw [bne_iff_ne]; omega
      clear hcases hok herr
      go_wp2
      go_ret2
      obtain ⟨vs, i1, i2, i3⟩ := hI2
      have e : pre = sc := by have e := HS.out; simp at e; exact e.symm
      rw [e] at i1 i2
      refine ⟨_, vs, ?_, i1, fun i body next hi => i2 i body next (List.getElem?_eq_some_iff.1 hi).1 hi, i3⟩
      simp only [HQ.out, e]
      rfl
    | cons x rest =>
      obtain ⟨b, q'⟩ := x
      obtain ⟨hop, hok'⟩ : openI l q = ⟨0, b, q'⟩ ∧ ScanOK l q' rest := hok
      rw [hop] at hown2 hcases
      rw [hop]
      dsimp only at hown2 hcases ⊢
      have hfacts : q < q' ∧ q' ≤ n := by
        rcases hcases with ⟨_, q2, hq2, hq3, hbl, hnx, hnx2, _⟩ | ⟨hbad, _⟩
        · rw [hlen.out] at hnx2; omega
        · simp at hbad
      obtain ⟨hf1, hf2⟩ := hfacts
      have Hok := Lib.hid hok'
      clear hop hcases hok'
      obtain ⟨A2, c2, rfl, hr2⟩ := own_rdB hown2
      have hlt : pre.length < sc.length := by rw [HS.out]; simp
      have hx : sc[pre.length]? = some (b, q') := by rw [HS.out]; simp
      have HX := Lib.hid hx
      clear hx
      obtain ⟨vs, i1, i2, i3⟩ := hI2
      have i3s := i3.size
      go_wp2_with (at_builtin; refine wpList_app (.tmp 20) (.tmp 22) elBs (i1.alloc _) (Rd.one w2 _ _) (by simp [Value.oneCell']) (by omega) (by omega) (by simp; omega) rfl rfl rfl rfl ?_; intro v' w3 hown3 hg3 hat3)
      have hI3 := rscan_step vs i1 i2 i3 HX.out hB.size hown2 hown3 hg3
      clear hown3 hg3 hat3 i1 i2
      go_wp2
      go_roundw
      case rel => exact ⟨pre ++ [(b, q')], rest, q', rfl, hf2, by simp [HS.out], Hok.out, by simp, by simpa using hI3⟩
      case measure => simp [intOf]; omega

/-- There is such a list of frames. -/
theorem scan_exists (l : List UInt8) : ∀ (f p : Nat), l.length - p < f → ∃ sc, ScanOK l p sc ∧ sc.length ≤ l.length - p := by
  intro f
  induction f with
  | zero => intro p h; omega
  | succ f ih =>
    intro p hf
    rcases open_cases l p with ⟨he, q, hq, hq2, hbl, hnx, hnx2, _⟩ | ⟨he, _⟩
    · obtain rfl : q = p := by omega
      obtain ⟨sc, h1, h2⟩ := ih (openI l q).next (by omega)
      refine ⟨((openI l q).body, (openI l q).next) :: sc, ⟨?_, h1⟩, by simp; omega⟩
      generalize openI l q = R at he ⊢
      obtain ⟨a, b, c⟩ := R
      simp only at he
      subst he
      rfl
    · exact ⟨[], he, by simp⟩
theorem scan_of (l : List UInt8) : ∃ sc, ScanOK l 0 sc ∧ sc.length ≤ l.length := by
  obtain ⟨sc, h1, h2⟩ := scan_exists l (l.length + 1) 0 (by omega)
  exact ⟨sc, h1, by omega⟩
theorem scan_unique {l : List UInt8} : ∀ {sc sc' : List (List UInt8 × Nat)} {p : Nat}, ScanOK l p sc → ScanOK l p sc' → sc = sc'
  | [], [], _, _, _ => rfl
  | [], (b, q) :: r, p, h, h' => by
    have h1 : (openI l p).err ≠ 0 := h
    have h2 : openI l p = ⟨0, b, q⟩ := h'.1
    rw [h2] at h1
    exact absurd rfl h1
  | (b, q) :: r, [], p, h, h' => by
    have h1 : (openI l p).err ≠ 0 := h'
    have h2 : openI l p = ⟨0, b, q⟩ := h.1
    rw [h2] at h1
    exact absurd rfl h1
  | (b, q) :: r, (b', q') :: r', p, h, h' => by
    have h2 : openI l p = ⟨0, b, q⟩ := h.1
    have h3 : openI l p = ⟨0, b', q'⟩ := h'.1
    rw [h2] at h3
    injection h3 with _ e1 e2
    subst e1 e2
    rw [scan_unique h.2 h'.2]
end Go.Proofs.Ytfacdoemgalodaa
