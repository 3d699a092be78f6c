/-
  Slices of versions; feed.Check.
-/
import Derived.Test.YtmighpfjjaaknaaPlaces
namespace Go.Proofs.Ytmighpfjjaaknaa
open Go.RowKit
set_option linter.unusedVariables false
set_option linter.unusedSimpArgs false

/-- A version. -/
structure Ver where
  no : Int
  week : List Pl
  cost : Int
  best : Bool

/-- A version's four cells. -/
def vcell (v : Ver) (s : Value) : List Value := [.int .i64 v.no, s, .int .i64 v.cost, .bool v.best]
def RdV (w : World) (B : Nat) (A : Option Addr) (n c : Nat) (vs : List Ver) : Prop :=
  ∃ ss : List Value, ss.length = vs.length ∧ RdK 4 w B A n c ((vs.zip ss).flatMap fun x => vcell x.1 x.2) ∧ ∀ (i : Nat) (v : Ver) (s : Value), vs[i]? = some v → ss[i]? = some s → ∃ A' c', s = .slice A' v.week.length c' ∧
    RdP w B A' v.week.length c' v.week ∧ okI v.no ∧ okI v.cost

section
variable {w w' : World} {B B' : Nat} {A : Option Addr} {n c : Nat} {vs : List Ver}
theorem vcell_length (x : Ver × Value) : ((fun x : Ver × Value => vcell x.1 x.2) x).length = 4 := rfl
theorem RdV.below (h : RdV w B A n c vs) (hb : Below B w w') : RdV w' B A n c vs := by
  obtain ⟨ss, hl, h1, h2⟩ := h
  exact ⟨ss, hl, h1.below hb, fun i v s hi hs => by obtain ⟨A', c', hx, hp, ho⟩ := h2 i v s hi hs; exact ⟨A', c', hx, hp.below hb, ho⟩⟩
theorem RdV.more (h : RdV w B A n c vs) (hB : B ≤ B') : RdV w B' A n c vs := by
  obtain ⟨ss, hl, h1, h2⟩ := h
  exact ⟨ss, hl, h1.more hB, fun i v s hi hs => by obtain ⟨A', c', hx, hp, ho⟩ := h2 i v s hi hs; exact ⟨A', c', hx, hp.more hB, ho⟩⟩
theorem RdV.drewN (h : RdV w B A n c vs) (m : Nat) : RdV (w.drewN m) B A n c vs := h
theorem RdV.len (h : RdV w B A n c vs) : vs.length = n := by
  obtain ⟨ss, hl, h1, _⟩ := h
  have := h1.len
  rw [flat_length vcell_length, List.length_zip] at this
  omega
theorem RdV.le (h : RdV w B A n c vs) : n ≤ c := by obtain ⟨_, _, h1, _⟩ := h; exact h1.le
theorem RdV.max (h : RdV w B A n c vs) : c ≤ 9223372036854775807 := by obtain ⟨_, _, h1, _⟩ := h; exact h1.max
theorem RdV.nil (w : World) (B : Nat) : RdV w B none 0 0 [] := ⟨[], rfl, RdK.nil 4 w B, by simp⟩
theorem RdV.upto (h : RdV w B A n c vs) {k : Nat} (hk : k ≤ n) : RdV w B A k c (vs.take k) := by
  obtain ⟨ss, hl, h1, h2⟩ := h
  refine ⟨ss.take k, by rw [List.length_take, List.length_take, hl], ?_, fun i v s hi hs => ?_⟩
  · have := h1.upto hk
    rw [flat_take vcell_length] at this
    simpa only [List.zip, List.take_zipWith] using this
  · rw [List.getElem?_take] at hi hs
    split at hi
    · rename_i hik
      rw [if_pos hik] at hs
      exact h2 i v s hi hs
    · cases hi
theorem RdV.cut (h : RdV w B A n c vs) {k : Nat} (hk : k ≤ n) : RdV w B (if c = k then A else A.map (·.add (k * 4))) (n - k) (c - k) (vs.drop k) := by
  obtain ⟨ss, hl, h1, h2⟩ := h
  refine ⟨ss.drop k, by rw [List.length_drop, List.length_drop, hl], ?_, fun i v s hi hs => ?_⟩
  · have := h1.cut hk
    rw [flat_drop vcell_length] at this
    simpa only [List.zip, List.drop_zipWith] using this
  · rw [List.getElem?_drop] at hi hs
    exact h2 _ v s hi hs
/-- An element, as the walk reads it. -/
theorem RdV.at_ (h : RdV w B A n c vs) {i : Nat} (hi : i < n) (hl : i < vs.length) :
    ∃ ad A' c', A = some ad ∧ ad.block < B ∧ w.cell? (ad.add (i * 4)) = some (.int .i64 vs[i].no) ∧ w.cell? ⟨(ad.add (i * 4)).block, (ad.add (i * 4)).off + 1, none⟩ = some (.slice A' vs[i].week.length c') ∧
      w.cell? ⟨(ad.add (i * 4)).block, (ad.add (i * 4)).off + 2, none⟩ = some (.int .i64 vs[i].cost) ∧ w.cell? ⟨(ad.add (i * 4)).block, (ad.add (i * 4)).off + 3, none⟩ = some (.bool vs[i].best) ∧
      RdP w B A' vs[i].week.length c' vs[i].week ∧ okI vs[i].no ∧ okI vs[i].cost := by
  obtain ⟨ss, hss, h1, h2⟩ := h
  have hs : i < ss.length := by omega
  have hz : i < (vs.zip ss).length := by rw [List.length_zip]; omega
  obtain ⟨ad, e, hb, hc⟩ := h1.2.2.2 (by omega)
  obtain ⟨A', c', hx, hp, ho⟩ := h2 i vs[i] ss[i] (List.getElem?_eq_getElem hl) (List.getElem?_eq_getElem hs)
  have hg : ∀ j, j < 4 → ((vs.zip ss).flatMap fun x => vcell x.1 x.2)[i * 4 + j]? = (vcell vs[i] ss[i])[j]? := fun j hj => by
    rw [flat_get vcell_length _ i j hz hj]
    simp
  have k0 := hc (i * 4 + 0) _ (by rw [hg 0 (by omega)]; rfl)
  have k1 := hc (i * 4 + 1) _ (by rw [hg 1 (by omega)]; rfl)
  have k2 := hc (i * 4 + 2) _ (by rw [hg 2 (by omega)]; rfl)
  have k3 := hc (i * 4 + 3) _ (by rw [hg 3 (by omega)]; rfl)
  rw [hx] at k1
  exact ⟨ad, A', c', e, hb, k0, (add_sub ad (i * 4) 0) ▸ k1, (add_sub ad (i * 4) 1) ▸ k2, (add_sub ad (i * 4) 2) ▸ k3, hp, ho⟩
end

def okPl (p : Pl) : Bool := decide (0 ≤ p.1 ∧ p.1 ≤ 49) && decide (0 ≤ p.2 ∧ p.2 ≤ 31)
def okWeek (l : List Pl) : Bool := decide (l.length ≤ 64) && l.all okPl
def okVer (k : Nat) (v : Ver) : Bool := (v.no == (k : Int) + 1) && decide (0 ≤ v.cost ∧ v.cost ≤ 1099511627776) && okWeek v.week
def checkB (vs : List Ver) : Bool := vs.zipIdx.all fun x => okVer x.2 x.1

theorem allIs_zip {α : Type} (f : Nat → α → Bool) (l : List α) : AllIs f l (l.zipIdx.all fun x => f x.2 x.1) := by
  unfold AllIs
  rw [List.all_eq_true]
  constructor
  · intro h k hk
    exact h (l[k], k) (by rw [List.mem_zipIdx_iff_getElem?]; simp [hk])
  · rintro h ⟨x, k⟩ hx
    rw [List.mem_zipIdx_iff_getElem?] at hx
    dsimp only at hx ⊢
    obtain ⟨hk, rfl⟩ := List.getElem?_eq_some_iff.1 hx
    exact h k hk
theorem allIs_all {α : Type} (f : α → Bool) (l : List α) : AllIs (fun _ => f) l (l.all f) := by
  unfold AllIs
  rw [List.all_eq_true]
  constructor
  · intro h k hk
    exact h _ (List.getElem_mem hk)
  · rintro h x hx
    obtain ⟨k, hk, rfl⟩ := List.getElem_of_mem hx
    exact h k hk
theorem AllIs.uniq {α : Type} {f : Nat → α → Bool} {l : List α} {r s : Bool} (h : AllIs f l r) (h' : AllIs f l s) : r = s := by
  unfold AllIs at h h'
  rw [Bool.eq_iff_iff, h, h']

theorem check11_any (k : Int) (p : Pl) (w : World) : Calls Try.prog 34 #[.int .i64 k, .agg #[.int .i64 p.1, .int .i64 p.2]] w fun e w' => e = .returned (.bool (okPl p)) ∧ Below w.heap.size w w' := by
  obtain ⟨a, b⟩ := p
  go_enter Try.func34, Try.ntmps34
  go_wp2_with fail
  refine (within_any _ _ _ _).mono ?_
  rintro e w2 ⟨rfl, rfl⟩
  by_cases h1 : 0 ≤ a ∧ a ≤ 49
  · have d1 : decide (0 ≤ a ∧ a ≤ 49) = true := by simpa using h1
    go_wp2_with fail
    refine (within_any _ _ _ _).mono ?_
    rintro e w2 ⟨rfl, rfl⟩
    go_wp2_with fail
    go_ret
    refine ⟨ret_bool ?_, (Below.refl _ _).alloc (Nat.le_refl _) _⟩
    simp [okPl, d1]
  · have d1 : decide (0 ≤ a ∧ a ≤ 49) = false := by simpa using h1
    go_wp2_with fail
    go_ret
    refine ⟨ret_bool ?_, (Below.refl _ _).alloc (Nat.le_refl _) _⟩
    simp [okPl, d1]

theorem enter_check11 : ∀ args w, (callFunc 34 args).run Try.prog w = .ok (.enter 34 args) w := fun _ _ => rfl
theorem enter_check1 : ∀ args w, (callFunc 32 args).run Try.prog w = .ok (.enter 32 args) w := fun _ _ => rfl

set_option maxHeartbeats 1000000 in
theorem check1_any (k : Nat) (hk : (k : Int) + 1 ≤ 9223372036854775807) (v : Ver) (A : Option Addr) (c : Nat) (w : World) (h : RdP w w.heap.size A v.week.length c v.week) :
    Calls Try.prog 32 #[.int .i64 k, .agg #[.int .i64 v.no, .slice A v.week.length c, .int .i64 v.cost, .bool v.best]] w fun e w' => e = .returned (.bool (okVer k v)) ∧ Below w.heap.size w w' := by
  obtain ⟨no, l, cost, best⟩ := v
  dsimp only at h ⊢
  have hm := h.max
  have hle := h.le
  obtain ⟨r, hr⟩ : ∃ r, r = okVer k ⟨no, l, cost, best⟩ := ⟨_, rfl⟩
  rw [← hr]
  unfold okVer okWeek at hr
  dsimp only at hr
  obtain ⟨n, hn⟩ : ∃ n, n = l.length := ⟨_, rfl⟩
  rw [← hn] at h hle hr ⊢
  have HN := Lib.hid hn
  clear hn
  have HR := Lib.hid hr
  clear hr
  go_enter Try.func32, Try.ntmps32
  have hb1 := fun (o : Obj) => (Below.refl w.heap.size w).alloc (Nat.le_refl _) o
  by_cases h1 : no = (k : Int) + 1
  · have d1 : (no == (k : Int) + 1) = true := by simpa using h1
    rw [d1] at HR
    go_wp2_with fail
    refine (within_any _ _ _ _).mono ?_
    rintro e w2 ⟨rfl, rfl⟩
    by_cases h2 : 0 ≤ cost ∧ cost ≤ 1099511627776
    · have d2 : decide (0 ≤ cost ∧ cost ≤ 1099511627776) = true := by simpa using h2
      rw [d2] at HR
      by_cases h3 : n ≤ 64
      · have d3 : decide (n ≤ 64) = true := by simpa using h3
        have d3' : decide ((n : Int) ≤ 64) = true := by simp; omega
        rw [d3] at HR
        go_wp2_with fail
        refine (allP_any 34 #[] enter_check11 A n c l (fun _ => okPl) _ ((h.below (hb1 _)).more (by simp)) (fun k p W _ => check11_any k p W)).mono ?_
        rintro e w2 ⟨b, rfl, hb, hB2⟩
        have hq := hb.uniq (allIs_all okPl l)
        have hB := (hb1 _).trans (hB2.mono (by simp))
        go_wp2_with fail
        go_ret
        refine ⟨ret_bool ?_, hB⟩
        rw [HR.out]
        simp [hq]
      · have d3 : decide (n ≤ 64) = false := by simpa using h3
        have d3' : decide ((n : Int) ≤ 64) = false := by simp; omega
        rw [d3] at HR
        go_wp2_with fail
        go_ret
        refine ⟨ret_bool ?_, hb1 _⟩
        rw [HR.out]
        simp
    · have d2 : decide (0 ≤ cost ∧ cost ≤ 1099511627776) = false := by simpa using h2
      rw [d2] at HR
      go_wp2_with fail
      go_ret
      refine ⟨ret_bool ?_, hb1 _⟩
      rw [HR.out]
      simp
  · have d1 : (no == (k : Int) + 1) = false := by simpa using h1
    rw [d1] at HR
    go_wp2_with fail
    go_ret
    refine ⟨ret_bool ?_, hb1 _⟩
    rw [HR.out]
    simp

set_option maxHeartbeats 1000000 in
theorem allV_any (g : Nat) (lb : Array Value) (eg : ∀ args w, (callFunc g args).run Try.prog w = .ok (.enter g args) w) (A : Option Addr) (n c : Nat) (l : List Ver) (f : Nat → Ver → Bool) (w : World) (h : RdV w w.heap.size A n c l)
    (hg : ∀ (k : Nat) (v : Ver) (A' : Option Addr) (c' : Nat) (W : World), (k : Int) + 1 ≤ 9223372036854775807 → Below w.heap.size w W → RdP W W.heap.size A' v.week.length c' v.week →
      Calls Try.prog g (#[.int .i64 k, .agg #[.int .i64 v.no, .slice A' v.week.length c', .int .i64 v.cost, .bool v.best]] ++ lb) W fun e W' => e = .returned (.bool (f k v)) ∧ Below W.heap.size W W') :
    Calls Try.prog 31 #[.slice A n c, .func (.func g) #[] lb] w fun e w' => ∃ r, e = .returned (.bool r) ∧ AllIs f l r ∧ Below w.heap.size w w' := by
  have hm := h.max
  have hle := h.le
  have hlen := Lib.hid h.len
  go_enter Try.func31, Try.ntmps31
  go_wp2_with fail
  go_loopw [9] (fun i wr => ∃ k : Nat, k ≤ n ∧ i = .int .i64 k ∧ (∀ (j : Nat) (hj : j < l.length), j < k → f j l[j] = true) ∧ Below w.heap.size w wr) (fun i _ => n - (intOf i).toNat)
  case atStart => exact ⟨0, by omega, rfl, fun _ _ h => absurd h (by omega), Below.refl _ _⟩
  case round =>
    obtain ⟨k, hk, rfl, hal, hb⟩ := hrel
    have HAL := Lib.hid hal
    clear hal
    by_cases hkn : k < n
    · have h1 := h.below hb
      have hkl : k < l.length := by rw [hlen.out]; exact hkn
      obtain ⟨ad, A', c', rfl, hab, c1, c2, c3, c4, hp, ok1, ok2⟩ := h1.at_ hkn hkl
      have d5 : decide ((k : Int) < (n : Int)) = true := by simp; omega
      have hb1 := fun (o : Obj) => hb.alloc hb.size o
      have hcall := fun (o : Obj) => hg k l[k] A' c' (wr.alloc o) (by omega) (hb1 o) (((hp.below (hb1 o |>.trans (Below.refl _ _) |> fun _ => (Below.refl w.heap.size wr).alloc hb.size o))).more (hb1 o).size)
      have HF : Hid (∃ b, b = f k l[k]) := ⟨_, rfl⟩
      obtain ⟨b, hfb⟩ := HF.out
      rw [← hfb] at hcall
      have HB := Lib.hid hfb
      clear hfb
      generalize l[k] = p at hcall c1 c2 c3 c4 ok1 ok2 hp
      go_wp2
      refine (hcall _).mono ?_
      rintro e w2 ⟨rfl, hb2⟩
      have hB2 : Below w.heap.size w w2 := (hb1 _).trans (hb2.mono (hb1 _).size)
      cases b with
      | false =>
        go_wp2_with fail
        go_ret
        refine ⟨false, rfl, ⟨fun h => (by cases h), fun h => ?_⟩, hB2⟩
        have := h k hkl
        rw [← HB.out] at this
        exact this
      | true =>
        go_wp2
        go_roundw
        case rel =>
          refine ⟨k + 1, by omega, by go_num, fun j hj hjk => ?_, hB2⟩
          rcases Nat.lt_or_ge j k with h' | h'
          · exact HAL.out j hj h'
          · obtain rfl : j = k := by omega
            exact HB.out.symm
        case measure => simp [intOf]; omega
    · obtain rfl : k = n := by omega
      have d5 : decide ((k : Int) < (k : Int)) = false := by simp
      go_wp2_with fail
      go_ret
      exact ⟨true, rfl, ⟨fun _ j hj => HAL.out j hj (by rw [hlen.out] at hj; exact hj), fun _ => rfl⟩, hb⟩

def errB (b : Bool) : Int := if b then 0 else 1
theorem check_any (A : Option Addr) (n c : Nat) (vs : List Ver) (w : World) (h : RdV w w.heap.size A n c vs) :
    Calls Try.prog 16 #[.slice A n c] w fun e w' => e = .returned (.int .i64 (errB (checkB vs))) ∧ Below w.heap.size w w' := by
  have hm := h.max
  have hle := h.le
  obtain ⟨rr, hrr⟩ : ∃ rr, rr = checkB vs := ⟨_, rfl⟩
  rw [← hrr]
  go_enter Try.func16, Try.ntmps16
  go_wp2_with fail
  refine (allV_any 32 #[] enter_check1 A n c vs okVer w h (fun k v A' c' W hk _ hp => check1_any k hk v A' c' W hp)).mono ?_
  rintro e w2 ⟨b, rfl, hb, hB2⟩
  obtain rfl : b = rr := (hb.uniq (allIs_zip okVer vs)).trans hrr.symm
  clear hrr hb
  cases b <;> (go_wp2_with fail; go_ret; exact ⟨rfl, hB2⟩)
end Go.Proofs.Ytmighpfjjaaknaa
