/-
  Slices of versions; feed.Check.
-/
import Derived.Test.YtojbjaklngdlcaaGreatDoorLotA
namespace Go.Proofs.YtojbjaklngdlcaaGreatDoor
open Go.RowKit
set_option linter.unusedVariables false
set_option linter.unusedSimpArgs false

/-- A version. -/
structure Ver where
  no : Int
  week : List Pl
  cost : Int
  best : Bool

/-- A version's four cells. -/
def vcell (v : Ver) (s : Value) : List Value := [.int .i64 v.no, s, .int .i64 v.cost, .bool v.best]
def RdV (w : World) (B : Nat) (A : Option Addr) (n c : Nat) (vs : List Ver) : Prop :=
  ∃ ss : List Value, ss.length = vs.length ∧ RdK 4 w B A n c ((vs.zip ss).flatMap fun x => vcell x.1 x.2) ∧ ∀ (i : Nat) (v : Ver) (s : Value), vs[i]? = some v → ss[i]? = some s → ∃ A' c', s = .slice A' v.week.length c' ∧
    RdP w B A' v.week.length c' v.week ∧ okI v.no ∧ okI v.cost

section
variable {w w' : World} {B B' : Nat} {A : Option Addr} {n c : Nat} {vs : List Ver}
theorem vcell_length (x : Ver × Value) : ((fun x : Ver × Value => vcell x.1 x.2) x).length = 4 := rfl
theorem RdV.below (h : RdV w B A n c vs) (hb : Below B w w') : RdV w' B A n c vs := by
  obtain ⟨ss, hl, h1, h2⟩ := h
  exact ⟨ss, hl, h1.below hb, fun i v s hi hs => by obtain ⟨A', c', hx, hp, ho⟩ := h2 i v s hi hs; exact ⟨A', c', hx, hp.below hb, ho⟩⟩
theorem RdV.more (h : RdV w B A n c vs) (hB : B ≤ B') : RdV w B' A n c vs := by
  obtain ⟨ss, hl, h1, h2⟩ := h
  exact ⟨ss, hl, h1.more hB, fun i v s hi hs => by obtain ⟨A', c', hx, hp, ho⟩ := h2 i v s hi hs; exact ⟨A', c', hx, hp.more hB, ho⟩⟩
theorem RdV.drewN (h : RdV w B A n c vs) (m : Nat) : RdV (w.drewN m) B A n c vs := h
theorem RdV.len (h : RdV w B A n c vs) : vs.length = n := by
  obtain ⟨ss, hl, h1, _⟩ := h
  have := h1.len
  rw [flat_length vcell_length, List.length_zip] at this
  omega
theorem RdV.le (h : RdV w B A n c vs) : n ≤ c := by obtain ⟨_, _, h1, _⟩ := h; exact h1.le
theorem RdV.max (h : RdV w B A n c vs) : c ≤ 9223372036854775807 := by obtain ⟨_, _, h1, _⟩ := h; exact h1.max
theorem RdV.nil (w : World) (B : Nat) : RdV w B none 0 0 [] := ⟨[], rfl, RdK.nil 4 w B, by simp⟩
theorem RdV.upto (h : RdV w B A n c vs) {k : Nat} (hk : k ≤ n) : RdV w B A k c (vs.take k) := by
  obtain ⟨ss, hl, h1, h2⟩ := h
  refine ⟨ss.take k, by rw [List.length_take, List.length_take, hl], ?_, fun i v s hi hs => ?_⟩
  · have := h1.upto hk
    rw [flat_take vcell_length] at this
    simpa only [List.zip, List.take_zipWith] using this
  · rw [List.getElem?_take] at hi hs
    split at hi
    · rename_i hik
      rw [if_pos hik] at hs
      exact h2 i v s hi hs
    · cases hi
theorem RdV.cut (h : RdV w B A n c vs) {k : Nat} (hk : k ≤ n) : RdV w B (if c = k then A else A.map (·.add (k * 4))) (n - k) (c - k) (vs.drop k) := by
  obtain ⟨ss, hl, h1, h2⟩ := h
  refine ⟨ss.drop k, by rw [List.length_drop, List.length_drop, hl], ?_, fun i v s hi hs => ?_⟩
  · have := h1.cut hk
    rw [flat_drop vcell_length] at this
    simpa only [List.zip, List.drop_zipWith] using this
  · rw [List.getElem?_drop] at hi hs
    exact h2 _ v s hi hs
/-- An element, as the walk reads it. -/
theorem RdV.at_ (h : RdV w B A n c vs) {i : Nat} (hi : i < n) (hl : i < vs.length) :
    ∃ ad A' c', A = some ad ∧ ad.block < B ∧ w.cell? (ad.add (i * 4)) = some (.int .i64 vs[i].no) ∧ w.cell? ⟨(ad.add (i * 4)).block, (ad.add (i * 4)).off + 1, none⟩ = some (.slice A' vs[i].week.length c') ∧
      w.cell? ⟨(ad.add (i * 4)).block, (ad.add (i * 4)).off + 2, none⟩ = some (.int .i64 vs[i].cost) ∧ w.cell? ⟨(ad.add (i * 4)).block, (ad.add (i * 4)).off + 3, none⟩ = some (.bool vs[i].best) ∧
      RdP w B A' vs[i].week.length c' vs[i].week ∧ okI vs[i].no ∧ okI vs[i].cost := by
  obtain ⟨ss, hss, h1, h2⟩ := h
  have hs : i < ss.length := by omega
  have hz : i < (vs.zip ss).length := by rw [List.length_zip]; omega
  obtain ⟨ad, e, hb, hc⟩ := h1.2.2.2 (by omega)
  obtain ⟨A', c', hx, hp, ho⟩ := h2 i vs[i] ss[i] (List.getElem?_eq_getElem hl) (List.getElem?_eq_getElem hs)
  have hg : ∀ j, j < 4 → ((vs.zip ss).flatMap fun x => vcell x.1 x.2)[i * 4 + j]? = (vcell vs[i] ss[i])[j]? := fun j hj => by
    rw [flat_get vcell_length _ i j hz hj]
    simp
  have k0 := hc (i * 4 + 0) _ (by rw [hg 0 (by omega)]; rfl)
  have k1 := hc (i * 4 + 1) _ (by rw [hg 1 (by omega)]; rfl)
  have k2 := hc (i * 4 + 2) _ (by rw [hg 2 (by omega)]; rfl)
  have k3 := hc (i * 4 + 3) _ (by rw [hg 3 (by omega)]; rfl)
  rw [hx] at k1
  exact ⟨ad, A', c', e, hb, k0, (add_sub ad (i * 4) 0) ▸ k1, (add_sub ad (i * 4) 1) ▸ k2, (add_sub ad (i * 4) 2) ▸ k3, hp, ho⟩
end

def okPl (p : Pl) : Bool := decide (0 ≤ p.1 ∧ p.1 ≤ 49) && decide (0 ≤ p.2 ∧ p.2 ≤ 31)
def okWeek (l : List Pl) : Bool := decide (l.length ≤ 64) && l.all okPl
def okVer (k : Nat) (v : Ver) : Bool := (v.no == (k : Int) + 1) && decide (0 ≤ v.cost ∧ v.cost ≤ 1099511627776) && okWeek v.week
def checkB (vs : List Ver) : Bool := vs.zipIdx.all fun x => okVer x.2 x.1

theorem allIs_zip {α : Type} (f : Nat → α → Bool) (l : List α) : AllIs f l (l.zipIdx.all fun x => f x.2 x.1) := by
  unfold AllIs
  rw [List.all_eq_true]
  constructor
  · intro h k hk
    exact h (l[k], k) (by rw [List.mem_zipIdx_iff_getElem?]; simp [hk])
  · rintro h ⟨x, k⟩ hx
    rw [List.mem_zipIdx_iff_getElem?] at hx
    dsimp only at hx ⊢
    obtain ⟨hk, rfl⟩ := List.getElem?_eq_some_iff.1 hx
    exact h k hk
theorem allIs_all {α : Type} (f : α → Bool) (l : List α) : AllIs (fun _ => f) l (l.all f) := by
  unfold AllIs
  rw [List.all_eq_true]
  constructor
  · intro h k hk
    exact h _ (List.getElem_mem hk)
  · rintro h x hx
    obtain ⟨k, hk, rfl⟩ := List.getElem_of_mem hx
    exact h k hk
theorem AllIs.uniq {α : Type} {f : Nat → α → Bool} {l : List α} {r s : Bool} (h : AllIs f l r) (h' : AllIs f l s) : r = s := by
  unfold AllIs at h h'
  rw [Bool.eq_iff_iff, h, h']

def errB (b : Bool) : Int := if b then 0 else 1
end Go.Proofs.YtojbjaklngdlcaaGreatDoor
