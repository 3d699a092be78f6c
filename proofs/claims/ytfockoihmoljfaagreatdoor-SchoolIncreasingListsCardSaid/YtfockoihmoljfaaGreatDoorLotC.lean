/-
  Words that the walks share: SchC, PutP, SchD, OwnL, GetP, SchE, SchF.
-/
import Derived.Test.YtfockoihmoljfaaGreatDoorLotS
import Derived.Test.YtfockoihmoljfaaGreatDoorLotQ
import Derived.Test.YtfockoihmoljfaaGreatDoorLotA
/-
  The codec of schools: plain words, no program in sight.
-/
namespace Go.Proofs.YtfockoihmoljfaaGreatDoor.Sc
set_option linter.unusedVariables false
/-- Where a reader stands, and its error. -/
abbrev St := Int × Int
/-- One field, unless an error came before. -/
def take {α : Type} (g : Int → α × Int × Int) (z : α) (s : St) : α × St := if s.2 = 0 then g s.1 else (z, s)
theorem take_err {α : Type} {g : Int → α × Int × Int} {z : α} {s : St} (h : s.2 ≠ 0) : take g z s = (z, s) := if_neg h
theorem take_ok {α : Type} {g : Int → α × Int × Int} {z : α} {a : Int} : take g z (a, 0) = g a := if_pos rfl
section
variable (l : List UInt8)
def rNum : St → Int × St := take (Vi.getI l) 0
def rText : St → List UInt8 × St := take (fun a => Vi.getS l a 64) []
def rList : St → List Int × St := take (fun a => Vi.getL l a 64) []
def rSlo (s : St) : Slo × St := (⟨(rText l s).1, (rNum l (rText l s).2).1, (rNum l (rNum l (rText l s).2).2).1⟩, (rNum l (rNum l (rText l s).2).2).2)
def rRoo (s : St) : Roo × St := (⟨(rText l s).1, (rNum l (rText l s).2).1, (rNum l (rNum l (rText l s).2).2).1, (rList l (rNum l (rNum l (rText l s).2).2).2).1⟩, (rList l (rNum l (rNum l (rText l s).2).2).2).2)
def rPer (s : St) : Per × St := (⟨(rText l s).1, (rList l (rText l s).2).1⟩, (rList l (rText l s).2).2)
def rGro (s : St) : Gro × St := (⟨(rText l s).1, (rNum l (rText l s).2).1⟩, (rNum l (rText l s).2).2)
def rLes (s : St) : Les × St := (⟨(rText l s).1, (rList l (rText l s).2).1, (rList l (rList l (rText l s).2).2).1⟩, (rList l (rList l (rText l s).2).2).2)
/-- n elements, unless an error comes. -/
def rMany {α : Type} (r : St → α × St) : Nat → St → List α × St
  | 0, s => ([], s)
  | n + 1, s => if s.2 = 0 then ((r s).1 :: (rMany r n (r s).2).1, (rMany r n (r s).2).2) else ([], s)
/-- A count, tested. -/
def rCount (most : Int) (s : St) : Int × St :=
  if (rNum l s).2.2 = 0 then (if (rNum l s).1 < 0 then ((rNum l s).1, ((rNum l s).2.1, 11)) else if most < (rNum l s).1 then ((rNum l s).1, ((rNum l s).2.1, 2)) else rNum l s) else rNum l s
def rAll {α : Type} (most : Int) (r : St → α × St) (s : St) : List α × St := rMany r (rCount l most s).1.toNat (rCount l most s).2
end
end Go.Proofs.YtfockoihmoljfaaGreatDoor.Sc

/-
  Encodings of schools: plain words, no program in sight.
-/
namespace Go.Proofs.YtfockoihmoljfaaGreatDoor
theorem Vi.putS_lenB {s : List UInt8} (h : s.length ≤ 1000) : (Vi.putS s).length ≤ 10 + s.length := by
  unfold Vi.putS
  have := putI_len (n := (s.length : Int)) (by omega)
  rw [List.length_append]; omega
theorem Vi.putL_lenB {l : List Int} (h : okIs l) (hl : l.length ≤ 1000) : (Vi.putL l).length ≤ 10 + 10 * l.length := by
  unfold Vi.putL
  have := putI_len (n := (l.length : Int)) (by omega)
  have := flat_len h
  rw [List.length_append]; omega
namespace Sc
def putSlo (x : Slo) : List UInt8 := Vi.putS x.name ++ Vi.putI x.day ++ Vi.putI x.hour
def putRoo (x : Roo) : List UInt8 := Vi.putS x.name ++ Vi.putI x.house ++ Vi.putI x.seats ++ Vi.putL x.shut
def putPer (x : Per) : List UInt8 := Vi.putS x.name ++ Vi.putL x.away
def putGro (x : Gro) : List UInt8 := Vi.putS x.name ++ Vi.putI x.size
def putLes (x : Les) : List UInt8 := Vi.putS x.name ++ Vi.putL x.who ++ Vi.putL x.groups
/-- A list: how many, and one by one. -/
def putA {α : Type} (p : α → List UInt8) (l : List α) : List UInt8 := Vi.putI l.length ++ l.flatMap p
def putB (s : Sch) : List UInt8 := putA putSlo s.slots ++ putA putRoo s.rooms ++ putA putPer s.people ++ putA putGro s.groups ++ putA putLes s.lessons
/-- Short names and short lists. -/
def smSlo (x : Slo) : Prop := x.name.length ≤ 64 ∧ okI x.day ∧ okI x.hour
def smRoo (x : Roo) : Prop := x.name.length ≤ 64 ∧ okI x.house ∧ okI x.seats ∧ okIs x.shut ∧ x.shut.length ≤ 80
def smPer (x : Per) : Prop := x.name.length ≤ 64 ∧ okIs x.away ∧ x.away.length ≤ 80
def smGro (x : Gro) : Prop := x.name.length ≤ 64 ∧ okI x.size
def smLes (x : Les) : Prop := x.name.length ≤ 64 ∧ okIs x.who ∧ x.who.length ≤ 80 ∧ okIs x.groups ∧ x.groups.length ≤ 80
theorem lenSlo {x : Slo} (h : smSlo x) : (putSlo x).length ≤ 2000 := by
  obtain ⟨h1, h2, h3⟩ := h
  unfold okI at h2 h3
  have := Vi.putS_lenB (s := x.name) (by omega)
  have := putI_len h2
  have := putI_len h3
  unfold putSlo
  simp only [List.length_append]; omega
theorem lenRoo {x : Roo} (h : smRoo x) : (putRoo x).length ≤ 2000 := by
  obtain ⟨h1, h2, h3, h4, h5⟩ := h
  unfold okI at h2 h3
  have := Vi.putS_lenB (s := x.name) (by omega)
  have := putI_len h2
  have := putI_len h3
  have := Vi.putL_lenB h4 (by omega)
  unfold putRoo
  simp only [List.length_append]; omega
theorem lenPer {x : Per} (h : smPer x) : (putPer x).length ≤ 2000 := by
  obtain ⟨h1, h4, h5⟩ := h
  have := Vi.putS_lenB (s := x.name) (by omega)
  have := Vi.putL_lenB h4 (by omega)
  unfold putPer
  simp only [List.length_append]; omega
theorem lenGro {x : Gro} (h : smGro x) : (putGro x).length ≤ 2000 := by
  obtain ⟨h1, h2⟩ := h
  unfold okI at h2
  have := Vi.putS_lenB (s := x.name) (by omega)
  have := putI_len h2
  unfold putGro
  simp only [List.length_append]; omega
theorem lenLes {x : Les} (h : smLes x) : (putLes x).length ≤ 2000 := by
  obtain ⟨h1, h4, h5, h6, h7⟩ := h
  have := Vi.putS_lenB (s := x.name) (by omega)
  have := Vi.putL_lenB h4 (by omega)
  have := Vi.putL_lenB h6 (by omega)
  unfold putLes
  simp only [List.length_append]; omega
theorem flat_bd {α : Type} {p : α → List UInt8} : ∀ {l : List α}, (∀ x ∈ l, (p x).length ≤ 2000) → (l.flatMap p).length ≤ 2000 * l.length
  | [], _ => by simp
  | x :: r, h => by
    have h1 := h x (by simp)
    have h2 := flat_bd (l := r) fun y hy => h y (by simp [hy])
    rw [List.flatMap_cons, List.length_append, List.length_cons]; omega
theorem flat_snoc {α : Type} {p : α → List UInt8} {l : List α} {j : Nat} (h : j < l.length) : (l.take (j + 1)).flatMap p = (l.take j).flatMap p ++ p l[j] := by
  rw [List.take_succ_eq_append_getElem h, List.flatMap_append]; simp
theorem putA_bd {α : Type} {p : α → List UInt8} {l : List α} (h : ∀ x ∈ l, (p x).length ≤ 2000) (hl : l.length ≤ 80) : (putA p l).length ≤ 160010 := by
  unfold putA
  have := putI_len (n := (l.length : Int)) (by omega)
  have := flat_bd h
  rw [List.length_append]; omega
/-- A school of short names and lists. -/
structure Small (s : Sch) : Prop where
  slots : ∀ x ∈ s.slots, smSlo x
  rooms : ∀ x ∈ s.rooms, smRoo x
  people : ∀ x ∈ s.people, smPer x
  groups : ∀ x ∈ s.groups, smGro x
  lessons : ∀ x ∈ s.lessons, smLes x
  lens : s.slots.length ≤ 80 ∧ s.rooms.length ≤ 80 ∧ s.people.length ≤ 80 ∧ s.groups.length ≤ 80 ∧ s.lessons.length ≤ 80
theorem incr_key : ∀ (l : List Int) (b : Int), l.Pairwise (· < ·) → (∀ x ∈ l, b ≤ x) → ∀ x ∈ l.getLast?, b + l.length ≤ x + 1
  | [], b, _, _ => by simp
  | [y], b, _, hb => by
    have := hb y (by simp)
    intro x hx; simp at hx; subst hx; simp; omega
  | y :: z :: r, b, hp, hb => by
    intro x hx
    rw [List.getLast?_cons_cons] at hx
    have h1 := hb y (by simp)
    have hp' := List.pairwise_cons.1 hp
    have := incr_key (z :: r) (b + 1) hp'.2 (fun q hq => by have := hp'.1 q hq; omega) x hx
    simp only [List.length_cons] at this ⊢
    omega
theorem incr_len {l : List Int} {n : Nat} (h : incr l n) : l.length ≤ n := by
  rcases l with _ | ⟨y, r⟩
  · simp
  · obtain ⟨x, hx⟩ : ∃ x, (y :: r).getLast? = some x := ⟨_, List.getLast?_eq_some_getLast (by simp)⟩
    have h1 := incr_key _ 0 h.1 (fun q hq => (h.2 q hq).1) x (by simp [hx])
    have h2 := (h.2 x (List.mem_of_getLast? hx)).2
    omega
theorem incr_ok {l : List Int} {n : Nat} (h : incr l n) (hn : n ≤ 1000) : okIs l := fun z hz => by have := h.2 z hz; omega
/-- A valid school is small. -/
theorem small_of {s : Sch} (h : chk s = 0) : Small s := by
  obtain ⟨⟨hn, ht, _, _, hr, hp, hg, hl⟩, hb⟩ := chk_ok.1 h
  have hb' : s.slots.length ≤ 50 ∧ s.rooms.length ≤ 32 ∧ s.people.length ≤ 64 ∧ s.groups.length ≤ 64 ∧ s.lessons.length ≤ 64 := by
    unfold Big at hb; omega
  have nm : ∀ (k : Int) (x : List UInt8), 1 ≤ k → k ≤ 5 → x ∈ names s k → x.length ≤ 64 := fun k x h1 h2 hx => ((hn k h1 h2).1 x hx).2.1
  refine ⟨fun x hx => ?_, fun x hx => ?_, fun x hx => ?_, fun x hx => ?_, fun x hx => ?_, by omega⟩
  · obtain ⟨⟨a1, a2⟩, b1, b2⟩ := ht.1 x hx
    exact ⟨nm 2 _ (by omega) (by omega) (by unfold names; simp; exact ⟨x, hx, rfl⟩), by unfold okI; omega, by unfold okI; omega⟩
  · obtain ⟨⟨a1, a2⟩, ⟨b1, b2⟩, c⟩ := hr x hx
    have := incr_len c
    exact ⟨nm 3 _ (by omega) (by omega) (by unfold names; simp; exact ⟨x, hx, rfl⟩), by unfold okI; omega, by unfold okI; omega, incr_ok c (by omega), by omega⟩
  · have c := hp x hx
    have := incr_len c
    exact ⟨nm 4 _ (by omega) (by omega) (by unfold names; simp; exact ⟨x, hx, rfl⟩), incr_ok c (by omega), by omega⟩
  · obtain ⟨a1, a2⟩ := hg x hx
    exact ⟨nm 5 _ (by omega) (by omega) (by unfold names; simp; exact ⟨x, hx, rfl⟩), by unfold okI; omega⟩
  · obtain ⟨c, d⟩ := hl x hx
    have := incr_len c
    have := incr_len d
    exact ⟨nm 1 _ (by omega) (by omega) (by unfold names; simp; exact ⟨x, hx, rfl⟩), incr_ok c (by omega), by omega, incr_ok d (by omega), by omega⟩
open Classical in
/-- What Put answers. -/
noncomputable def putR (s : Sch) : List UInt8 × Int := if chk s ≠ 0 then ([], chk s) else (putB s, 0)
end Sc
end Go.Proofs.YtfockoihmoljfaaGreatDoor

/-
  What readers leave: bounds of what is read. Plain laws, no program in sight.
-/
namespace Go.Proofs.YtfockoihmoljfaaGreatDoor
theorem getS_err {l : List UInt8} {a most : Int} (h : (Vi.getS l a most).2.2 ≠ 0) : Vi.getS l a most = ([], 0, (Vi.getS l a most).2.2) := by
  rw [getS_cnt] at h ⊢
  split
  · rfl
  · rename_i h1
    rw [if_neg h1] at h
    split
    · rfl
    · rename_i h2
      rw [if_neg h2] at h
      exact absurd rfl h
theorem getL_err {l : List UInt8} {a most : Int} (h : (Vi.getL l a most).2.2 ≠ 0) : Vi.getL l a most = ([], 0, (Vi.getL l a most).2.2) := by
  unfold Vi.getL at h ⊢
  split
  · rfl
  · rename_i h1
    rw [if_neg h1] at h
    exact getN_err _ _ _ _ h
theorem getI_err {l : List UInt8} {a : Int} (h : (Vi.getI l a).2.2 ≠ 0) : Vi.getI l a = (0, 0, (Vi.getI l a).2.2) := by
  rcases getI_e l a with h1 | ⟨h1, _⟩
  · exact absurd h1 h
  · exact h1
namespace Sc
section
variable {l : List UInt8} {s : St}
theorem rNum_ok (hl : l.length ≤ 1073741824) (hs : okI s.1) : okI (rNum l s).1 ∧ okI (rNum l s).2.1 := by
  unfold rNum take
  split
  · by_cases h : (Vi.getI l s.1).2.2 = 0
    · have := getI_ok h
      unfold okI; omega
    · rw [getI_err h]; unfold okI; simp
  · exact ⟨by unfold okI; simp, hs⟩
theorem rText_ok (hl : l.length ≤ 1073741824) (hs : okI s.1) : (rText l s).1.length ≤ 64 ∧ okI (rText l s).2.1 := by
  unfold rText take
  split
  · dsimp only
    by_cases h : (Vi.getS l s.1 64).2.2 = 0
    · have := Vi.getS_canon h
      unfold okI; omega
    · rw [getS_err h]; unfold okI; simp
  · exact ⟨by simp, hs⟩
theorem rList_ok (hl : l.length ≤ 1073741824) (hs : okI s.1) : okIs (rList l s).1 ∧ (rList l s).1.length ≤ 64 ∧ okI (rList l s).2.1 := by
  unfold rList take
  split
  · dsimp only
    by_cases h : (Vi.getL l s.1 64).2.2 = 0
    · obtain ⟨h1, h2, h3, h4, h5, h6, h7⟩ := Vi.getL_canon h
      exact ⟨h7, by omega, by unfold okI; omega⟩
    · rw [getL_err h]
      exact ⟨by simp [okIs], by simp, by unfold okI; simp⟩
  · exact ⟨by simp [okIs], by simp, hs⟩
theorem elSlo_ok (hl : l.length ≤ 1073741824) (hs : okI s.1) : smSlo (rSlo l s).1 ∧ okI (rSlo l s).2.1 := by
  have h1 := rText_ok (l := l) hl hs
  have h2 := rNum_ok (l := l) hl h1.2
  have h3 := rNum_ok (l := l) hl h2.2
  exact ⟨⟨h1.1, h2.1, h3.1⟩, h3.2⟩
theorem elRoo_ok (hl : l.length ≤ 1073741824) (hs : okI s.1) : smRoo (rRoo l s).1 ∧ okI (rRoo l s).2.1 := by
  have h1 := rText_ok (l := l) hl hs
  have h2 := rNum_ok (l := l) hl h1.2
  have h3 := rNum_ok (l := l) hl h2.2
  have h4 := rList_ok (l := l) hl h3.2
  exact ⟨⟨h1.1, h2.1, h3.1, h4.1, Nat.le_trans h4.2.1 (by omega)⟩, h4.2.2⟩
theorem elPer_ok (hl : l.length ≤ 1073741824) (hs : okI s.1) : smPer (rPer l s).1 ∧ okI (rPer l s).2.1 := by
  have h1 := rText_ok (l := l) hl hs
  have h4 := rList_ok (l := l) hl h1.2
  exact ⟨⟨h1.1, h4.1, Nat.le_trans h4.2.1 (by omega)⟩, h4.2.2⟩
theorem elGro_ok (hl : l.length ≤ 1073741824) (hs : okI s.1) : smGro (rGro l s).1 ∧ okI (rGro l s).2.1 := by
  have h1 := rText_ok (l := l) hl hs
  have h2 := rNum_ok (l := l) hl h1.2
  exact ⟨⟨h1.1, h2.1⟩, h2.2⟩
theorem elLes_ok (hl : l.length ≤ 1073741824) (hs : okI s.1) : smLes (rLes l s).1 ∧ okI (rLes l s).2.1 := by
  have h1 := rText_ok (l := l) hl hs
  have h4 := rList_ok (l := l) hl h1.2
  have h5 := rList_ok (l := l) hl h4.2.2
  exact ⟨⟨h1.1, h4.1, Nat.le_trans h4.2.1 (by omega), h5.1, Nat.le_trans h5.2.1 (by omega)⟩, h5.2.2⟩
end
end Sc
end Go.Proofs.YtfockoihmoljfaaGreatDoor

/-
  Lists of elements in memory of the function's own: what keeps them.
-/
namespace Go.Proofs.YtfockoihmoljfaaGreatDoor
open Go.RowKit
set_option linter.unusedVariables false
/-- Every block of elements of type t lies as it lay. -/
def Keeps (t : TypeId) (W W' : World) : Prop := ∀ (b : Nat) (cs : Array Value) (fr : Nat × Nat), W.heap[b]? = some (Obj.cells cs t fr) → W'.heap[b]? = some (Obj.cells cs t fr)
theorem Keeps.below {t : TypeId} {W W' : World} (hb : Below W.heap.size W W') : Keeps t W W' := fun b cs fr h => blk_below h hb
theorem Keeps.grown {t t' : TypeId} {W W' : World} {bR : Nat} {cs : Array Value} {fr : Nat × Nat} (hg : W.grownBy W' (some bR)) (hb : W.heap[bR]? = some (.cells cs t' fr)) (hne : t ≠ t') : Keeps t W W' := fun b cs' fr' h => by
  refine blk_grown h hg (fun e => ?_)
  have e := Option.some.inj e
  subst e
  rw [hb] at h
  injection h with h
  injection h with _ h _
  exact hne h.symm
theorem Keeps.grownRow {t t' : TypeId} {W W' : World} {B n k : Nat} {v : Value} {xs : List Value} (hown : W.ownsRow B t' k v n xs) (hg : W.grownBy W' v.ownBlock) (hne : t ≠ t') : Keeps t W W' := fun b cs' fr' h => by
  refine blk_grown h hg (fun e => ?_)
  exact own_blk_ne hown h (fun e' => hne e'.symm) b e.symm rfl
theorem Keeps.set {t t' : TypeId} {W : World} {p : Addr} {v : Value} {cs : Array Value} {fr : Nat × Nat} (hb : W.heap[p.block]? = some (.cells cs t' fr)) (hne : t ≠ t') : Keeps t W (W.setCell p v) := fun b cs' fr' h => by
  refine blk_other v h (fun e => ?_)
  subst e
  rw [hb] at h
  injection h with h
  injection h with _ h _
  exact hne h.symm
theorem own_keeps {t : TypeId} {W W' : World} {B n k : Nat} {v : Value} {xs : List Value} (h : W.ownsRow B t k v n xs) (hk : Keeps t W W') : W'.ownsRow B t k v n xs := by
  refine ⟨h.1, ?_⟩
  rcases h.2 with hn | ⟨g, cap, cur, rfl, hbg, hgg, rest⟩
  · exact .inl hn
  · exact .inr ⟨g, cap, cur, rfl, hbg, hk _ _ _ hgg, rest⟩
/-- A list of elements of k cells each, in memory made since the base; O says what an element's cells own. -/
def OwnL {α : Type} (k : Nat) (t : TypeId) (O : World → Nat → α → List Value → Prop) (W : World) (B : Nat) (v : Value) (l : List α) : Prop :=
  ∃ rows : List (List Value), rows.length = l.length ∧ (∀ r ∈ rows, r.length = k) ∧ W.ownsRow B t k v l.length rows.flatten ∧ ∀ (i : Nat) (x : α) (r : List Value), l[i]? = some x → rows[i]? = some r → O W B x r
/-- What an element owns stays, so long as blocks of integers stay. -/
def OLasts {α : Type} (O : World → Nat → α → List Value → Prop) : Prop := ∀ {W W' : World} {B : Nat} {x : α} {r : List Value}, O W B x r → Keeps 3 W W' → O W' B x r
section
variable {α : Type} {k : Nat} {t : TypeId} {O : World → Nat → α → List Value → Prop} {W W' : World} {B : Nat} {v : Value} {l : List α}
theorem OwnL.keeps (hO : OLasts O) (h : OwnL k t O W B v l) (h1 : Keeps t W W') (h2 : Keeps 3 W W') : OwnL k t O W' B v l := by
  obtain ⟨rows, a, b, c, d⟩ := h
  exact ⟨rows, a, b, own_keeps c h1, fun i x r hi hr => hO (d i x r hi hr) h2⟩
theorem OwnL.nil (W : World) (B : Nat) : OwnL k t O W B (.slice none 0 0) ([] : List α) := ⟨[], rfl, by simp, World.ownsRow_nil _ _ _ _, by simp⟩
/-- One element more: the row was appended to, the blocks of integers stayed. -/
theorem OwnL.snoc (hO : OLasts O) {x : α} {r : List Value} {v' : Value} {rows : List (List Value)} (a : rows.length = l.length) (b : ∀ r ∈ rows, r.length = k) (d : ∀ (i : Nat) (x : α) (r : List Value), l[i]? = some x → rows[i]? = some r → O W B x r)
    (hr : r.length = k) (hx : O W B x r) (h2 : Keeps 3 W W') (hown : W'.ownsRow B t k v' (l.length + 1) (rows.flatten ++ r)) : OwnL k t O W' B v' (l ++ [x]) := by
  refine ⟨rows ++ [r], by simp [a], fun q hq => ?_, ?_, fun i y q hi hq => ?_⟩
  · rcases List.mem_append.1 hq with hq | hq
    · exact b q hq
    · rw [List.mem_singleton] at hq; subst hq; exact hr
  · rw [List.length_append, List.flatten_append]; simpa using hown
  · by_cases hil : i < l.length
    · rw [List.getElem?_append_left hil] at hi
      rw [List.getElem?_append_left (by omega)] at hq
      exact hO (d i y q hi hq) h2
    · rw [List.getElem?_append_right (by omega)] at hi hq
      have : i - l.length = 0 := by
        have := (List.getElem?_eq_some_iff.1 hi).1
        simp at this; omega
      rw [this] at hi
      rw [a, this] at hq
      simp at hi hq
      subst hi hq
      exact hO hx h2
end
namespace Sc
def OSlo (W : World) (B : Nat) (x : Slo) (r : List Value) : Prop := r = [.string (strOf x.name), .int .i64 x.day, .int .i64 x.hour]
def ORoo (W : World) (B : Nat) (x : Roo) (r : List Value) : Prop := ∃ u, r = [.string (strOf x.name), .int .i64 x.house, .int .i64 x.seats, u] ∧ W.ownsRow B 3 1 u x.shut.length (iv x.shut)
def OPer (W : World) (B : Nat) (x : Per) (r : List Value) : Prop := ∃ u, r = [.string (strOf x.name), u] ∧ W.ownsRow B 3 1 u x.away.length (iv x.away)
def OGro (W : World) (B : Nat) (x : Gro) (r : List Value) : Prop := r = [.string (strOf x.name), .int .i64 x.size]
def OLes (W : World) (B : Nat) (x : Les) (r : List Value) : Prop := ∃ u u', r = [.string (strOf x.name), u, u'] ∧ W.ownsRow B 3 1 u x.who.length (iv x.who) ∧ W.ownsRow B 3 1 u' x.groups.length (iv x.groups)
theorem olSlo : OLasts OSlo := fun h _ => h
theorem olGro : OLasts OGro := fun h _ => h
theorem olRoo : OLasts ORoo := fun ⟨u, h1, h2⟩ hk => ⟨u, h1, own_keeps h2 hk⟩
theorem olPer : OLasts OPer := fun ⟨u, h1, h2⟩ hk => ⟨u, h1, own_keeps h2 hk⟩
theorem olLes : OLasts OLes := fun ⟨u, u', h1, h2, h3⟩ hk => ⟨u, u', h1, own_keeps h2 hk, own_keeps h3 hk⟩
/-- rMany, step by step. -/
theorem rMany_go {α : Type} {r : St → α × St} {n : Nat} {s : St} (h : s.2 = 0) : rMany r (n + 1) s = ((r s).1 :: (rMany r n (r s).2).1, (rMany r n (r s).2).2) := by rw [rMany, if_pos h]
theorem rMany_stop {α : Type} {r : St → α × St} {n : Nat} {s : St} (h : n = 0 ∨ s.2 ≠ 0) : rMany r n s = ([], s) := by
  cases n with
  | zero => rfl
  | succ n => rw [rMany, if_neg (fun e => h.elim (fun h => absurd h (by simp)) (fun h => h e))]
end Sc
end Go.Proofs.YtfockoihmoljfaaGreatDoor

/-
  What Get answers: plain words; lists of the function's own read as a school.
-/
namespace Go.Proofs.YtfockoihmoljfaaGreatDoor
open Go.RowKit
set_option linter.unusedVariables false
namespace Sc
def noSch : Sch := ⟨[], [], [], [], []⟩
section
variable (l : List UInt8)
def g1 : List Slo × St := rAll l 50 (rSlo l) (0, 0)
def g2 : List Roo × St := rAll l 32 (rRoo l) (g1 l).2
def g3 : List Per × St := rAll l 64 (rPer l) (g2 l).2
def g4 : List Gro × St := rAll l 64 (rGro l) (g3 l).2
def g5 : List Les × St := rAll l 64 (rLes l) (g4 l).2
def gS : Sch := ⟨(g1 l).1, (g2 l).1, (g3 l).1, (g4 l).1, (g5 l).1⟩
open Classical in
noncomputable def gE : Int := if (g5 l).2.2 = 0 ∧ ((g5 l).2.1 < (l.length : Int) ∨ chk (gS l) ≠ 0) then 11 else (g5 l).2.2
open Classical in
/-- What Get answers. -/
noncomputable def getR : Sch × Int := if gE l ≠ 0 then (noSch, gE l) else (gS l, 0)
end
section
variable {l : List UInt8}
theorem rMany_all {α : Type} {P : α → Prop} {r : St → α × St} (hr : ∀ s, okI s.1 → P (r s).1 ∧ okI (r s).2.1) : ∀ (n : Nat) (s : St), okI s.1 → (∀ x ∈ (rMany r n s).1, P x) ∧ okI (rMany r n s).2.1
  | 0, s, h => ⟨by simp [rMany], h⟩
  | n + 1, s, h => by
    by_cases h0 : s.2 = 0
    · rw [rMany_go h0]
      have h1 := hr s h
      have h2 := rMany_all hr n (r s).2 h1.2
      refine ⟨fun x hx => ?_, h2.2⟩
      rcases List.mem_cons.1 hx with rfl | hx
      · exact h1.1
      · exact h2.1 x hx
    · rw [rMany_stop (.inr h0)]; exact ⟨by simp, h⟩
theorem rMany_len {α : Type} {r : St → α × St} : ∀ (n : Nat) (s : St), (rMany r n s).1.length ≤ n
  | 0, s => by simp [rMany]
  | n + 1, s => by
    by_cases h0 : s.2 = 0
    · rw [rMany_go h0]
      have := rMany_len (r := r) n (r s).2
      simp; omega
    · rw [rMany_stop (.inr h0)]; simp
theorem rCount_ok (hl : l.length ≤ 1073741824) {most : Int} {s : St} (hs : okI s.1) : okI (rCount l most s).2.1 := by
  have := rNum_ok (l := l) hl hs
  unfold rCount
  split
  · split
    · exact this.2
    · split
      · exact this.2
      · exact this.2
  · exact this.2
theorem rAll_len {α : Type} {r : St → α × St} {most : Int} {s : St} (hmo : 0 ≤ most) : ((rAll l most r s).1.length : Int) ≤ most := by
  unfold rAll
  by_cases h0 : (rNum l s).2.2 = 0 ∧ (rNum l s).1 ≤ most
  · have h1 := rMany_len (r := r) (rCount l most s).1.toNat (rCount l most s).2
    have h2 : (rCount l most s).1 = (rNum l s).1 := by unfold rCount; (repeat' split) <;> rfl
    omega
  · rw [rMany_stop]
    · simpa using hmo
    · refine .inr ?_
      unfold rCount
      split
      · split
        · simp
        · split
          · simp
          · rename_i a b c; exact absurd ⟨a, by omega⟩ h0
      · assumption
theorem rAll_all {α : Type} {P : α → Prop} {r : St → α × St} (hl : l.length ≤ 1073741824) (hr : ∀ s, okI s.1 → P (r s).1 ∧ okI (r s).2.1) {most : Int} {s : St} (hs : okI s.1) : (∀ x ∈ (rAll l most r s).1, P x) ∧ okI (rAll l most r s).2.1 := rMany_all hr _ _ (rCount_ok hl hs)
end
end Sc
/-- A list of the function's own, read. -/
theorem OwnL.rd {α : Type} {k : Nat} {t : TypeId} {O R : World → Nat → α → List Value → Prop} {W : World} {B : Nat} {v : Value} {l : List α} (h : OwnL k t O W B v l) (hR : ∀ x r, x ∈ l → O W B x r → R W W.heap.size x r) : ∃ A c, v = .slice A l.length c ∧ RdS k R W W.heap.size A l.length c l := by
  obtain ⟨rows, a, b, c, d⟩ := h
  obtain ⟨A, cp, rfl, hr⟩ := own_rdK c
  exact ⟨A, cp, rfl, rows, a, b, hr, fun i x r hi hr' => hR x r (List.mem_of_getElem? hi) (d i x r hi hr')⟩
namespace Sc
theorem small_T {s : List UInt8} (h : s.length ≤ 64) : okT s := by unfold okT; omega
theorem rdSlo {W : World} {B : Nat} {x : Slo} {r : List Value} (hs : smSlo x) (h : OSlo W B x r) : RSlo W W.heap.size x r := ⟨h, small_T hs.1, hs.2.1, hs.2.2⟩
theorem rdGro {W : World} {B : Nat} {x : Gro} {r : List Value} (hs : smGro x) (h : OGro W B x r) : RGro W W.heap.size x r := ⟨h, small_T hs.1, hs.2⟩
theorem rdRoo {W : World} {B : Nat} {x : Roo} {r : List Value} (hs : smRoo x) (h : ORoo W B x r) : RRoo W W.heap.size x r := by
  obtain ⟨u, rfl, ho⟩ := h
  obtain ⟨A, c, rfl, hr⟩ := own_rdI ho hs.2.2.2.1
  exact ⟨A, c, rfl, hr, small_T hs.1, hs.2.1, hs.2.2.1⟩
theorem rdPer {W : World} {B : Nat} {x : Per} {r : List Value} (hs : smPer x) (h : OPer W B x r) : RPer W W.heap.size x r := by
  obtain ⟨u, rfl, ho⟩ := h
  obtain ⟨A, c, rfl, hr⟩ := own_rdI ho hs.2.1
  exact ⟨A, c, rfl, hr, small_T hs.1⟩
theorem rdLes {W : World} {B : Nat} {x : Les} {r : List Value} (hs : smLes x) (h : OLes W B x r) : RLes W W.heap.size x r := by
  obtain ⟨u, u', rfl, ho, ho'⟩ := h
  obtain ⟨A, c, rfl, hr⟩ := own_rdI ho hs.2.1
  obtain ⟨A', c', rfl, hr'⟩ := own_rdI ho' hs.2.2.2.1
  exact ⟨A, c, A', c', rfl, hr, hr', small_T hs.1⟩
end Sc
end Go.Proofs.YtfockoihmoljfaaGreatDoor

/-
  What was put is got back: plain laws of readers, no program in sight.
-/
namespace Go.Proofs.YtfockoihmoljfaaGreatDoor.Sc
set_option linter.unusedVariables false
section
variable {l r : List UInt8} {a : Nat}
theorem drop_more {p q : List UInt8} (h : l.drop a = (p ++ q) ++ r) : l.drop a = p ++ (q ++ r) ∧ l.drop (a + p.length) = q ++ r := by
  rw [List.append_assoc] at h
  exact ⟨h, by rw [← List.drop_drop, h, List.drop_left]⟩
theorem rNum_put {n : Int} (h : l.drop a = Vi.putI n ++ r) (hn : okI n) : rNum l ((a : Int), 0) = (n, (((a + (Vi.putI n).length : Nat) : Int), 0)) := by
  unfold rNum
  rw [take_ok, Vi.getI_put h hn]
  simp
theorem rText_put {s : List UInt8} (h : l.drop a = Vi.putS s ++ r) (hs : s.length ≤ 64) : rText l ((a : Int), 0) = (s, (((a + (Vi.putS s).length : Nat) : Int), 0)) := by
  unfold rText
  rw [take_ok, Vi.getS_put h (by omega) (by omega)]
  simp
theorem rList_put {xs : List Int} (h : l.drop a = Vi.putL xs ++ r) (hs : xs.length ≤ 64) (hok : okIs xs) : rList l ((a : Int), 0) = (xs, (((a + (Vi.putL xs).length : Nat) : Int), 0)) := by
  unfold rList
  rw [take_ok, Vi.getL_put h (by omega) (by omega) hok]
  simp
theorem rSlo_put {x : Slo} (h : l.drop a = putSlo x ++ r) (hs : smSlo x) : rSlo l ((a : Int), 0) = (x, (((a + (putSlo x).length : Nat) : Int), 0)) := by
  unfold putSlo at h
  obtain ⟨h1, h2⟩ := drop_more h
  obtain ⟨h3, h4⟩ := drop_more h1
  rw [List.length_append, ← Nat.add_assoc] at h2
  have e1 := rText_put h3 hs.1
  have e2 := rNum_put h4 hs.2.1
  have e3 := rNum_put h2 hs.2.2
  unfold rSlo
  rw [e1]; dsimp only
  rw [e2]; dsimp only
  rw [e3]
  unfold putSlo
  simp [Nat.add_assoc]
theorem rGro_put {x : Gro} (h : l.drop a = putGro x ++ r) (hs : smGro x) : rGro l ((a : Int), 0) = (x, (((a + (putGro x).length : Nat) : Int), 0)) := by
  unfold putGro at h
  obtain ⟨h1, h2⟩ := drop_more h
  have e1 := rText_put h1 hs.1
  have e2 := rNum_put h2 hs.2
  unfold rGro
  rw [e1]; dsimp only
  rw [e2]
  unfold putGro
  simp [Nat.add_assoc]
theorem rPer_put {x : Per} (h : l.drop a = putPer x ++ r) (hs : smPer x) (h64 : x.away.length ≤ 64) : rPer l ((a : Int), 0) = (x, (((a + (putPer x).length : Nat) : Int), 0)) := by
  unfold putPer at h
  obtain ⟨h1, h2⟩ := drop_more h
  have e1 := rText_put h1 hs.1
  have e2 := rList_put h2 h64 hs.2.1
  unfold rPer
  rw [e1]; dsimp only
  rw [e2]
  unfold putPer
  simp [Nat.add_assoc]
theorem rRoo_put {x : Roo} (h : l.drop a = putRoo x ++ r) (hs : smRoo x) (h64 : x.shut.length ≤ 64) : rRoo l ((a : Int), 0) = (x, (((a + (putRoo x).length : Nat) : Int), 0)) := by
  unfold putRoo at h
  obtain ⟨h1, h2⟩ := drop_more h
  obtain ⟨h3, h4⟩ := drop_more h1
  obtain ⟨h5, h6⟩ := drop_more h3
  rw [List.length_append, List.length_append, ← Nat.add_assoc, ← Nat.add_assoc] at h2
  rw [List.length_append, ← Nat.add_assoc] at h4
  have e1 := rText_put h5 hs.1
  have e2 := rNum_put h6 hs.2.1
  have e3 := rNum_put h4 hs.2.2.1
  have e4 := rList_put h2 h64 hs.2.2.2.1
  unfold rRoo
  rw [e1]; dsimp only
  rw [e2]; dsimp only
  rw [e3]; dsimp only
  rw [e4]
  unfold putRoo
  simp [Nat.add_assoc]
theorem rLes_put {x : Les} (h : l.drop a = putLes x ++ r) (hs : smLes x) (h64 : x.who.length ≤ 64) (h65 : x.groups.length ≤ 64) : rLes l ((a : Int), 0) = (x, (((a + (putLes x).length : Nat) : Int), 0)) := by
  unfold putLes at h
  obtain ⟨h1, h2⟩ := drop_more h
  obtain ⟨h3, h4⟩ := drop_more h1
  rw [List.length_append, ← Nat.add_assoc] at h2
  have e1 := rText_put h3 hs.1
  have e2 := rList_put h4 h64 hs.2.1
  have e3 := rList_put h2 h65 hs.2.2.2.1
  unfold rLes
  rw [e1]; dsimp only
  rw [e2]; dsimp only
  rw [e3]
  unfold putLes
  simp [Nat.add_assoc]
theorem rMany_put {α : Type} {rd : St → α × St} {p : α → List UInt8} : ∀ {xs : List α} {a : Nat} {r : List UInt8}, (∀ x ∈ xs, ∀ (a : Nat) (r : List UInt8), l.drop a = p x ++ r → rd ((a : Int), 0) = (x, (((a + (p x).length : Nat) : Int), 0))) → l.drop a = xs.flatMap p ++ r →
    rMany rd xs.length ((a : Int), 0) = (xs, (((a + (xs.flatMap p).length : Nat) : Int), 0))
  | [], a, r, _, _ => by simp [rMany]
  | x :: xs, a, r, hx, h => by
    rw [List.flatMap_cons] at h
    obtain ⟨h1, h2⟩ := drop_more h
    have e1 := hx x (by simp) a _ h1
    have e2 := rMany_put (xs := xs) (fun y hy => hx y (by simp [hy])) h2
    rw [List.length_cons, rMany, if_pos rfl, e1]
    dsimp only
    rw [e2, List.flatMap_cons, List.length_append, Nat.add_assoc]
theorem rAll_put {α : Type} {rd : St → α × St} {p : α → List UInt8} {xs : List α} {most : Int} (hx : ∀ x ∈ xs, ∀ (a : Nat) (r : List UInt8), l.drop a = p x ++ r → rd ((a : Int), 0) = (x, (((a + (p x).length : Nat) : Int), 0))) (hm : (xs.length : Int) ≤ most) (hl : xs.length ≤ 1000) (h : l.drop a = putA p xs ++ r) :
    rAll l most rd ((a : Int), 0) = (xs, (((a + (putA p xs).length : Nat) : Int), 0)) := by
  unfold putA at h
  obtain ⟨h1, h2⟩ := drop_more h
  have e1 := rNum_put h1 (show okI (xs.length : Int) by unfold okI; omega)
  have e2 := rMany_put hx h2
  have e3 : rCount l most ((a : Int), 0) = ((xs.length : Int), (((a + (Vi.putI xs.length).length : Nat) : Int), 0)) := by
    unfold rCount
    rw [e1]
    dsimp only
    rw [if_pos rfl, if_neg (by omega), if_neg (by omega)]
  unfold rAll
  rw [e3]
  dsimp only
  rw [Int.toNat_natCast, e2]
  unfold putA
  rw [List.length_append, Nat.add_assoc]
theorem step_put {p q : List UInt8} {a : Nat} (h : l.drop a = p ++ q) : l.drop (a + p.length) = q := by rw [← List.drop_drop, h, List.drop_left]
/-- The encoding of a school, and whatever follows: the five lists are got back. -/
theorem get_put {s : Sch} (hs : Small s) (hl : s.slots.length ≤ 50 ∧ s.rooms.length ≤ 32 ∧ s.people.length ≤ 64 ∧ s.groups.length ≤ 64 ∧ s.lessons.length ≤ 64) (h64 : (∀ x ∈ s.rooms, x.shut.length ≤ 64) ∧ (∀ x ∈ s.people, x.away.length ≤ 64) ∧ ∀ x ∈ s.lessons, x.who.length ≤ 64 ∧ x.groups.length ≤ 64) (h : l = putB s ++ r) :
    gS l = s ∧ (g5 l).2 = (((putB s).length : Int), 0) := by
  obtain ⟨z1, z2, z3, z4, z5⟩ := hl
  have hb : (putB s).length = (putA putSlo s.slots).length + (putA putRoo s.rooms).length + (putA putPer s.people).length + (putA putGro s.groups).length + (putA putLes s.lessons).length := by unfold putB; simp only [List.length_append]
  unfold putB at h
  simp only [List.append_assoc] at h
  have h1 : l.drop 0 = putA putSlo s.slots ++ (putA putRoo s.rooms ++ (putA putPer s.people ++ (putA putGro s.groups ++ (putA putLes s.lessons ++ r)))) := by rw [List.drop_zero, h]
  have h2 := step_put h1
  have h3 := step_put h2
  have h4 := step_put h3
  have h5 := step_put h4
  rw [Nat.zero_add] at h2 h3 h4 h5
  have e1 := rAll_put (rd := rSlo l) (most := 50) (fun x hx a r h => rSlo_put h (hs.slots x hx)) (by omega) (by omega) h1
  have e2 := rAll_put (rd := rRoo l) (most := 32) (fun x hx a r h => rRoo_put h (hs.rooms x hx) (h64.1 x hx)) (by omega) (by omega) h2
  have e3 := rAll_put (rd := rPer l) (most := 64) (fun x hx a r h => rPer_put h (hs.people x hx) (h64.2.1 x hx)) (by omega) (by omega) h3
  have e4 := rAll_put (rd := rGro l) (most := 64) (fun x hx a r h => rGro_put h (hs.groups x hx)) (by omega) (by omega) h4
  have e5 := rAll_put (rd := rLes l) (most := 64) (fun x hx a r h => rLes_put h (hs.lessons x hx) (h64.2.2 x hx).1 (h64.2.2 x hx).2) (by omega) (by omega) h5
  rw [Nat.zero_add] at e1
  have q1 := (show g1 l = rAll l 50 (rSlo l) (0, 0) from rfl).trans e1
  have q2 := show g2 l = rAll l 32 (rRoo l) (g1 l).2 from rfl
  rw [q1] at q2
  replace q2 := q2.trans e2
  have q3 := show g3 l = rAll l 64 (rPer l) (g2 l).2 from rfl
  rw [q2] at q3
  replace q3 := q3.trans e3
  have q4 := show g4 l = rAll l 64 (rGro l) (g3 l).2 from rfl
  rw [q3] at q4
  replace q4 := q4.trans e4
  have q5 := show g5 l = rAll l 64 (rLes l) (g4 l).2 from rfl
  rw [q4] at q5
  replace q5 := q5.trans e5
  refine ⟨?_, by rw [q5, hb]⟩
  unfold gS
  rw [q1, q2, q3, q4, q5]
end
/-- A valid school's bounds. -/
theorem bounds_of {s : Sch} (h : chk s = 0) : (s.slots.length ≤ 50 ∧ s.rooms.length ≤ 32 ∧ s.people.length ≤ 64 ∧ s.groups.length ≤ 64 ∧ s.lessons.length ≤ 64) ∧ (∀ x ∈ s.rooms, x.shut.length ≤ 64) ∧ (∀ x ∈ s.people, x.away.length ≤ 64) ∧ ∀ x ∈ s.lessons, x.who.length ≤ 64 ∧ x.groups.length ≤ 64 := by
  obtain ⟨⟨hn, ht, _, _, hr, hp, hg, hl⟩, hb⟩ := chk_ok.1 h
  have hb' : s.slots.length ≤ 50 ∧ s.rooms.length ≤ 32 ∧ s.people.length ≤ 64 ∧ s.groups.length ≤ 64 ∧ s.lessons.length ≤ 64 := by
    unfold Big at hb; omega
  refine ⟨hb', fun x hx => ?_, fun x hx => ?_, fun x hx => ⟨?_, ?_⟩⟩
  · have := incr_len (hr x hx).2.2; omega
  · have := incr_len (hp x hx); omega
  · have := incr_len (hl x hx).1; omega
  · have := incr_len (hl x hx).2; omega
/-- Get inverts Put. -/
theorem getR_put {s : Sch} (h : chk s = 0) : getR (putB s) = (s, 0) := by
  obtain ⟨b1, b2⟩ := bounds_of h
  obtain ⟨e1, e2⟩ := get_put (l := putB s) (r := []) (small_of h) b1 b2 (by simp)
  have e3 : gE (putB s) = 0 := by
    unfold gE
    rw [e1, e2]
    rw [if_neg (fun hh => hh.2.elim (fun h1 => by simp at h1) (fun h1 => h1 h))]
  unfold getR
  rw [e3, if_neg (by simp), e1]
/-- With more behind it is malformed. -/
theorem getR_more {s : Sch} (h : chk s = 0) {r : List UInt8} (hr : r ≠ []) : getR (putB s ++ r) = (noSch, 11) := by
  obtain ⟨b1, b2⟩ := bounds_of h
  obtain ⟨e1, e2⟩ := get_put (l := putB s ++ r) (r := r) (small_of h) b1 b2 rfl
  have hl : 0 < r.length := by
    rcases r with _ | ⟨c, r⟩
    · exact absurd rfl hr
    · simp
  have e3 : gE (putB s ++ r) = 11 := by
    unfold gE
    rw [e2]
    rw [if_pos ⟨rfl, .inl (by simp; omega)⟩]
  unfold getR
  rw [e3, if_pos (by simp)]
end Go.Proofs.YtfockoihmoljfaaGreatDoor.Sc

/-
  A part of an encoding is short: plain laws of readers, no program in sight.
-/
namespace Go.Proofs.YtfockoihmoljfaaGreatDoor.Sc
set_option linter.unusedVariables false
section
variable {l : List UInt8} {a j : Nat}
theorem take_split {p q : List UInt8} (h : l.drop a = (p ++ q).take j) (hj : j < (p ++ q).length) : (j < p.length ∧ l.drop a = p.take j) ∨ (p.length ≤ j ∧ j - p.length < q.length ∧ l.drop a = p ++ q.take (j - p.length) ∧ l.drop (a + p.length) = q.take (j - p.length)) := by
  rcases Nat.lt_or_ge j p.length with h1 | h1
  · exact .inl ⟨h1, by rw [h, List.take_append_of_le_length (by omega)]⟩
  · have e : l.drop a = p ++ q.take (j - p.length) := by rw [h, List.take_append, List.take_of_length_le h1]
    exact .inr ⟨h1, by rw [List.length_append] at hj; omega, e, step_put e⟩
theorem rNum_part {n : Int} (h : l.drop a = (Vi.putI n).take j) (hj : j < (Vi.putI n).length) (ha : a ≤ l.length) (hn : okI n) : (rNum l ((a : Int), 0)).2 = (0, 10) := by
  unfold rNum
  rw [take_ok, Vi.getI_part h hj ha hn]
theorem rText_part {s : List UInt8} (h : l.drop a = (Vi.putS s).take j) (hj : j < (Vi.putS s).length) (ha : a ≤ l.length) (hs : s.length ≤ 64) : (rText l ((a : Int), 0)).2 = (0, 10) := by
  unfold rText
  rw [take_ok, Vi.getS_part h hj ha (by omega) (by omega)]
theorem rList_part {xs : List Int} (h : l.drop a = (Vi.putL xs).take j) (hj : j < (Vi.putL xs).length) (ha : a ≤ l.length) (hs : xs.length ≤ 64) (hok : okIs xs) : (rList l ((a : Int), 0)).2 = (0, 10) := by
  unfold rList
  rw [take_ok, Vi.getL_part h hj ha (by omega) (by omega) hok]
theorem rNum_bad : rNum l (0, 10) = (0, (0, 10)) := take_err (by simp)
theorem rText_bad : rText l (0, 10) = ([], (0, 10)) := take_err (by simp)
theorem rList_bad : rList l (0, 10) = ([], (0, 10)) := take_err (by simp)
theorem len_le {p q : List UInt8} (h : l.drop a = p ++ q) (ha : a ≤ l.length) : a + p.length ≤ l.length := by
  have := congrArg List.length h
  rw [List.length_drop, List.length_append] at this
  omega
theorem rGro_part {x : Gro} (h : l.drop a = (putGro x).take j) (hj : j < (putGro x).length) (ha : a ≤ l.length) (hs : smGro x) : (rGro l ((a : Int), 0)).2 = (0, 10) := by
  unfold putGro at h hj
  unfold rGro
  rcases take_split h hj with ⟨h1, h2⟩ | ⟨h1, h2, h3, h4⟩
  · rw [rText_part h2 h1 ha hs.1, rNum_bad]
  · rw [rText_put h3 hs.1]
    exact rNum_part h4 h2 (len_le h3 ha) hs.2
theorem rSlo_part {x : Slo} (h : l.drop a = (putSlo x).take j) (hj : j < (putSlo x).length) (ha : a ≤ l.length) (hs : smSlo x) : (rSlo l ((a : Int), 0)).2 = (0, 10) := by
  unfold putSlo at h hj
  rw [List.append_assoc] at h hj
  unfold rSlo
  rcases take_split h hj with ⟨h1, h2⟩ | ⟨h1, h2, h3, h4⟩
  · rw [rText_part h2 h1 ha hs.1, rNum_bad, rNum_bad]
  · rw [rText_put h3 hs.1]
    dsimp only
    have ha2 := len_le h3 ha
    rcases take_split h4 h2 with ⟨h5, h6⟩ | ⟨h5, h6, h7, h8⟩
    · rw [rNum_part h6 h5 ha2 hs.2.1, rNum_bad]
    · rw [rNum_put h7 hs.2.1]
      exact rNum_part h8 h6 (len_le h7 ha2) hs.2.2
theorem rPer_part {x : Per} (h : l.drop a = (putPer x).take j) (hj : j < (putPer x).length) (ha : a ≤ l.length) (hs : smPer x) (h64 : x.away.length ≤ 64) : (rPer l ((a : Int), 0)).2 = (0, 10) := by
  unfold putPer at h hj
  unfold rPer
  rcases take_split h hj with ⟨h1, h2⟩ | ⟨h1, h2, h3, h4⟩
  · rw [rText_part h2 h1 ha hs.1, rList_bad]
  · rw [rText_put h3 hs.1]
    exact rList_part h4 h2 (len_le h3 ha) h64 hs.2.1
theorem rLes_part {x : Les} (h : l.drop a = (putLes x).take j) (hj : j < (putLes x).length) (ha : a ≤ l.length) (hs : smLes x) (h64 : x.who.length ≤ 64) (h65 : x.groups.length ≤ 64) : (rLes l ((a : Int), 0)).2 = (0, 10) := by
  unfold putLes at h hj
  rw [List.append_assoc] at h hj
  unfold rLes
  rcases take_split h hj with ⟨h1, h2⟩ | ⟨h1, h2, h3, h4⟩
  · rw [rText_part h2 h1 ha hs.1, rList_bad, rList_bad]
  · rw [rText_put h3 hs.1]
    dsimp only
    have ha2 := len_le h3 ha
    rcases take_split h4 h2 with ⟨h5, h6⟩ | ⟨h5, h6, h7, h8⟩
    · rw [rList_part h6 h5 ha2 h64 hs.2.1, rList_bad]
    · rw [rList_put h7 h64 hs.2.1]
      exact rList_part h8 h6 (len_le h7 ha2) h65 hs.2.2.2.1
theorem rRoo_part {x : Roo} (h : l.drop a = (putRoo x).take j) (hj : j < (putRoo x).length) (ha : a ≤ l.length) (hs : smRoo x) (h64 : x.shut.length ≤ 64) : (rRoo l ((a : Int), 0)).2 = (0, 10) := by
  unfold putRoo at h hj
  rw [List.append_assoc, List.append_assoc] at h hj
  unfold rRoo
  rcases take_split h hj with ⟨h1, h2⟩ | ⟨h1, h2, h3, h4⟩
  · rw [rText_part h2 h1 ha hs.1, rNum_bad, rNum_bad, rList_bad]
  · rw [rText_put h3 hs.1]
    dsimp only
    have ha2 := len_le h3 ha
    rcases take_split h4 h2 with ⟨h5, h6⟩ | ⟨h5, h6, h7, h8⟩
    · rw [rNum_part h6 h5 ha2 hs.2.1, rNum_bad, rList_bad]
    · rw [rNum_put h7 hs.2.1]
      dsimp only
      have ha3 := len_le h7 ha2
      rcases take_split h8 h6 with ⟨h9, hA⟩ | ⟨h9, hA, hB, hC⟩
      · rw [rNum_part hA h9 ha3 hs.2.2.1, rList_bad]
      · rw [rNum_put hB hs.2.2.1]
        exact rList_part hC hA (len_le hB ha3) h64 hs.2.2.2.1
theorem rMany_part {α : Type} {rd : St → α × St} {p : α → List UInt8} : ∀ {xs : List α} {a j : Nat}, (∀ x ∈ xs, ∀ (a : Nat) (r : List UInt8), l.drop a = p x ++ r → rd ((a : Int), 0) = (x, (((a + (p x).length : Nat) : Int), 0))) →
    (∀ x ∈ xs, ∀ (a j : Nat), l.drop a = (p x).take j → j < (p x).length → a ≤ l.length → (rd ((a : Int), 0)).2 = (0, 10)) → l.drop a = (xs.flatMap p).take j → j < (xs.flatMap p).length → a ≤ l.length → (rMany rd xs.length ((a : Int), 0)).2 = (0, 10)
  | [], a, j, _, _, _, hj, _ => by simp at hj
  | x :: xs, a, j, hp, hq, h, hj, ha => by
    rw [List.flatMap_cons] at h hj
    rw [List.length_cons, rMany_go rfl]
    rcases take_split h hj with ⟨h1, h2⟩ | ⟨h1, h2, h3, h4⟩
    · rw [hq x (by simp) a j h2 h1 ha, rMany_stop (.inr (by simp))]
    · rw [hp x (by simp) a _ h3]
      exact rMany_part (fun y hy => hp y (by simp [hy])) (fun y hy => hq y (by simp [hy])) h4 h2 (len_le h3 ha)
theorem rAll_bad {α : Type} {rd : St → α × St} {most : Int} : (rAll l most rd (0, 10)).2 = (0, 10) := by
  unfold rAll rCount
  rw [rNum_bad]
  dsimp only
  rw [if_neg (by simp)]
  dsimp only
  rw [rMany_stop (.inr (by simp))]
theorem rAll_part {α : Type} {rd : St → α × St} {p : α → List UInt8} {xs : List α} {most : Int} (hp : ∀ x ∈ xs, ∀ (a : Nat) (r : List UInt8), l.drop a = p x ++ r → rd ((a : Int), 0) = (x, (((a + (p x).length : Nat) : Int), 0)))
    (hq : ∀ x ∈ xs, ∀ (a j : Nat), l.drop a = (p x).take j → j < (p x).length → a ≤ l.length → (rd ((a : Int), 0)).2 = (0, 10)) (hm : (xs.length : Int) ≤ most) (hl : xs.length ≤ 1000) (h : l.drop a = (putA p xs).take j) (hj : j < (putA p xs).length) (ha : a ≤ l.length) : (rAll l most rd ((a : Int), 0)).2 = (0, 10) := by
  unfold putA at h hj
  have ok : okI (xs.length : Int) := by unfold okI; omega
  rcases take_split h hj with ⟨h1, h2⟩ | ⟨h1, h2, h3, h4⟩
  · have e := rNum_part h2 h1 ha ok
    unfold rAll rCount
    rw [e]
    dsimp only
    rw [if_neg (by simp)]
    rw [e, rMany_stop (.inr (by simp))]
  · have e1 := rNum_put h3 ok
    have e3 : rCount l most ((a : Int), 0) = ((xs.length : Int), (((a + (Vi.putI xs.length).length : Nat) : Int), 0)) := by
      unfold rCount
      rw [e1]
      dsimp only
      rw [if_pos rfl, if_neg (by omega), if_neg (by omega)]
    unfold rAll
    rw [e3]
    dsimp only
    rw [Int.toNat_natCast]
    exact rMany_part hp hq h4 h2 (len_le h3 ha)
end
/-- A proper prefix is short. -/
theorem getR_part {s : Sch} (h : chk s = 0) {j : Nat} (hj : j < (putB s).length) : getR ((putB s).take j) = (noSch, 10) := by
  obtain ⟨⟨z1, z2, z3, z4, z5⟩, k1, k2, k3⟩ := bounds_of h
  have hs := small_of h
  obtain ⟨l, hl⟩ : ∃ l, l = (putB s).take j := ⟨_, rfl⟩
  rw [← hl]
  have hfin : (g5 l).2 = (0, 10) → getR l = (noSch, 10) := fun e => by
    have e3 : gE l = 10 := by
      unfold gE
      rw [e, if_neg (by simp)]
    unfold getR
    rw [e3, if_pos (by simp)]
  apply hfin
  have d0 : l.drop 0 = (putB s).take j := by rw [List.drop_zero, hl]
  unfold putB at d0 hj
  simp only [List.append_assoc] at d0 hj
  have b5 : (g4 l).2 = (0, 10) → (g5 l).2 = (0, 10) := fun e => by unfold g5; rw [e]; exact rAll_bad
  have b4 : (g3 l).2 = (0, 10) → (g4 l).2 = (0, 10) := fun e => by unfold g4; rw [e]; exact rAll_bad
  have b3 : (g2 l).2 = (0, 10) → (g3 l).2 = (0, 10) := fun e => by unfold g3; rw [e]; exact rAll_bad
  have b2 : (g1 l).2 = (0, 10) → (g2 l).2 = (0, 10) := fun e => by unfold g2; rw [e]; exact rAll_bad
  have p1 := fun (x : Slo) (hx : x ∈ s.slots) (a : Nat) (r : List UInt8) (h : l.drop a = putSlo x ++ r) => rSlo_put h (hs.slots x hx)
  have p2 := fun (x : Roo) (hx : x ∈ s.rooms) (a : Nat) (r : List UInt8) (h : l.drop a = putRoo x ++ r) => rRoo_put h (hs.rooms x hx) (k1 x hx)
  have p3 := fun (x : Per) (hx : x ∈ s.people) (a : Nat) (r : List UInt8) (h : l.drop a = putPer x ++ r) => rPer_put h (hs.people x hx) (k2 x hx)
  have p4 := fun (x : Gro) (hx : x ∈ s.groups) (a : Nat) (r : List UInt8) (h : l.drop a = putGro x ++ r) => rGro_put h (hs.groups x hx)
  have p5 := fun (x : Les) (hx : x ∈ s.lessons) (a : Nat) (r : List UInt8) (h : l.drop a = putLes x ++ r) => rLes_put h (hs.lessons x hx) (k3 x hx).1 (k3 x hx).2
  rcases take_split d0 hj with ⟨h1, h2⟩ | ⟨h1, h2, h3, h4⟩
  · have e0 := rAll_part (most := 50) p1 (fun x hx a j h hj ha => rSlo_part h hj ha (hs.slots x hx)) (by omega) (by omega) h2 h1 (by omega)
    exact b5 (b4 (b3 (b2 e0)))
  · have e1 := rAll_put p1 (most := 50) (by omega) (by omega) h3
    have q1 := (show g1 l = rAll l 50 (rSlo l) (0, 0) from rfl).trans e1
    have a1 := len_le h3 (by omega)
    rcases take_split h4 h2 with ⟨i1, i2⟩ | ⟨i1, i2, i3, i4⟩
    · refine b5 (b4 (b3 ?_))
      unfold g2; rw [q1]
      exact rAll_part p2 (fun x hx a j h hj ha => rRoo_part h hj ha (hs.rooms x hx) (k1 x hx)) (by omega) (by omega) i2 i1 a1
    · have e2 := rAll_put p2 (most := 32) (by omega) (by omega) i3
      have q2 := show g2 l = rAll l 32 (rRoo l) (g1 l).2 from rfl
      rw [q1] at q2
      replace q2 := q2.trans e2
      have a2 := len_le i3 a1
      rcases take_split i4 i2 with ⟨m1, m2⟩ | ⟨m1, m2, m3, m4⟩
      · refine b5 (b4 ?_)
        unfold g3; rw [q2]
        exact rAll_part p3 (fun x hx a j h hj ha => rPer_part h hj ha (hs.people x hx) (k2 x hx)) (by omega) (by omega) m2 m1 a2
      · have e3 := rAll_put p3 (most := 64) (by omega) (by omega) m3
        have q3 := show g3 l = rAll l 64 (rPer l) (g2 l).2 from rfl
        rw [q2] at q3
        replace q3 := q3.trans e3
        have a3 := len_le m3 a2
        rcases take_split m4 m2 with ⟨n1, n2⟩ | ⟨n1, n2, n3, n4⟩
        · refine b5 ?_
          unfold g4; rw [q3]
          exact rAll_part p4 (fun x hx a j h hj ha => rGro_part h hj ha (hs.groups x hx)) (by omega) (by omega) n2 n1 a3
        · have e4 := rAll_put p4 (most := 64) (by omega) (by omega) n3
          have q4 := show g4 l = rAll l 64 (rGro l) (g3 l).2 from rfl
          rw [q3] at q4
          replace q4 := q4.trans e4
          unfold g5; rw [q4]
          exact rAll_part p5 (fun x hx a j h hj ha => rLes_part h hj ha (hs.lessons x hx) (k3 x hx).1 (k3 x hx).2) (by omega) (by omega) n4 n2 (len_le n3 a3)
end Go.Proofs.YtfockoihmoljfaaGreatDoor.Sc

