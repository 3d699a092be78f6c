/-
  Words for blocks and rows, over whatever program.
-/
import Derived.Test.YtfacdoemgalodaaPlaces
import Derived.Test.YtfacdoemgalodaaRange
namespace Go.Proofs.Ytfacdoemgalodaa
open Go.RowKit
set_option linter.unusedSimpArgs false
set_option linter.unusedVariables false
theorem blk_below {w w' : World} {b : Nat} {o : Obj} (h : w.heap[b]? = some o) (hb : Below w.heap.size w w') : w'.heap[b]? = some o := (hb.block b (Array.getElem?_eq_some_iff.1 h).1).trans h
theorem blk_new {w W : World} {o : Obj} (h : W = w.alloc o) : W.heap[w.heap.size]? = some o := by rw [h]; exact heap_alloc_new _ _
theorem below_new {w W : World} {o : Obj} (h : W = w.alloc o) : Below w.heap.size w W := by rw [h]; exact (Below.refl _ _).alloc (Nat.le_refl _) _
theorem blk_lt {w : World} {b : Nat} {o : Obj} (h : w.heap[b]? = some o) : b < w.heap.size := (Array.getElem?_eq_some_iff.1 h).1
theorem blk_cell {w : World} {b j : Nat} {cs : Array Value} {t : TypeId} {fr : Nat × Nat} (h : w.heap[b]? = some (.cells cs t fr)) : w.cell? ⟨b, j, none⟩ = cs[j]? := cell_of_row w b j _ _ _ h
theorem blk_set {w : World} {b k : Nat} {cs : Array Value} {t : TypeId} (v : Value) (h : w.heap[b]? = some (.cells cs t)) : (w.setCell ⟨b, k, none⟩ v).heap[b]? = some (.cells (cs.setIfInBounds k v) t) := heap_setCell_same w b k _ _ v h
theorem blk_other {w : World} {b : Nat} {p : Addr} {o : Obj} (v : Value) (h : w.heap[b]? = some o) (hne : p.block ≠ b) : (w.setCell p v).heap[b]? = some o := (heap_setCell_other w p b v (fun e => hne e.symm)).trans h
theorem blk_frozen {w : World} {b : Nat} (j : Nat) {cs : Array Value} {t : TypeId} (h : w.heap[b]? = some (.cells cs t)) : w.frozen? ⟨b, j, none⟩ = false := frozen_of_row w b j cs t h
theorem results_cell_row2 {P : Program} {fn : Func} {p q : Tmp} {ty : TypeId} (h : fn.results = #[.cell p ty, .tmp q]) (tmps : Array Value) (w : World) (g : Nat) (t : TypeId) (cs : Array Value) (fr : Nat × Nat) (d : TypeDesc)
    (hp : tmps.getD p undef = .pointer (some ⟨g, 0, none⟩)) (hg : w.heap[g]? = some (.cells cs t fr))
    (hu : P.underlying ty = some d) (hd : (match d with | .struct _ | .array _ _ => true | _ => false) = true) (hi : (P.info? ty).map (·.size) = some cs.size) :
    (results fn tmps).run P w = .ok (.tuple #[.agg cs, tmps.getD q undef]) w := by
  have hp' : tmps[p]?.getD undef = .pointer (some ⟨g, 0, none⟩) := by simpa using hp
  simp [results, h, hp', asAddr, run_loadVar_row w g t ty cs fr d hg hu hd hi]
theorem results_cell_row3 {P : Program} {fn : Func} {p q r : Tmp} {ty : TypeId} (h : fn.results = #[.cell p ty, .tmp q, .tmp r]) (tmps : Array Value) (w : World) (g : Nat) (t : TypeId) (cs : Array Value) (fr : Nat × Nat) (d : TypeDesc)
    (hp : tmps.getD p undef = .pointer (some ⟨g, 0, none⟩)) (hg : w.heap[g]? = some (.cells cs t fr))
    (hu : P.underlying ty = some d) (hd : (match d with | .struct _ | .array _ _ => true | _ => false) = true) (hi : (P.info? ty).map (·.size) = some cs.size) :
    (results fn tmps).run P w = .ok (.tuple #[.agg cs, tmps.getD q undef, tmps.getD r undef]) w := by
  have hp' : tmps[p]?.getD undef = .pointer (some ⟨g, 0, none⟩) := by simpa using hp
  simp [results, h, hp', asAddr, run_loadVar_row w g t ty cs fr d hg hu hd hi]
theorem blk_grown {w w' : World} {b : Nat} {o : Obj} {r : Option Nat} (h : w.heap[b]? = some o) (hg : w.grownBy w' r) (hne : some b ≠ r) : w'.heap[b]? = some o := (hg.block b (blk_lt h) hne).trans h
theorem Rd.blk {w : World} {b : Nat} {cs : Array Value} {t : TypeId} {fr : Nat × Nat} {n : Nat} (h : w.heap[b]? = some (.cells cs t fr)) (hn : cs.size = n) (hm : n ≤ 9223372036854775807) : Rd w w.heap.size (some ⟨b, 0, none⟩) n n cs.toList :=
  ⟨by simpa using hn, Nat.le_refl _, by unfold maxLen; omega, fun _ => ⟨_, rfl, (Array.getElem?_eq_some_iff.1 h).1, fun j u hu => by
    rw [add_lit0, cell_of_row w b j cs t fr h]
    simpa using hu⟩⟩
theorem RdK.blk (k : Nat) {w : World} {b : Nat} {cs : Array Value} {t : TypeId} {fr : Nat × Nat} {n : Nat} (h : w.heap[b]? = some (.cells cs t fr)) (hn : cs.size = n * k) (hm : n ≤ 9223372036854775807) : RdK k w w.heap.size (some ⟨b, 0, none⟩) n n cs.toList :=
  ⟨by simpa using hn, Nat.le_refl _, by unfold maxLen; omega, fun _ => ⟨_, rfl, (Array.getElem?_eq_some_iff.1 h).1, fun j u hu => by
    rw [add_lit0, cell_of_row w b j cs t fr h]
    simpa using hu⟩⟩
theorem own_set {w : World} {base e size n : Nat} {v u : Value} {xs : List Value} (h : w.ownsRow base e size v n xs) {p : Addr} (hp : ∀ g, v.ownBlock = some g → p.block ≠ g) : (w.setCell p u).ownsRow base e size v n xs := by
  refine ⟨h.1, ?_⟩
  rcases h.2 with hn0 | ⟨g, cap, cur, rfl, e2, e3, e4⟩
  · exact .inl hn0
  · exact .inr ⟨g, cap, cur, rfl, e2, (heap_setCell_other w _ g _ (fun e => hp g rfl (by simpa [eq_comm] using e))).trans e3, e4⟩
theorem own_blk_ne {w : World} {B e size n bC : Nat} {v : Value} {xs : List Value} {cs : Array Value} {t : TypeId} {fr : Nat × Nat} (h : w.ownsRow B e size v n xs) (hb : w.heap[bC]? = some (.cells cs t fr)) (hne : e ≠ t) : ∀ g, v.ownBlock = some g → bC ≠ g := by
  intro g hg e'
  subst e'
  rcases h.2 with ⟨rfl, _⟩ | ⟨g', cap, cur, rfl, _, hg', _⟩
  · simp [Value.ownBlock] at hg
  · simp [Value.ownBlock] at hg
    subst hg
    rw [hb] at hg'
    injection hg' with hg'
    injection hg' with _ h2 _
    exact hne h2.symm
theorem grown_then {w w' w'' : World} {r r' : Option Nat} (h1 : w.grownBy w' r) (h2 : w'.grownBy w'' r') (hr : ∀ g, r' = some g → w.heap.size ≤ g) : w.grownBy w'' r :=
  ⟨h2.os.trans h1.os, h2.tape.trans h1.tape, h2.output.trans h1.output, Nat.le_trans h1.size h2.size, fun k hk hne => (h2.block k (Nat.lt_of_lt_of_le hk h1.size) (fun e => by have := hr k e.symm; omega)).trans (h1.block k hk hne)⟩
theorem own_some_lt {w : World} {B e size n g c k : Nat} {xs : List Value} (h : w.ownsRow B e size (.slice (some ⟨g, 0, none⟩) n c) k xs) : g < w.heap.size := by
  rcases h.2 with ⟨h1, _⟩ | ⟨g', cap, cur, h1, _, hg', _⟩
  · cases h1
  · injection h1 with h1
    injection h1 with h1
    injection h1 with h1
    subst h1
    exact (Array.getElem?_eq_some_iff.1 hg').1
theorem own_cell {w : World} {B e size n g c : Nat} {xs : List Value} (h : w.ownsRow B e size (.slice (some ⟨g, 0, none⟩) n c) n xs) {j : Nat} (hj : j < n * size) : ∃ u, w.cell? ⟨g, j, none⟩ = some u := by
  have hx := h.cellAt j (by omega)
  rw [List.getElem?_eq_getElem (by have : xs.length = n * size := h.1; omega)] at hx
  exact ⟨_, hx⟩
theorem grown_of_below {w w' : World} {r : Option Nat} (hb : Below w.heap.size w w') : w.grownBy w' r := ⟨hb.os, hb.tape, hb.output, hb.size, fun k hk _ => hb.block k hk⟩
theorem grown_set {w w' : World} {b i : Nat} {v : Value} (hg : w.grownBy w' (some b)) : w.grownBy (w'.setCell ⟨b, i, none⟩ v) (some b) :=
  ⟨hg.os, hg.tape, hg.output, by simpa [World.setCell] using hg.size, fun k hk hne => (heap_setCell_other w' _ k v (fun e => hne (by rw [e]))).trans (hg.block k hk hne)⟩
theorem grown_set_new {w w' : World} {r : Option Nat} {p : Addr} {v : Value} (hg : w.grownBy w' r) (hp : w.heap.size ≤ p.block) : w.grownBy (w'.setCell p v) r :=
  ⟨hg.os, hg.tape, hg.output, by simpa [World.setCell] using hg.size, fun k hk hne => (heap_setCell_other w' _ k v (by omega)).trans (hg.block k hk hne)⟩
theorem grown_trans {w w' w'' : World} {r : Option Nat} (h1 : w.grownBy w' r) (h2 : w'.grownBy w'' r) : w.grownBy w'' r :=
  ⟨h2.os.trans h1.os, h2.tape.trans h1.tape, h2.output.trans h1.output, Nat.le_trans h1.size h2.size, fun k hk hne => (h2.block k (Nat.lt_of_lt_of_le hk h1.size) hne).trans (h1.block k hk hne)⟩
theorem own_grown' {w w' : World} {B e size n : Nat} {v : Value} {xs : List Value} {r : Option Nat} (h : w.ownsRow B e size v n xs) (hg : w.grownBy w' r) (hne : ∀ g, v.ownBlock = some g → some g ≠ r) : w'.ownsRow B e size v n xs := by
  refine ⟨h.1, ?_⟩
  rcases h.2 with hn | ⟨g, cap, cur, rfl, hbg, hgg, rest⟩
  · exact .inl hn
  · exact .inr ⟨g, cap, cur, rfl, hbg, (hg.block g (Array.getElem?_eq_some_iff.1 hgg).1 (hne g rfl)).trans hgg, rest⟩
theorem own_rdP {w : World} {base n : Nat} {e : TypeId} {v : Value} {l : List Pl} (h : w.ownsRow base e 2 v n (pv l)) (hl : okPs l) : ∃ A c, v = .slice A n c ∧ RdP w w.heap.size A n c l := by
  obtain ⟨A, c, h1, h2⟩ := own_rdK h
  exact ⟨A, c, h1, h2, hl⟩
theorem pv_length (l : List Pl) : (pv l).length = l.length * 2 := flat_length pcell_length l
end Go.Proofs.Ytfacdoemgalodaa
