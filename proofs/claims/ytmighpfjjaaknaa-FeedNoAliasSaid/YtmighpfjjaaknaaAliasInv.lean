/-
  The copies that FeedNoAlias keeps.
-/
import Derived.Test.YtmighpfjjaaknaaMonInv
namespace Go.Proofs.Ytmighpfjjaaknaa
open Go.RowKit
set_option linter.unusedVariables false
set_option linter.unusedSimpArgs false

theorem pv_set1 (x : List Pl) (i : Nat) (z : Int) (hi : i < x.length) : (pv x).set (i * 2) (.int .i64 z) = pv (x.set i (z, x[i].2)) := by
  induction x generalizing i with
  | nil => simp at hi
  | cons p r ih =>
    cases i with
    | zero => simp [pv, pcell]
    | succ i =>
      have := ih i (by simpa using hi)
      rw [show (i + 1) * 2 = i * 2 + 2 by omega]
      simp only [pv, List.flatMap_cons, pcell, List.cons_append, List.nil_append, List.set_cons_succ, List.getElem_cons_succ] at this ⊢
      rw [this]
theorem elW : ElK Try.prog 1 58 25 (.agg #[.slice none 0 0]) 24 := ⟨Try.underlying58, by kernel_rfl, rfl, by omega⟩
structure WasMem (B : Nat) (wr : World) (sv : Value) (ws : List (List Pl × Value)) : Prop where
  row : wr.ownsRow B 25 1 sv ws.length (ws.map (·.2))
  each : ∀ x ∈ ws, wr.ownsRow B 60 2 x.2 x.1.length (pv x.1) ∧ okPs x.1
theorem WasMem.below {B : Nat} {wr w' : World} {sv : Value} {ws : List (List Pl × Value)} (h : WasMem B wr sv ws) (hb : Below wr.heap.size wr w') : WasMem B w' sv ws :=
  ⟨own_below h.row hb, fun x hx => ⟨own_below (h.each x hx).1 hb, (h.each x hx).2⟩⟩
theorem WasMem.app {B : Nat} {wr w' : World} {sv sv' : Value} {ws : List (List Pl × Value)} {x : List Pl × Value} (h : WasMem B wr sv ws) (hg : wr.grownBy w' sv.ownBlock)
    (hrow : w'.ownsRow B 25 1 sv' (ws.length + 1) (ws.map (·.2) ++ [x.2])) (h1 : wr.ownsRow B 60 2 x.2 x.1.length (pv x.1)) (hok : okPs x.1) : WasMem B w' sv' (ws ++ [x]) := by
  have key : ∀ {e size n : Nat} {v : Value} {xs : List Value}, wr.ownsRow B e size v n xs → e ≠ 25 → w'.ownsRow B e size v n xs := fun {e size n v xs} ho hne =>
    own_grown' ho hg (fun g hg' hgr => by
      rcases own_apart ho h.row hne with h' | h'
      · rw [h'] at hg'; cases hg'
      · exact h' (hg'.trans hgr))
  refine ⟨?_, fun y hy => ?_⟩
  · rw [List.length_append, List.map_append]
    simpa using hrow
  · rcases List.mem_append.1 hy with hy | hy
    · exact ⟨key (h.each y hy).1 (by decide), (h.each y hy).2⟩
    · rw [List.mem_singleton] at hy
      subst hy
      exact ⟨key h1 (by decide), hok⟩
theorem WasMem.at_ {B : Nat} {wr : World} {As : Option Addr} {ms ks : Nat} {ws : List (List Pl × Value)} (h : WasMem B wr (.slice As ms ks) ws) {q : Nat} (hq : q < ms) (hql : q < ws.length) :
    ∃ ad A' c', As = some ad ∧ ad.block < wr.heap.size ∧ wr.cell? (ad.add q) = some (.slice A' ws[q].1.length c') ∧ RdP wr wr.heap.size A' ws[q].1.length c' ws[q].1 := by
  obtain ⟨A, c, e, hr⟩ := own_rdK h.row
  injection e with e1 e2 e3
  subst e1 e2 e3
  obtain ⟨ad, e, hb, hc⟩ := hr.2.2.2 (by omega)
  have h0 := hc q _ (by rw [List.getElem?_map, List.getElem?_eq_getElem hql]; rfl)
  have hx := h.each _ (List.getElem_mem hql)
  obtain ⟨A', c', e', hrd⟩ := own_rdP hx.1 hx.2
  dsimp only at h0
  rw [e'] at h0
  exact ⟨ad, A', c', e, hb, h0, hrd⟩
end Go.Proofs.Ytmighpfjjaaknaa
