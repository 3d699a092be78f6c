/-
  Weeks as bytes: plain laws, no program in sight.
-/
import Derived.Test.YtojbjaklngdlcaaGreatDoorCodecI
import Derived.Test.YtojbjaklngdlcaaGreatDoorLotA
namespace Go.Proofs.YtojbjaklngdlcaaGreatDoor.Vi

def pairB (p : Pl) : List UInt8 := putI p.1 ++ putI p.2
/-- The bytes of a week. -/
def putW (ps : List Pl) : List UInt8 := putI ps.length ++ ps.flatMap pairB
/-- n places from an offset on. -/
def getP (l : List UInt8) : Nat → Int → List Pl → List Pl × Int × Int
  | 0, a, acc => (acc, a, 0)
  | n + 1, a, acc =>
    if (getI l a).2.2 ≠ 0 then ([], 0, (getI l a).2.2)
    else if (getI l (getI l a).2.1).2.2 ≠ 0 then ([], 0, (getI l (getI l a).2.1).2.2)
    else getP l n (getI l (getI l a).2.1).2.1 (acc ++ [((getI l a).1, (getI l (getI l a).2.1).1)])
/-- What week.Get answers. -/
def getW (l : List UInt8) (a : Int) : List Pl × Int × Int :=
  if (cnt l a 64).2.2 ≠ 0 then ([], 0, (cnt l a 64).2.2) else getP l (cnt l a 64).1.toNat (cnt l a 64).2.1 []

theorem pairB_len {p : Pl} (h : okI p.1 ∧ okI p.2) : (pairB p).length ≤ 20 := by
  have h1 := putI_len h.1
  have h2 := putI_len h.2
  unfold pairB
  rw [List.length_append]
  omega
theorem pairs_len {ps : List Pl} (h : okPs ps) : (ps.flatMap pairB).length ≤ 20 * ps.length := by
  induction ps with
  | nil => simp
  | cons p r ih =>
    have h1 := pairB_len (h p (List.mem_cons_self ..))
    have h2 := ih (fun z hz => h z (List.mem_cons_of_mem _ hz))
    rw [List.flatMap_cons, List.length_append, List.length_cons]
    omega
theorem putW_len {ps : List Pl} (h : okPs ps) (hn : ps.length ≤ 9223372036854775807) : (putW ps).length ≤ 20 * ps.length + 10 := by
  have h1 := putI_len (n := (ps.length : Int)) (by omega)
  have h2 := pairs_len h
  unfold putW
  rw [List.length_append]
  omega

theorem getP_put {l : List UInt8} : ∀ (xs : List Pl) (a : Nat) (acc : List Pl) (r : List UInt8), l.drop a = xs.flatMap pairB ++ r → okPs xs → getP l xs.length (a : Int) acc = (acc ++ xs, (a : Int) + (xs.flatMap pairB).length, 0)
  | [], a, acc, r, _, _ => by simp [getP]
  | x :: xs, a, acc, r, h, hok => by
    rw [List.flatMap_cons] at h
    have hx := hok x (by simp)
    have h0 : l.drop a = putI x.1 ++ (putI x.2 ++ (xs.flatMap pairB ++ r)) := by rw [h]; simp [pairB]
    have g1 := getI_put h0 hx.1
    have h1 : l.drop (a + (putI x.1).length) = putI x.2 ++ (xs.flatMap pairB ++ r) := by rw [← List.drop_drop, h0, List.drop_left]
    have g2 := getI_put h1 hx.2
    have h2 : l.drop (a + (putI x.1).length + (putI x.2).length) = xs.flatMap pairB ++ r := by rw [← List.drop_drop, h1, List.drop_left]
    have := getP_put xs (a + (putI x.1).length + (putI x.2).length) (acc ++ [x]) r h2 (fun z hz => hok z (by simp [hz]))
    simp only [List.length_cons, getP]
    rw [g1]
    dsimp only
    rw [if_neg (by simp), show ((a : Int) + ((putI x.1).length : Nat)) = ((a + (putI x.1).length : Nat) : Int) by omega, g2]
    dsimp only
    rw [if_neg (by simp), show (((a + (putI x.1).length : Nat) : Int) + ((putI x.2).length : Nat)) = ((a + (putI x.1).length + (putI x.2).length : Nat) : Int) by omega, this]
    simp [pairB]
    omega
theorem getW_put {l r : List UInt8} {ps : List Pl} {a : Nat} (h : l.drop a = putW ps ++ r) (hn : ps.length ≤ 64) (hok : okPs ps) : getW l (a : Int) = (ps, (a : Int) + (putW ps).length, 0) := by
  unfold putW at h
  rw [List.append_assoc] at h
  unfold getW
  rw [cnt_put (n := ps.length) h (by omega) (by omega)]
  dsimp only
  rw [if_neg (by simp)]
  have h2 : l.drop (a + (putI ps.length).length) = ps.flatMap pairB ++ r := by rw [← List.drop_drop, h, List.drop_left]
  rw [show ((a : Int) + ((putI ps.length).length : Nat)) = ((a + (putI ps.length).length : Nat) : Int) by omega, Int.toNat_natCast, getP_put ps _ [] r h2 hok]
  unfold putW
  simp [Int.add_assoc]
theorem getP_canon {l : List UInt8} : ∀ (n : Nat) (p : Int) (acc : List Pl), (getP l n p acc).2.2 = 0 → 0 ≤ p → p ≤ l.length → okPs acc →
    ∃ ys, (getP l n p acc).1 = acc ++ ys ∧ ys.length = n ∧ okPs (acc ++ ys) ∧ l.drop p.toNat = ys.flatMap pairB ++ l.drop (getP l n p acc).2.1.toNat ∧ (getP l n p acc).2.1 = p + (ys.flatMap pairB).length ∧ (getP l n p acc).2.1 ≤ l.length
  | 0, p, acc, _, hp, hp2, ha => ⟨[], by simp [getP], rfl, by simpa using ha, by simp [getP], by simp [getP], by simpa [getP] using hp2⟩
  | n + 1, p, acc, h, hp, hp2, ha => by
    simp only [getP] at h ⊢
    split at h
    · rename_i h'; exact absurd h h'
    · rename_i h'
      rw [if_neg h']
      split at h
      · rename_i h''; exact absurd h h''
      · rename_i h''
        rw [if_neg h'']
        have h0 : (getI l p).2.2 = 0 := by simpa using h'
        have h1 : (getI l (getI l p).2.1).2.2 = 0 := by simpa using h''
        have hb := getI_ok h0
        have hb' := getI_ok h1
        obtain ⟨c1, c2⟩ := getI_canon h0
        obtain ⟨d1, d2⟩ := getI_canon h1
        have hok : okPs (acc ++ [((getI l p).1, (getI l (getI l p).2.1).1)]) := fun z hz => by
          rcases List.mem_append.1 hz with hz | hz
          · exact ha z hz
          · simp at hz; subst hz; exact ⟨hb.2.2.2.2, hb'.2.2.2.2⟩
        obtain ⟨ys, y1, y2, y3, y4, y5, y6⟩ := getP_canon n _ _ h (by omega) (by omega) hok
        refine ⟨((getI l p).1, (getI l (getI l p).2.1).1) :: ys, by rw [y1]; simp, by simp [y2], by simpa using y3, ?_, ?_, y6⟩
        · rw [List.flatMap_cons, List.append_assoc, ← y4, c1, d1]; simp [pairB]
        · rw [List.flatMap_cons, List.length_append, y5]; simp only [pairB, List.length_append]; omega
/-- What was got is what would be put. -/
theorem getW_canon {l : List UInt8} {a : Int} (h : (getW l a).2.2 = 0) : 0 ≤ a ∧ l.drop a.toNat = putW (getW l a).1 ++ l.drop (getW l a).2.1.toNat ∧ (getW l a).2.1 = a + (putW (getW l a).1).length ∧ (getW l a).1.length ≤ 64 ∧ (getW l a).2.1 ≤ l.length ∧ okPs (getW l a).1 ∧ a < (getW l a).2.1 := by
  unfold getW at *
  split at h
  · rename_i h'; exact absurd h h'
  · rename_i h'
    rw [if_neg h']
    obtain ⟨e, e0, e1, e2⟩ := cnt_canon (l := l) (a := a) (most := 64) (by simpa using h')
    rw [e] at h ⊢
    have hb := getI_ok e0
    obtain ⟨hc, hd⟩ := getI_canon e0
    obtain ⟨ys, y1, y2, y3, y4, y5, y6⟩ := getP_canon _ _ [] h (by omega) (by omega) (by simp [okPs])
    rw [List.nil_append] at y1 y3
    rw [y1]
    have hn : ((ys.length : Nat) : Int) = (getI l a).1 := by omega
    unfold putW
    rw [hn]
    refine ⟨by omega, ?_, ?_, by omega, y6, y3, by omega⟩
    · rw [List.append_assoc, ← y4]; exact hc
    · rw [List.length_append, y5]; omega
theorem getP_err (l : List UInt8) : ∀ (n : Nat) (p : Int) (acc : List Pl), (getP l n p acc).2.2 ≠ 0 → getP l n p acc = ([], 0, (getP l n p acc).2.2)
  | 0, _, _, h => by simp [getP] at h
  | n + 1, p, acc, h => by
    simp only [getP] at h ⊢
    split
    · rfl
    · rename_i h1
      rw [if_neg h1] at h
      split
      · rfl
      · rename_i h2
        rw [if_neg h2] at h
        exact getP_err l n _ _ h
theorem getW_err {l : List UInt8} {a : Int} (h : (getW l a).2.2 ≠ 0) : getW l a = ([], 0, (getW l a).2.2) := by
  unfold getW at *
  split
  · rfl
  · rename_i h'
    rw [if_neg h'] at h
    exact getP_err _ _ _ _ h
/-- Too many places. -/
theorem getW_big {l r : List UInt8} {ps : List Pl} {a : Nat} (h : l.drop a = putW ps ++ r) (hn : 64 < ps.length) (hn2 : ps.length ≤ 9223372036854775807) : getW l (a : Int) = ([], 0, 2) := by
  unfold putW at h
  rw [List.append_assoc] at h
  have := getI_put h (by omega)
  have hc : cnt l (a : Int) 64 = (0, 0, 2) := by
    unfold cnt
    rw [this]
    dsimp only
    rw [if_neg (by simp), if_neg (by omega), if_pos (by omega)]
  unfold getW
  rw [hc]
  simp
end Go.Proofs.YtojbjaklngdlcaaGreatDoor.Vi
