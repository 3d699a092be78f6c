/-
  A changed byte of a frame, outside its length, is told: plain laws.
-/
import Derived.Test.YtfacdoemgalodaaBackP
import Derived.Test.YtfacdoemgalodaaSealJoins
import Derived.Test.YtfacdoemgalodaaJLaws
namespace Go.Proofs.Ytfacdoemgalodaa
set_option linter.unusedVariables false

theorem crc_one (y : List UInt8) (k : Nat) (to : UInt8) (hk : k < y.length) (hne : y[k] ≠ to) : Crc.crc (y.set k to) ≠ Crc.crc y := by
  intro h
  have e1 : y.set k to = y.take k ++ [to] ++ y.drop (k + 1) := by
    rw [List.set_eq_take_append_cons_drop, if_pos hk]; simp
  have e2 : y = y.take k ++ [y[k]] ++ y.drop (k + 1) := by
    simp
  rw [e1] at h
  have h2 : Crc.crc (y.take k ++ [to] ++ y.drop (k + 1)) = Crc.crc (y.take k ++ [y[k]] ++ y.drop (k + 1)) := by rw [h, ← e2]
  have h3 := Crc.crc_burst (y.take k) [to] [y[k]] (y.drop (k + 1)) rfl (by simp) h2
  simp at h3
  exact hne h3.symm

/-- A frame with one byte of its checksum or payload spoilt is refused for its sum. -/
theorem open_spoilt (l : List UInt8) (p : Nat) (y s : List UInt8) (k : Nat) (to : UInt8) (hy : y.length ≤ 65536) (h4 : 4 ≤ k) (hk : k < (frameB y).length) (hne : (frameB y)[k] ≠ to)
    (h : l.drop p = (frameB y).set k to ++ s) : openI l p = ⟨20, [], 0⟩ := by
  have hfl := frameB_length y
  have hl : l.length - p = 8 + y.length + s.length := by rw [← List.length_drop, h]; simp [hfl]
  have e0 : frameB y = four y.length ++ (four (Crc.crc y) ++ y) := by simp [frameB, List.append_assoc]
  have l4 : (four y.length).length = 4 := rfl
  have l4' : (four (Crc.crc y)).length = 4 := rfl
  have eset : (frameB y).set k to = four y.length ++ (four (Crc.crc y) ++ y).set (k - 4) to := by
    rw [e0, List.set_append_right _ _ (by omega), l4]
  have p1 : (l.drop p).take 4 = four y.length := by
    rw [h, eset, List.append_assoc, List.take_append_of_le_length (by omega), List.take_of_length_le (by omega)]
  have p2 : (l.drop p).drop 4 = (four (Crc.crc y) ++ y).set (k - 4) to ++ s := by
    rw [h, eset, List.append_assoc, List.drop_append_of_le_length (by omega), List.drop_of_length_le (by omega), List.nil_append]
  have hne2 : (four (Crc.crc y) ++ y)[k - 4]'(by rw [List.length_append]; omega) ≠ to := by
    intro e
    apply hne
    rw [← e]
    have : (frameB y)[k]? = (four (Crc.crc y) ++ y)[k - 4]? := by
      rw [e0, List.getElem?_append_right (by omega), l4]
    rw [List.getElem?_eq_getElem hk, List.getElem?_eq_getElem (by rw [List.length_append]; omega)] at this
    injection this
  unfold openI
  rw [if_neg (by omega), Int.toNat_natCast]
  unfold openB
  rw [p1, num_four _ (by omega), List.length_drop, hl, if_neg (by omega), if_neg (by omega), if_neg (by omega)]
  rw [if_pos]
  have e8 : (l.drop p).drop 8 = ((l.drop p).drop 4).drop 4 := by simp only [List.drop_drop]
  rw [e8, p2]
  by_cases hk8 : k < 8
  · have es2 : (four (Crc.crc y) ++ y).set (k - 4) to = (four (Crc.crc y)).set (k - 4) to ++ y := by
      rw [List.set_append_left _ _ (by omega)]
    have lset : ((four (Crc.crc y)).set (k - 4) to).length = 4 := by simp [l4']
    rw [es2, List.append_assoc, List.drop_append_of_le_length (by omega), List.drop_of_length_le (by omega), List.nil_append, List.take_append_of_le_length (by omega), List.take_of_length_le (Nat.le_refl _),
      List.take_append_of_le_length (by omega), List.take_of_length_le (by omega)]
    intro hcrc
    have := four_num _ lset
    rw [← hcrc] at this
    have h5 : (four (Crc.crc y))[k - 4]'(by omega) = to := by
      have h6 : (four (Crc.crc y))[k - 4]? = ((four (Crc.crc y)).set (k - 4) to)[k - 4]? := by rw [← this]
      rw [List.getElem?_set_self (by omega), List.getElem?_eq_getElem (by omega)] at h6
      injection h6
    apply hne2
    rw [List.getElem_append_left (by omega)]
    exact h5
  · have es2 : (four (Crc.crc y) ++ y).set (k - 4) to = four (Crc.crc y) ++ y.set (k - 8) to := by
      rw [List.set_append_right _ _ (by omega), l4']
      congr 2
    rw [es2, List.append_assoc, List.drop_append_of_le_length (by omega), List.drop_of_length_le (by omega), List.nil_append, List.take_append_of_le_length (by simp), List.take_of_length_le (by simp),
      List.take_append_of_le_length (by omega), List.take_of_length_le (by omega), num_four _ (Crc.crc_lt y)]
    refine crc_one y (k - 8) to (by omega) ?_
    intro e
    apply hne2
    rw [List.getElem_append_right (by omega)]
    rw [← e]
    congr 1

/-- All in one: frames with one byte behind a length field spoilt. -/
theorem spoilt_all (ls : List (List UInt8)) (hs : ∀ x ∈ ls, x.length ≤ 65536) (m : Nat) (hm : m < ls.length) (a : Nat) (to : UInt8) (ha : a < (framesB ls).length) (h1 : (framesB (ls.take m)).length + 4 ≤ a) (h2 : a < (framesB (ls.take (m + 1))).length) (hne : (framesB ls)[a] ≠ to) :
    ScanOK ((framesB ls).set a to) 0 (scFrom 0 (ls.take m)) ∧ (openI ((framesB ls).set a to) ((framesB (ls.take m)).length : Nat)).err = 20 := by
  have e1 : ls = ls.take m ++ ls[m] :: ls.drop (m + 1) := by simp
  have e2 : framesB ls = framesB (ls.take m) ++ (frameB ls[m] ++ framesB (ls.drop (m + 1))) := by
    conv => lhs; rw [e1]
    rw [framesB_append, framesB_cons]
  have e3 : framesB (ls.take (m + 1)) = framesB (ls.take m) ++ frameB ls[m] := by
    rw [List.take_succ_eq_append_getElem hm, framesB_append]; simp [framesB]
  rw [e3, List.length_append] at h2
  have hy := hs ls[m] (List.getElem_mem hm)
  have e4 : (framesB ls).set a to = framesB (ls.take m) ++ ((frameB ls[m]).set (a - (framesB (ls.take m)).length) to ++ framesB (ls.drop (m + 1))) := by
    rw [e2, List.set_append_right _ _ (by omega), List.set_append_left _ _ (by omega)]
  have hne' : (frameB ls[m])[a - (framesB (ls.take m)).length]'(by omega) ≠ to := by
    intro e
    apply hne
    rw [← e]
    have : (framesB ls)[a]? = (frameB ls[m])[a - (framesB (ls.take m)).length]? := by
      rw [e2, List.getElem?_append_right (by omega), List.getElem?_append_left (by omega)]
    rw [List.getElem?_eq_getElem ha, List.getElem?_eq_getElem (by omega)] at this
    injection this
  have hdrop : ((framesB ls).set a to).drop (framesB (ls.take m)).length = (frameB ls[m]).set (a - (framesB (ls.take m)).length) to ++ framesB (ls.drop (m + 1)) := by
    rw [e4, List.drop_append_of_le_length (by omega), List.drop_of_length_le (by omega), List.nil_append]
  have ho := open_spoilt _ _ ls[m] _ _ to hy (by omega) (by omega) hne' hdrop
  refine ⟨scan_frames _ (fun x hx => hs x (List.mem_of_mem_take hx)) _ 0 _ (by rw [List.drop_zero]; exact e4) ?_, by rw [ho]⟩
  rw [← hdrop]
  exact noFrame_of_open (by rw [ho]; simp)

namespace Jn
/-- A disk with one byte spoilt, outside the length of its frame, is torn. -/
theorem torn {p q : List Ver} (hg : Good 1 (p ++ q)) (hl : (encB p).length + (encB q).length ≤ 14080) (m : Nat) (hm : m < (p ++ q).length) (a : Nat) (to : UInt8) (ha : a < (encB (p ++ q)).length)
    (h1 : (encB ((p ++ q).take m)).length + 4 ≤ a) (h2 : a < (encB ((p ++ q).take (m + 1))).length) (hne : (encB (p ++ q))[a] ≠ to) :
    (readD (((encB (p ++ q)).set a to).take (encB p).length) (((encB (p ++ q)).set a to).drop (encB p).length)).2.2 = 340 := by
  have hs := recs_small hg.1
  unfold encB at h1 h2
  rw [List.map_take] at h1 h2
  have hsp := (spoilt_all ((p ++ q).map recB) hs m (by rw [List.length_map]; exact hm) a to ha h1 h2 hne).1
  have hpq : (encB (p ++ q)).length = (encB p).length + (encB q).length := by rw [encB_app, List.length_append]
  have hX : framesB ((p ++ q).map recB) = encB (p ++ q) := rfl
  rw [hX] at hsp
  generalize hf : (encB (p ++ q)).set a to = f at *
  have hfl : f.length = (encB p).length + (encB q).length := by rw [← hf, List.length_set, hpq]
  unfold readD
  rw [if_neg (by rw [List.length_take, List.length_drop]; omega)]
  cases h3 : versB (f.take (encB p).length) 1 with
  | none => rfl
  | some x =>
    dsimp only
    cases h4 : versB (f.drop (encB p).length) (1 + x.length) with
    | none => rfl
    | some y =>
      exfalso
      obtain ⟨e1, g1⟩ := versB_iff.1 h3
      obtain ⟨e2, g2⟩ := versB_iff.1 h4
      have hgx : Good 1 (x ++ y) := good_app.2 ⟨g1, g2⟩
      have ef : f = encB (x ++ y) := by rw [encB_app, ← e1, ← e2, List.take_append_drop]
      have hsc := scan_all ((x ++ y).map recB) (recs_small hgx.1)
      have hX2 : framesB ((x ++ y).map recB) = f := ef.symm
      rw [hX2] at hsc
      have hu := scan_unique hsc hsp
      have hlast := scFrom_last0 ((x ++ y).map recB)
      rw [hu, scFrom_last0, hX2] at hlast
      omega
end Jn
/-- The frame that opens at the m-th place. -/
theorem Jn.open_at {vs : List Ver} (h : ∀ v ∈ vs, Jn.okV v) {m : Nat} (hm : m < vs.length) : ∃ b, openI (Jn.encB vs) ((Jn.encB (vs.take m)).length : Nat) = ⟨0, b, (Jn.encB (vs.take (m + 1))).length⟩ ∧ (Jn.encB (vs.take m)).length < (Jn.encB (vs.take (m + 1))).length := by
  have e1 : vs = vs.take m ++ vs[m] :: vs.drop (m + 1) := by simp
  have ev : ∀ v : Ver, ∀ r : List Ver, Jn.encB (v :: r) = frameB (Jn.recB v) ++ Jn.encB r := fun _ _ => rfl
  have e2 : Jn.encB vs = Jn.encB (vs.take m) ++ (frameB (Jn.recB vs[m]) ++ Jn.encB (vs.drop (m + 1))) := by
    conv => lhs; rw [e1]
    rw [Jn.encB_app, ev]
  have e3 : (Jn.encB (vs.take (m + 1))).length = (Jn.encB (vs.take m)).length + 8 + (Jn.recB vs[m]).length := by
    rw [List.take_succ_eq_append_getElem hm, Jn.encB_app, List.length_append, ev, List.length_append, frameB_length, Jn.encB_nil, List.length_nil]
    omega
  refine ⟨Jn.recB vs[m], ?_, by omega⟩
  rw [e3]
  refine open_of_frame _ _ _ (Jn.encB (vs.drop (m + 1))) ?_ ?_
  · conv => lhs; rw [e2]
    rw [List.drop_left]
  · have := Jn.recB_len (h _ (List.getElem_mem hm)); omega
end Go.Proofs.Ytfacdoemgalodaa
