/-
  The walks of seal.Open and of the reference's four, number, Frame, Open, Same.
-/
import Derived.Test.YtfacdoemgalodaaFrameW
import Derived.Deep.QuietTactic
import Derived.BigQuiet
namespace Go.Proofs.Ytfacdoemgalodaa
open Go.RowKit
set_option linter.unusedVariables false

theorem numB4_lt (l : List UInt8) (h : l.length ≤ 4) : numB l < 4294967296 := by
  have h1 := numB_lt l
  have h2 : (256 : Nat) ^ l.length ≤ 256 ^ 4 := Nat.pow_le_pow_right (by omega) h
  omega

/-- What Open answers: the error's number, the payload, the offset behind it. -/
structure ORes where
  err : Nat
  body : List UInt8
  next : Nat

def openB (l : List UInt8) (p : Nat) : ORes :=
  if (l.drop p).length < 8 then ⟨10, [], 0⟩
  else if 65536 < numB ((l.drop p).take 4) then ⟨11, [], 0⟩
  else if (l.drop p).length - 8 < numB ((l.drop p).take 4) then ⟨10, [], 0⟩
  else if Crc.crc (((l.drop p).drop 8).take (numB ((l.drop p).take 4))) ≠ numB (((l.drop p).drop 4).take 4) then ⟨20, [], 0⟩
  else ⟨0, ((l.drop p).drop 8).take (numB ((l.drop p).take 4)), p + 8 + numB ((l.drop p).take 4)⟩

def openI (l : List UInt8) (p : Int) : ORes := if p < 0 ∨ (l.length : Int) < p then ⟨1, [], 0⟩ else openB l p.toNat

def OpenPost (r : ORes) (w : World) (e : Ending) (w' : World) : Prop :=
  ∃ v, e = .returned (.tuple #[v, .int .i64 r.next, .int .i64 r.err]) ∧ w'.ownsRow w.heap.size 5 1 v r.body.length (bv r.body) ∧ Below w.heap.size w w'

theorem openPost_err (k : Nat) (w w' : World) (hb : Below w.heap.size w w') : OpenPost ⟨k, [], 0⟩ w (.returned (.tuple #[.slice none 0 0, .int .i64 0, .int .i64 k])) w' :=
  ⟨_, rfl, World.ownsRow_nil _ _ _ _, hb⟩

set_option maxHeartbeats 1000000 in
theorem open_any (A : Option Addr) (n c : Nat) (l : List UInt8) (p : Int) (w : World) (h : RdB w w.heap.size A n c l) (hn : n ≤ 140737488355328) (hp1 : -9223372036854775808 ≤ p) (hp2 : p ≤ 9223372036854775807) :
    Calls Try.prog 28 #[.slice A n c, .int .i64 p] w (OpenPost (openI l p) w) := by
  have hm := h.max
  have hlen := Lib.hid h.len
  have hle := h.le
  by_cases ho : p < 0 ∨ (n : Int) < p
  · have hr : Hid (openI l p = ⟨1, [], 0⟩) := by
      show openI l p = _
      unfold openI; rw [if_pos (by rw [hlen.out]; exact ho)]
    rcases ho with ho | ho
    · go_enter Try.func28, Try.ntmps28
      go_wp2
      go_ret3
      rw [hr.out]
      exact openPost_err 1 w _ (Below.refl _ _)
    · have h0 : ¬ p < 0 := by omega
      go_enter Try.func28, Try.ntmps28
      go_wp2
      go_ret3
      rw [hr.out]
      exact openPost_err 1 w _ (Below.refl _ _)
  · have h0 : ¬ p < 0 := by omega
    have h1 : ¬ (n : Int) < p := by omega
    obtain ⟨q, rfl⟩ := Int.eq_ofNat_of_zero_le (show 0 ≤ p by omega)
    have hq : q ≤ n := by omega
    clear ho
    have hr : Hid (openI l q = openB l q) := by
      show openI l q = _
      unfold openI; rw [if_neg (by rw [hlen.out]; omega)]; simp
    by_cases h8 : n - q < 8
    · have hr2 : Hid (openI l q = ⟨10, [], 0⟩) := by
        show openI l q = _
        rw [hr.out]; unfold openB; rw [if_pos (by rw [List.length_drop, hlen.out]; exact h8)]
      go_enter Try.func28, Try.ntmps28
      go_wp2_with fail
      all_goals
        go_ret3
        rw [hr2.out]
        exact openPost_err 10 w _ (Below.refl _ _)
    · have hcut := h.cut hq
      rw [if_neg (by omega)] at hcut
      obtain ⟨ad, rfl, hblk, hc0⟩ := h.at_ (show 0 < n by omega) (by rw [hlen.out]; omega)
      clear hc0
      have hcut4 := hcut.cut (show 4 ≤ n - q by omega)
      rw [if_neg (by omega)] at hcut4
      simp only [Option.map_some, add_add'] at hcut hcut4
      have hnl : Hid ((l.drop q).length = n - q) := by show _ = _; rw [List.length_drop, hlen.out]
      go_enter Try.func28, Try.ntmps28
      go_wp2_with fail
      have hle1 := hcut.le
      have hm1 := hcut.max
      clear hcut4
      generalize hn1 : n - q = n1 at *
      generalize hc1 : c - q = c1 at *
      generalize hl1 : l.drop q = l1 at *
      generalize ha1 : ad.add q = ad1 at *
      have Hn1 := Lib.hid hn1
      have Hl1 := Lib.hid hl1
      clear hn1 hc1 hl1 ha1
      have hcut4 := hcut.cut (show 4 ≤ n1 by omega)
      rw [if_neg (by omega)] at hcut4
      simp only [Option.map_some] at hcut4
      have g1 : (4 : Int) ≤ (n1 : Int) := by omega
      have g2 : (4 : Int) ≤ (c1 : Int) := by omega
      have g3 : ¬ c1 = 4 := by omega
      go_quiet (first | (go_at_call 46; (with_reducible refine quiet_eq (get_any _ _ _ _ _ (hcut.drewN _) (by omega)))) | (go_at_call 46; (with_reducible refine quiet_eq (get_any _ _ _ _ _ (hcut4.drewN _) (by omega)))))
      have hN : numB (l1.take 4) < 4294967296 := numB4_lt _ (List.length_take_le _ _)
      have hS : numB ((l1.drop 4).take 4) < 4294967296 := numB4_lt _ (List.length_take_le _ _)
      have hres : Hid (openI l q = if 65536 < numB (l1.take 4) then ⟨11, [], 0⟩ else if n1 - 8 < numB (l1.take 4) then ⟨10, [], 0⟩
          else if Crc.crc ((l1.drop 8).take (numB (l1.take 4))) ≠ numB ((l1.drop 4).take 4) then ⟨20, [], 0⟩
          else ⟨0, (l1.drop 8).take (numB (l1.take 4)), q + 8 + numB (l1.take 4)⟩) := by
        show openI l q = _
        rw [hr.out]; unfold openB; rw [Hl1.out, hnl.out, if_neg h8]
      clear hcut4
      generalize numB (l1.take 4) = N at *
      generalize numB ((l1.drop 4).take 4) = S at *
      by_cases hbig : 65536 < N
      · go_wp2_with fail
        go_ret3
        rw [hres.out, if_pos hbig]
        exact openPost_err 11 w _ (below_drewN' (Below.refl _ _) _)
      · by_cases hsh : n1 - 8 < N
        · have hsh' : ((n1 : Int) - 8) < (N : Int) := by omega
          go_wp2_with fail
          go_ret3
          rw [hres.out, if_neg hbig, if_pos hsh]
          exact openPost_err 10 w _ (below_drewN' (Below.refl _ _) _)
        · have hsh' : ¬ ((n1 : Int) - 8) < (N : Int) := by omega
          have hb := (hcut.upto (show 8 + N ≤ n1 by omega)).cut (show 8 ≤ 8 + N by omega)
          have hlb : (l1.take (8 + N)).drop 8 = (l1.drop 8).take N := by rw [List.drop_take]; congr 1; omega
          rw [hlb, Nat.add_sub_cancel_left] at hb
          have hbl : ((l1.drop 8).take N).length = N := by rw [List.length_take, List.length_drop, hnl.out]; omega
          have HBL := Lib.hid hbl
          clear hlb hbl
          have hcrc := Crc.crc_lt ((l1.drop 8).take N)
          generalize (l1.drop 8).take N = body at *
          have hfin : ∀ (v : Value) (w' : World), w'.ownsRow w.heap.size 5 1 v N (bv body) → Below w.heap.size w w' → Crc.crc body = S →
              OpenPost (openI l q) w (.returned (.tuple #[v, .int .i64 ((q : Int) + 8 + (N : Int)), .int .i64 0])) w' := by
            intro v w' ho hB e
            rw [hres.out, if_neg hbig, if_neg hsh, if_neg (by simpa using e)]
            refine ⟨v, ?_, by rw [HBL.out]; exact ho, hB⟩
            simp
          have hfin2 : ∀ (w' : World), Below w.heap.size w w' → Crc.crc body ≠ S →
              OpenPost (openI l q) w (.returned (.tuple #[.slice none 0 0, .int .i64 0, .int .i64 20])) w' := by
            intro w' hB e
            rw [hres.out, if_neg hbig, if_neg hsh, if_pos e]
            exact openPost_err 20 w _ hB
          have Hf := Lib.hid hfin
          have Hf2 := Lib.hid hfin2
          clear hfin hfin2
          rcases Nat.decEq c1 8 with h8c | h8c
          · rw [if_neg h8c] at hb
            simp only [Option.map_some] at hb
            go_wp2_with fail
            refine (cloneB_any _ N _ _ _ (hb.drewN nq) (by omega)).mono ?_
            rintro e w2 ⟨v2, rfl, hown2, hb2⟩
            obtain ⟨A2, cc2, rfl, hr2⟩ := own_rdB hown2
            go_wp2_with fail
            refine (sum_any A2 N cc2 body w2 hr2).mono ?_
            rintro e w3 ⟨rfl, hb3⟩
            have hB : Below w.heap.size w w3 := (below_drewN' (Below.refl _ w) nq).trans (Below.trans (b := w2) hb2 (hb3.mono hb2.size))
            have hown3 := own_below hown2 hb3
            by_cases hS2 : Crc.crc body = S
            · have e2 : (((Crc.crc body : Nat) : Int) != (S : Int)) = false := by simp [hS2]
              have HS2 := Lib.hid hS2
              clear hS2
              go_wp2_with fail
              go_ret3
              exact Hf.out _ _ hown3 hB HS2.out
            · have e2 : (((Crc.crc body : Nat) : Int) != (S : Int)) = true := by rw [bne_iff_ne]; omega
              go_wp2_with fail
              go_ret3
              exact Hf2.out _ hB hS2
          · subst h8c
            simp only [if_true] at hb
            go_wp2_with fail
            refine (cloneB_any _ N _ _ _ (hb.drewN nq) (by omega)).mono ?_
            rintro e w2 ⟨v2, rfl, hown2, hb2⟩
            obtain ⟨A2, cc2, rfl, hr2⟩ := own_rdB hown2
            go_wp2_with fail
            refine (sum_any A2 N cc2 body w2 hr2).mono ?_
            rintro e w3 ⟨rfl, hb3⟩
            have hB : Below w.heap.size w w3 := (below_drewN' (Below.refl _ w) nq).trans (Below.trans (b := w2) hb2 (hb3.mono hb2.size))
            have hown3 := own_below hown2 hb3
            by_cases hS2 : Crc.crc body = S
            · have e2 : (((Crc.crc body : Nat) : Int) != (S : Int)) = false := by simp [hS2]
              have HS2 := Lib.hid hS2
              clear hS2
              go_wp2_with fail
              go_ret3
              exact Hf.out _ _ hown3 hB HS2.out
            · have e2 : (((Crc.crc body : Nat) : Int) != (S : Int)) = true := by rw [bne_iff_ne]; omega
              go_wp2_with fail
              go_ret3
              exact Hf2.out _ hB hS2
end Go.Proofs.Ytfacdoemgalodaa
