/-
  The walks of the reference's reader: its lists.
-/
import Derived.Test.YtfockoihmoljfaaGreatDoorRTake3
import Derived.Test.YtfockoihmoljfaaGreatDoorGetA
import Derived.Test.YtfockoihmoljfaaGreatDoorLotC
namespace Go.Proofs.YtfockoihmoljfaaGreatDoor
open Go.RowKit Go.Shelf
set_option linter.unusedVariables false
set_option linter.unusedSimpArgs false

theorem Sc.rCount_fit {l : List UInt8} {most : Int} {s : Sc.St} (h : (Sc.rCount l most s).2.2 = 0) : 0 ≤ (Sc.rCount l most s).1 ∧ (Sc.rCount l most s).1 ≤ most := by
  unfold Sc.rCount at h ⊢
  split
  · rename_i h1
    rw [if_pos h1] at h
    split
    · rename_i h2; rw [if_pos h2] at h; simp at h
    · rename_i h2
      rw [if_neg h2] at h
      split
      · rename_i h3; rw [if_pos h3] at h; simp at h
      · omega
  · rename_i h1; rw [if_neg h1] at h; exact absurd h h1

set_option maxRecDepth 100000 in
set_option maxHeartbeats 6000000 in
theorem rrSlots_any (bR : Nat) (A : Option Addr) (m c : Nat) (l : List UInt8) (at_ er : Int) (w : World) (b : w.heap[bR]? = some (.cells #[.slice A m c, .int .i64 at_, .int .i64 er] 112)) (B0 : Nat) (hB : B0 ≤ bR) (h : RdB w B0 A m c l) (ha : okI at_) (hm : m ≤ 1073741824) :
    Calls Tryz.prog 74 #[.pointer (some ⟨bR, 0, none⟩)] w fun e w' => ∃ v, e = .returned v ∧ OwnL 3 69 Sc.OSlo w' w.heap.size v (Sc.rAll l 50 (Sc.rSlo l) (at_, er)).1 ∧ w'.heap[bR]? = some (.cells #[.slice A m c, .int .i64 (Sc.rAll l 50 (Sc.rSlo l) (at_, er)).2.1, .int .i64 (Sc.rAll l 50 (Sc.rSlo l) (at_, er)).2.2] 112) ∧ w.grownBy w' (some bR) := by
  have hlen : l.length ≤ 1073741824 := by rw [h.len]; exact hm
  have hbR := blk_lt b
  have hw0 := h
  obtain ⟨RR, hRR⟩ : ∃ RR, RR = Sc.rAll l 50 (Sc.rSlo l) (at_, er) := ⟨_, rfl⟩
  rw [← hRR]
  unfold Sc.rAll at hRR
  go_enter Tryz.func74, Tryz.ntmps74
  go_wp2_with fail
  refine (rrMany_any bR A m c l at_ er 50 w b (h.more (by omega)) ha hm).mono ?_
  rintro e w1 ⟨rfl, b', hg⟩
  clear b h
  have hfit := Sc.rCount_fit (l := l) (most := 50) (s := (at_, er))
  have hoa := Sc.rCount_ok (l := l) hlen (most := 50) (s := (at_, er)) ha
  obtain ⟨Q, hQ⟩ : ∃ Q, Q = Sc.rCount l 50 (at_, er) := ⟨_, rfl⟩
  rw [← hQ] at hRR hfit hoa b' ⊢
  clear hQ
  obtain ⟨n, a1, e1⟩ := Q
  dsimp only at hRR hfit hoa b' ⊢
  have b := b'
  clear b' ha
  have ha := hoa
  clear hoa
  obtain ⟨N, hN1, hN2, hN3⟩ : ∃ N : Nat, (if e1 = 0 then n else 0) = (N : Int) ∧ RR = Sc.rMany (Sc.rSlo l) N (a1, e1) ∧ N ≤ 64 := by
    by_cases he : e1 = 0
    · have := hfit he
      exact ⟨n.toNat, by rw [if_pos he]; omega, hRR, by omega⟩
    · exact ⟨0, by rw [if_neg he]; rfl, by rw [hRR, Sc.rMany_stop (.inr he), Sc.rMany_stop (.inr he)], by omega⟩
  rw [hN1]
  have HR0 := Lib.hid hN2
  clear hRR hfit hN1 hN2
  go_wp2_with fail
  go_loopw [3, 5] (fun lv iv wr => ∃ (i : Nat) (acc : List Sc.Slo) (s : Sc.St), iv = .int .i64 i ∧ i ≤ N ∧ acc.length ≤ i ∧ okI s.1 ∧ RR = (acc ++ (Sc.rMany (Sc.rSlo l) (N - i) s).1, (Sc.rMany (Sc.rSlo l) (N - i) s).2) ∧ OwnL 3 69 Sc.OSlo wr w.heap.size lv acc ∧ wr.heap[bR]? = some (.cells #[.slice A m c, .int .i64 s.1, .int .i64 s.2] 112) ∧ w.grownBy wr (some bR)) (fun _ iv _ => N - (intOf iv).toNat)
  case atStart => exact ⟨0, [], (a1, e1), rfl, by omega, by simp, ha, by rw [HR0.out]; rfl, OwnL.nil _ _, b, hg⟩
  case round =>
    clear b hg ha HR0
    obtain ⟨i, acc, s, rfl, hi, hacc, ha, hR, hL, b, hg⟩ := hrel
    have HR := Lib.hid hR
    clear hR
    obtain ⟨s0a, s0e⟩ := s
    dsimp only at ha b
    have c2 := blk_cell (j := 2) b
    simp only [List.getElem?_toArray, List.getElem?_cons_zero, List.getElem?_cons_succ] at c2
    have hsz := hg.size
    by_cases hj0 : i = N
    · have t2 : decide ((i : Int) < (N : Int)) = false := by simp; omega
      have HC : Hid (RR = (acc, (s0a, s0e))) := by
        show _ = _
        rw [HR.out, Sc.rMany_stop (by exact .inl (by omega)), List.append_nil]
      clear HR
      obtain ⟨rows, q1, q2, q3, q4⟩ := hL
      obtain ⟨Av, cv, rfl, _⟩ := own_rdK q3
      go_wp2_with fail
      go_ret
      exact ⟨_, rfl, by rw [HC.out]; exact ⟨rows, q1, q2, q3, q4⟩, by rw [HC.out]; exact b, hg⟩
    · have t2 : decide ((i : Int) < (N : Int)) = true := by simp; omega
      by_cases hs : s0e ≠ 0
      · have t3 : (s0e == 0) = false := by simp; omega
        have HC : Hid (RR = (acc, (s0a, s0e))) := by
          show _ = _
          rw [HR.out, Sc.rMany_stop (by exact .inr hs), List.append_nil]
        clear HR
        obtain ⟨rows, q1, q2, q3, q4⟩ := hL
        obtain ⟨Av, cv, rfl, _⟩ := own_rdK q3
        go_wp2_with fail
        go_ret
        exact ⟨_, rfl, by rw [HC.out]; exact ⟨rows, q1, q2, q3, q4⟩, by rw [HC.out]; exact b, hg⟩
      · have hs : s0e = 0 := Classical.not_not.1 hs
        subst hs
        obtain ⟨i', hi'⟩ : ∃ i', N - i = i' + 1 := ⟨N - i - 1, by omega⟩
        rw [hi', Sc.rMany_go rfl] at HR
        obtain ⟨s0, hs0⟩ : ∃ s0 : Sc.St, s0 = (s0a, 0) := ⟨_, rfl⟩
        rw [← hs0] at HR
        rw [show s0a = s0.1 by rw [hs0]] at b ha
        rw [show (0 : Int) = s0.2 by rw [hs0]] at b
        have HS0 := Lib.hid hs0
        go_wp2_with fail
        clear c2
        have h' := hw0.grown hg (by omega) (fun g hgq => by cases hgq; exact hB)
        refine (rrText_any bR A m c l s0.1 s0.2 wr b (h'.more (by omega)) ha hm).mono ?_
        rintro e y0 ⟨rfl, b', hg'⟩
        clear h'
        have ok0 := Sc.rText_ok (l := l) (s := s0) hlen ha
        obtain ⟨R0, hR0⟩ : ∃ R, R = Sc.rText l s0 := ⟨_, rfl⟩
        rw [← hR0] at ok0
        have hE0 : Sc.rText l (s0.1, s0.2) = R0 := hR0.symm
        rw [hE0] at b' ⊢
        clear hE0
        have HR0 := Lib.hid hR0
        clear hR0
        obtain ⟨r0, s1⟩ := R0
        dsimp only at *
        replace ha := ok0.2
        replace hL := OwnL.keeps (O := Sc.OSlo) (t := 69) Sc.olSlo hL (Keeps.grown hg' b (by decide)) (Keeps.grown hg' b (by decide))
        replace b := b'
        replace hsz := Nat.le_trans hsz hg'.size
        replace hg := grown_trans hg hg'
        clear b' hg'
        go_wp2_with fail
        have h' := hw0.grown hg (by omega) (fun g hgq => by cases hgq; exact hB)
        refine (rrNum_any bR A m c l s1.1 s1.2 y0 b (h'.more (by omega)) ha hm).mono ?_
        rintro e y1 ⟨rfl, b', hg'⟩
        clear h'
        have ok1 := Sc.rNum_ok (l := l) (s := s1) hlen ha
        obtain ⟨R1, hR1⟩ : ∃ R, R = Sc.rNum l s1 := ⟨_, rfl⟩
        rw [← hR1] at ok1
        have hE1 : Sc.rNum l (s1.1, s1.2) = R1 := hR1.symm
        rw [hE1] at b' ⊢
        clear hE1
        have HR1 := Lib.hid hR1
        clear hR1
        obtain ⟨r1, s2⟩ := R1
        dsimp only at *
        replace ha := ok1.2
        replace hL := OwnL.keeps (O := Sc.OSlo) (t := 69) Sc.olSlo hL (Keeps.grown hg' b (by decide)) (Keeps.grown hg' b (by decide))
        replace b := b'
        replace hsz := Nat.le_trans hsz hg'.size
        replace hg := grown_trans hg hg'
        clear b' hg'
        go_wp2_with fail
        have h' := hw0.grown hg (by omega) (fun g hgq => by cases hgq; exact hB)
        refine (rrNum_any bR A m c l s2.1 s2.2 y1 b (h'.more (by omega)) ha hm).mono ?_
        rintro e y2 ⟨rfl, b', hg'⟩
        clear h'
        have ok2 := Sc.rNum_ok (l := l) (s := s2) hlen ha
        obtain ⟨R2, hR2⟩ : ∃ R, R = Sc.rNum l s2 := ⟨_, rfl⟩
        rw [← hR2] at ok2
        have hE2 : Sc.rNum l (s2.1, s2.2) = R2 := hR2.symm
        rw [hE2] at b' ⊢
        clear hE2
        have HR2 := Lib.hid hR2
        clear hR2
        obtain ⟨r2, s3⟩ := R2
        dsimp only at *
        replace ha := ok2.2
        replace hL := OwnL.keeps (O := Sc.OSlo) (t := 69) Sc.olSlo hL (Keeps.grown hg' b (by decide)) (Keeps.grown hg' b (by decide))
        replace b := b'
        replace hsz := Nat.le_trans hsz hg'.size
        replace hg := grown_trans hg hg'
        clear b' hg'
        have HX : Hid (Sc.rSlo l s0 = (⟨r0, r1, r2⟩, s3)) := by
          show _ = _
          unfold Sc.rSlo
          rw [← HR0.out]
          rw [← HR1.out]
          rw [← HR2.out]
        rw [HX.out] at HR
        dsimp only at HR
        obtain ⟨rows, q1, q2, q3, q4⟩ := hL
        obtain ⟨Av, cv, rfl, _⟩ := own_rdK q3
        obtain ⟨V9, hV⟩ : ∃ V9, V9 = y2.alloc (.cells #[.string (strOf r0), .int .i64 r1, .int .i64 r2] 69) := ⟨_, rfl⟩
        have hb := below_new hV
        have oA := own_below q3 hb
        have dA : ∀ (i : Nat) (x : Sc.Slo) (r : List Value), acc[i]? = some x → rows[i]? = some r → Sc.OSlo V9 w.heap.size x r := fun i x r hi hr => Sc.olSlo (q4 i x r hi hr) (Keeps.below hb)
        have bA := blk_below b hb
        have hgA : w.grownBy V9 (some bR) := grown_trans hg (grown_of_below hb)
        have hszA := hgA.size
        have hRK := RdK.new 3 y2 #[.string (strOf r0), .int .i64 r1, .int .i64 r2] 69 (0, 0) 1 rfl (by omega)
        rw [← hV] at hRK
        have HV9 := Lib.hid hV.symm
        clear hV hb q3 q4 b hg
        go_wp2_with (at_builtin; rw [HV9.out]; refine wpList_appK _ _ elkSlo oA hRK (by simp [Value.oneCell']) (by omega) (by omega) hszA rfl rfl rfl rfl ?_; intro v3 w3 o3 hg3 _; obtain ⟨A3, c3, rfl, _⟩ := own_rdK o3)
        have hSN := OwnL.snoc (O := Sc.OSlo) (W := V9) (W' := w3) (B := w.heap.size) Sc.olSlo q1 q2 dA (x := ⟨r0, r1, r2⟩) (r := [.string (strOf r0), .int .i64 r1, .int .i64 r2]) rfl rfl (Keeps.grownRow oA hg3 (by decide)) o3
        have bB := blk_grown bA hg3 (fun e => own_blk_ne oA bA (by decide) _ e.symm rfl)
        have hgB := grown_then hgA hg3 (own_lt oA)
        go_roundw
        case rel => exact ⟨i + 1, acc ++ [⟨r0, r1, r2⟩], s3, by go_num, by omega, by simp; omega, ha, by rw [HR.out, show N - (i + 1) = i' by omega]; simp, hSN, bB, hgB⟩
        case measure => simp [intOf] <;> omega

set_option maxRecDepth 100000 in
set_option maxHeartbeats 6000000 in
theorem rrRooms_any (bR : Nat) (A : Option Addr) (m c : Nat) (l : List UInt8) (at_ er : Int) (w : World) (b : w.heap[bR]? = some (.cells #[.slice A m c, .int .i64 at_, .int .i64 er] 112)) (B0 : Nat) (hB : B0 ≤ bR) (h : RdB w B0 A m c l) (ha : okI at_) (hm : m ≤ 1073741824) :
    Calls Tryz.prog 75 #[.pointer (some ⟨bR, 0, none⟩)] w fun e w' => ∃ v, e = .returned v ∧ OwnL 4 53 Sc.ORoo w' w.heap.size v (Sc.rAll l 32 (Sc.rRoo l) (at_, er)).1 ∧ w'.heap[bR]? = some (.cells #[.slice A m c, .int .i64 (Sc.rAll l 32 (Sc.rRoo l) (at_, er)).2.1, .int .i64 (Sc.rAll l 32 (Sc.rRoo l) (at_, er)).2.2] 112) ∧ w.grownBy w' (some bR) := by
  have hlen : l.length ≤ 1073741824 := by rw [h.len]; exact hm
  have hbR := blk_lt b
  have hw0 := h
  obtain ⟨RR, hRR⟩ : ∃ RR, RR = Sc.rAll l 32 (Sc.rRoo l) (at_, er) := ⟨_, rfl⟩
  rw [← hRR]
  unfold Sc.rAll at hRR
  go_enter Tryz.func75, Tryz.ntmps75
  go_wp2_with fail
  refine (rrMany_any bR A m c l at_ er 32 w b (h.more (by omega)) ha hm).mono ?_
  rintro e w1 ⟨rfl, b', hg⟩
  clear b h
  have hfit := Sc.rCount_fit (l := l) (most := 32) (s := (at_, er))
  have hoa := Sc.rCount_ok (l := l) hlen (most := 32) (s := (at_, er)) ha
  obtain ⟨Q, hQ⟩ : ∃ Q, Q = Sc.rCount l 32 (at_, er) := ⟨_, rfl⟩
  rw [← hQ] at hRR hfit hoa b' ⊢
  clear hQ
  obtain ⟨n, a1, e1⟩ := Q
  dsimp only at hRR hfit hoa b' ⊢
  have b := b'
  clear b' ha
  have ha := hoa
  clear hoa
  obtain ⟨N, hN1, hN2, hN3⟩ : ∃ N : Nat, (if e1 = 0 then n else 0) = (N : Int) ∧ RR = Sc.rMany (Sc.rRoo l) N (a1, e1) ∧ N ≤ 64 := by
    by_cases he : e1 = 0
    · have := hfit he
      exact ⟨n.toNat, by rw [if_pos he]; omega, hRR, by omega⟩
    · exact ⟨0, by rw [if_neg he]; rfl, by rw [hRR, Sc.rMany_stop (.inr he), Sc.rMany_stop (.inr he)], by omega⟩
  rw [hN1]
  have HR0 := Lib.hid hN2
  clear hRR hfit hN1 hN2
  go_wp2_with fail
  go_loopw [3, 5] (fun lv iv wr => ∃ (i : Nat) (acc : List Sc.Roo) (s : Sc.St), iv = .int .i64 i ∧ i ≤ N ∧ acc.length ≤ i ∧ okI s.1 ∧ RR = (acc ++ (Sc.rMany (Sc.rRoo l) (N - i) s).1, (Sc.rMany (Sc.rRoo l) (N - i) s).2) ∧ OwnL 4 53 Sc.ORoo wr w.heap.size lv acc ∧ wr.heap[bR]? = some (.cells #[.slice A m c, .int .i64 s.1, .int .i64 s.2] 112) ∧ w.grownBy wr (some bR)) (fun _ iv _ => N - (intOf iv).toNat)
  case atStart => exact ⟨0, [], (a1, e1), rfl, by omega, by simp, ha, by rw [HR0.out]; rfl, OwnL.nil _ _, b, hg⟩
  case round =>
    clear b hg ha HR0
    obtain ⟨i, acc, s, rfl, hi, hacc, ha, hR, hL, b, hg⟩ := hrel
    have HR := Lib.hid hR
    clear hR
    obtain ⟨s0a, s0e⟩ := s
    dsimp only at ha b
    have c2 := blk_cell (j := 2) b
    simp only [List.getElem?_toArray, List.getElem?_cons_zero, List.getElem?_cons_succ] at c2
    have hsz := hg.size
    by_cases hj0 : i = N
    · have t2 : decide ((i : Int) < (N : Int)) = false := by simp; omega
      have HC : Hid (RR = (acc, (s0a, s0e))) := by
        show _ = _
        rw [HR.out, Sc.rMany_stop (by exact .inl (by omega)), List.append_nil]
      clear HR
      obtain ⟨rows, q1, q2, q3, q4⟩ := hL
      obtain ⟨Av, cv, rfl, _⟩ := own_rdK q3
      go_wp2_with fail
      go_ret
      exact ⟨_, rfl, by rw [HC.out]; exact ⟨rows, q1, q2, q3, q4⟩, by rw [HC.out]; exact b, hg⟩
    · have t2 : decide ((i : Int) < (N : Int)) = true := by simp; omega
      by_cases hs : s0e ≠ 0
      · have t3 : (s0e == 0) = false := by simp; omega
        have HC : Hid (RR = (acc, (s0a, s0e))) := by
          show _ = _
          rw [HR.out, Sc.rMany_stop (by exact .inr hs), List.append_nil]
        clear HR
        obtain ⟨rows, q1, q2, q3, q4⟩ := hL
        obtain ⟨Av, cv, rfl, _⟩ := own_rdK q3
        go_wp2_with fail
        go_ret
        exact ⟨_, rfl, by rw [HC.out]; exact ⟨rows, q1, q2, q3, q4⟩, by rw [HC.out]; exact b, hg⟩
      · have hs : s0e = 0 := Classical.not_not.1 hs
        subst hs
        obtain ⟨i', hi'⟩ : ∃ i', N - i = i' + 1 := ⟨N - i - 1, by omega⟩
        rw [hi', Sc.rMany_go rfl] at HR
        obtain ⟨s0, hs0⟩ : ∃ s0 : Sc.St, s0 = (s0a, 0) := ⟨_, rfl⟩
        rw [← hs0] at HR
        rw [show s0a = s0.1 by rw [hs0]] at b ha
        rw [show (0 : Int) = s0.2 by rw [hs0]] at b
        have HS0 := Lib.hid hs0
        go_wp2_with fail
        clear c2
        have h' := hw0.grown hg (by omega) (fun g hgq => by cases hgq; exact hB)
        refine (rrText_any bR A m c l s0.1 s0.2 wr b (h'.more (by omega)) ha hm).mono ?_
        rintro e y0 ⟨rfl, b', hg'⟩
        clear h'
        have ok0 := Sc.rText_ok (l := l) (s := s0) hlen ha
        obtain ⟨R0, hR0⟩ : ∃ R, R = Sc.rText l s0 := ⟨_, rfl⟩
        rw [← hR0] at ok0
        have hE0 : Sc.rText l (s0.1, s0.2) = R0 := hR0.symm
        rw [hE0] at b' ⊢
        clear hE0
        have HR0 := Lib.hid hR0
        clear hR0
        obtain ⟨r0, s1⟩ := R0
        dsimp only at *
        replace ha := ok0.2
        replace hL := OwnL.keeps (O := Sc.ORoo) (t := 53) Sc.olRoo hL (Keeps.grown hg' b (by decide)) (Keeps.grown hg' b (by decide))
        replace b := b'
        replace hsz := Nat.le_trans hsz hg'.size
        replace hg := grown_trans hg hg'
        clear b' hg'
        go_wp2_with fail
        have h' := hw0.grown hg (by omega) (fun g hgq => by cases hgq; exact hB)
        refine (rrNum_any bR A m c l s1.1 s1.2 y0 b (h'.more (by omega)) ha hm).mono ?_
        rintro e y1 ⟨rfl, b', hg'⟩
        clear h'
        have ok1 := Sc.rNum_ok (l := l) (s := s1) hlen ha
        obtain ⟨R1, hR1⟩ : ∃ R, R = Sc.rNum l s1 := ⟨_, rfl⟩
        rw [← hR1] at ok1
        have hE1 : Sc.rNum l (s1.1, s1.2) = R1 := hR1.symm
        rw [hE1] at b' ⊢
        clear hE1
        have HR1 := Lib.hid hR1
        clear hR1
        obtain ⟨r1, s2⟩ := R1
        dsimp only at *
        replace ha := ok1.2
        replace hL := OwnL.keeps (O := Sc.ORoo) (t := 53) Sc.olRoo hL (Keeps.grown hg' b (by decide)) (Keeps.grown hg' b (by decide))
        replace b := b'
        replace hsz := Nat.le_trans hsz hg'.size
        replace hg := grown_trans hg hg'
        clear b' hg'
        go_wp2_with fail
        have h' := hw0.grown hg (by omega) (fun g hgq => by cases hgq; exact hB)
        refine (rrNum_any bR A m c l s2.1 s2.2 y1 b (h'.more (by omega)) ha hm).mono ?_
        rintro e y2 ⟨rfl, b', hg'⟩
        clear h'
        have ok2 := Sc.rNum_ok (l := l) (s := s2) hlen ha
        obtain ⟨R2, hR2⟩ : ∃ R, R = Sc.rNum l s2 := ⟨_, rfl⟩
        rw [← hR2] at ok2
        have hE2 : Sc.rNum l (s2.1, s2.2) = R2 := hR2.symm
        rw [hE2] at b' ⊢
        clear hE2
        have HR2 := Lib.hid hR2
        clear hR2
        obtain ⟨r2, s3⟩ := R2
        dsimp only at *
        replace ha := ok2.2
        replace hL := OwnL.keeps (O := Sc.ORoo) (t := 53) Sc.olRoo hL (Keeps.grown hg' b (by decide)) (Keeps.grown hg' b (by decide))
        replace b := b'
        replace hsz := Nat.le_trans hsz hg'.size
        replace hg := grown_trans hg hg'
        clear b' hg'
        go_wp2_with fail
        have h' := hw0.grown hg (by omega) (fun g hgq => by cases hgq; exact hB)
        refine (rrNums_any bR A m c l s3.1 s3.2 y2 b (h'.more (by omega)) ha hm).mono ?_
        rintro e y3 ⟨u3, rfl, ho3, b', hg'⟩
        clear h'
        have ok3 := Sc.rList_ok (l := l) (s := s3) hlen ha
        obtain ⟨R3, hR3⟩ : ∃ R, R = Sc.rList l s3 := ⟨_, rfl⟩
        rw [← hR3] at ok3
        have hE3 : Sc.rList l (s3.1, s3.2) = R3 := hR3.symm
        rw [hE3] at b' ho3
        clear hE3
        have HR3 := Lib.hid hR3
        clear hR3
        obtain ⟨r3, s4⟩ := R3
        dsimp only at *
        replace ha := ok3.2.2
        replace hL := OwnL.keeps (O := Sc.ORoo) (t := 53) Sc.olRoo hL (Keeps.grown hg' b (by decide)) (Keeps.grown hg' b (by decide))
        replace ho3 := own_mono ho3 hsz
        obtain ⟨Au3, cu3, rfl, _⟩ := own_rd ho3
        replace b := b'
        replace hsz := Nat.le_trans hsz hg'.size
        replace hg := grown_trans hg hg'
        clear b' hg'
        have HX : Hid (Sc.rRoo l s0 = (⟨r0, r1, r2, r3⟩, s4)) := by
          show _ = _
          unfold Sc.rRoo
          rw [← HR0.out]
          rw [← HR1.out]
          rw [← HR2.out]
          rw [← HR3.out]
        rw [HX.out] at HR
        dsimp only at HR
        obtain ⟨rows, q1, q2, q3, q4⟩ := hL
        obtain ⟨Av, cv, rfl, _⟩ := own_rdK q3
        obtain ⟨V9, hV⟩ : ∃ V9, V9 = y3.alloc (.cells #[.string (strOf r0), .int .i64 r1, .int .i64 r2, .slice Au3 r3.length cu3] 53) := ⟨_, rfl⟩
        have hb := below_new hV
        have oA := own_below q3 hb
        have dA : ∀ (i : Nat) (x : Sc.Roo) (r : List Value), acc[i]? = some x → rows[i]? = some r → Sc.ORoo V9 w.heap.size x r := fun i x r hi hr => Sc.olRoo (q4 i x r hi hr) (Keeps.below hb)
        have hp3 := own_below ho3 hb
        have bA := blk_below b hb
        have hgA : w.grownBy V9 (some bR) := grown_trans hg (grown_of_below hb)
        have hszA := hgA.size
        have hRK := RdK.new 4 y3 #[.string (strOf r0), .int .i64 r1, .int .i64 r2, .slice Au3 r3.length cu3] 53 (0, 0) 1 rfl (by omega)
        rw [← hV] at hRK
        have HV9 := Lib.hid hV.symm
        clear hV hb q3 q4 b hg ho3
        go_wp2_with (at_builtin; rw [HV9.out]; refine wpList_appK _ _ elkRoo oA hRK (by simp [Value.oneCell']) (by omega) (by omega) hszA rfl rfl rfl rfl ?_; intro v3 w3 o3 hg3 _; obtain ⟨A3, c3, rfl, _⟩ := own_rdK o3)
        have hSN := OwnL.snoc (O := Sc.ORoo) (W := V9) (W' := w3) (B := w.heap.size) Sc.olRoo q1 q2 dA (x := ⟨r0, r1, r2, r3⟩) (r := [.string (strOf r0), .int .i64 r1, .int .i64 r2, .slice Au3 r3.length cu3]) rfl ⟨_, rfl, hp3⟩ (Keeps.grownRow oA hg3 (by decide)) o3
        have bB := blk_grown bA hg3 (fun e => own_blk_ne oA bA (by decide) _ e.symm rfl)
        have hgB := grown_then hgA hg3 (own_lt oA)
        go_roundw
        case rel => exact ⟨i + 1, acc ++ [⟨r0, r1, r2, r3⟩], s4, by go_num, by omega, by simp; omega, ha, by rw [HR.out, show N - (i + 1) = i' by omega]; simp, hSN, bB, hgB⟩
        case measure => simp [intOf] <;> omega

set_option maxRecDepth 100000 in
set_option maxHeartbeats 6000000 in
theorem rrPeople_any (bR : Nat) (A : Option Addr) (m c : Nat) (l : List UInt8) (at_ er : Int) (w : World) (b : w.heap[bR]? = some (.cells #[.slice A m c, .int .i64 at_, .int .i64 er] 112)) (B0 : Nat) (hB : B0 ≤ bR) (h : RdB w B0 A m c l) (ha : okI at_) (hm : m ≤ 1073741824) :
    Calls Tryz.prog 76 #[.pointer (some ⟨bR, 0, none⟩)] w fun e w' => ∃ v, e = .returned v ∧ OwnL 2 57 Sc.OPer w' w.heap.size v (Sc.rAll l 64 (Sc.rPer l) (at_, er)).1 ∧ w'.heap[bR]? = some (.cells #[.slice A m c, .int .i64 (Sc.rAll l 64 (Sc.rPer l) (at_, er)).2.1, .int .i64 (Sc.rAll l 64 (Sc.rPer l) (at_, er)).2.2] 112) ∧ w.grownBy w' (some bR) := by
  have hlen : l.length ≤ 1073741824 := by rw [h.len]; exact hm
  have hbR := blk_lt b
  have hw0 := h
  obtain ⟨RR, hRR⟩ : ∃ RR, RR = Sc.rAll l 64 (Sc.rPer l) (at_, er) := ⟨_, rfl⟩
  rw [← hRR]
  unfold Sc.rAll at hRR
  go_enter Tryz.func76, Tryz.ntmps76
  go_wp2_with fail
  refine (rrMany_any bR A m c l at_ er 64 w b (h.more (by omega)) ha hm).mono ?_
  rintro e w1 ⟨rfl, b', hg⟩
  clear b h
  have hfit := Sc.rCount_fit (l := l) (most := 64) (s := (at_, er))
  have hoa := Sc.rCount_ok (l := l) hlen (most := 64) (s := (at_, er)) ha
  obtain ⟨Q, hQ⟩ : ∃ Q, Q = Sc.rCount l 64 (at_, er) := ⟨_, rfl⟩
  rw [← hQ] at hRR hfit hoa b' ⊢
  clear hQ
  obtain ⟨n, a1, e1⟩ := Q
  dsimp only at hRR hfit hoa b' ⊢
  have b := b'
  clear b' ha
  have ha := hoa
  clear hoa
  obtain ⟨N, hN1, hN2, hN3⟩ : ∃ N : Nat, (if e1 = 0 then n else 0) = (N : Int) ∧ RR = Sc.rMany (Sc.rPer l) N (a1, e1) ∧ N ≤ 64 := by
    by_cases he : e1 = 0
    · have := hfit he
      exact ⟨n.toNat, by rw [if_pos he]; omega, hRR, by omega⟩
    · exact ⟨0, by rw [if_neg he]; rfl, by rw [hRR, Sc.rMany_stop (.inr he), Sc.rMany_stop (.inr he)], by omega⟩
  rw [hN1]
  have HR0 := Lib.hid hN2
  clear hRR hfit hN1 hN2
  go_wp2_with fail
  go_loopw [3, 5] (fun lv iv wr => ∃ (i : Nat) (acc : List Sc.Per) (s : Sc.St), iv = .int .i64 i ∧ i ≤ N ∧ acc.length ≤ i ∧ okI s.1 ∧ RR = (acc ++ (Sc.rMany (Sc.rPer l) (N - i) s).1, (Sc.rMany (Sc.rPer l) (N - i) s).2) ∧ OwnL 2 57 Sc.OPer wr w.heap.size lv acc ∧ wr.heap[bR]? = some (.cells #[.slice A m c, .int .i64 s.1, .int .i64 s.2] 112) ∧ w.grownBy wr (some bR)) (fun _ iv _ => N - (intOf iv).toNat)
  case atStart => exact ⟨0, [], (a1, e1), rfl, by omega, by simp, ha, by rw [HR0.out]; rfl, OwnL.nil _ _, b, hg⟩
  case round =>
    clear b hg ha HR0
    obtain ⟨i, acc, s, rfl, hi, hacc, ha, hR, hL, b, hg⟩ := hrel
    have HR := Lib.hid hR
    clear hR
    obtain ⟨s0a, s0e⟩ := s
    dsimp only at ha b
    have c2 := blk_cell (j := 2) b
    simp only [List.getElem?_toArray, List.getElem?_cons_zero, List.getElem?_cons_succ] at c2
    have hsz := hg.size
    by_cases hj0 : i = N
    · have t2 : decide ((i : Int) < (N : Int)) = false := by simp; omega
      have HC : Hid (RR = (acc, (s0a, s0e))) := by
        show _ = _
        rw [HR.out, Sc.rMany_stop (by exact .inl (by omega)), List.append_nil]
      clear HR
      obtain ⟨rows, q1, q2, q3, q4⟩ := hL
      obtain ⟨Av, cv, rfl, _⟩ := own_rdK q3
      go_wp2_with fail
      go_ret
      exact ⟨_, rfl, by rw [HC.out]; exact ⟨rows, q1, q2, q3, q4⟩, by rw [HC.out]; exact b, hg⟩
    · have t2 : decide ((i : Int) < (N : Int)) = true := by simp; omega
      by_cases hs : s0e ≠ 0
      · have t3 : (s0e == 0) = false := by simp; omega
        have HC : Hid (RR = (acc, (s0a, s0e))) := by
          show _ = _
          rw [HR.out, Sc.rMany_stop (by exact .inr hs), List.append_nil]
        clear HR
        obtain ⟨rows, q1, q2, q3, q4⟩ := hL
        obtain ⟨Av, cv, rfl, _⟩ := own_rdK q3
        go_wp2_with fail
        go_ret
        exact ⟨_, rfl, by rw [HC.out]; exact ⟨rows, q1, q2, q3, q4⟩, by rw [HC.out]; exact b, hg⟩
      · have hs : s0e = 0 := Classical.not_not.1 hs
        subst hs
        obtain ⟨i', hi'⟩ : ∃ i', N - i = i' + 1 := ⟨N - i - 1, by omega⟩
        rw [hi', Sc.rMany_go rfl] at HR
        obtain ⟨s0, hs0⟩ : ∃ s0 : Sc.St, s0 = (s0a, 0) := ⟨_, rfl⟩
        rw [← hs0] at HR
        rw [show s0a = s0.1 by rw [hs0]] at b ha
        rw [show (0 : Int) = s0.2 by rw [hs0]] at b
        have HS0 := Lib.hid hs0
        go_wp2_with fail
        clear c2
        have h' := hw0.grown hg (by omega) (fun g hgq => by cases hgq; exact hB)
        refine (rrText_any bR A m c l s0.1 s0.2 wr b (h'.more (by omega)) ha hm).mono ?_
        rintro e y0 ⟨rfl, b', hg'⟩
        clear h'
        have ok0 := Sc.rText_ok (l := l) (s := s0) hlen ha
        obtain ⟨R0, hR0⟩ : ∃ R, R = Sc.rText l s0 := ⟨_, rfl⟩
        rw [← hR0] at ok0
        have hE0 : Sc.rText l (s0.1, s0.2) = R0 := hR0.symm
        rw [hE0] at b' ⊢
        clear hE0
        have HR0 := Lib.hid hR0
        clear hR0
        obtain ⟨r0, s1⟩ := R0
        dsimp only at *
        replace ha := ok0.2
        replace hL := OwnL.keeps (O := Sc.OPer) (t := 57) Sc.olPer hL (Keeps.grown hg' b (by decide)) (Keeps.grown hg' b (by decide))
        replace b := b'
        replace hsz := Nat.le_trans hsz hg'.size
        replace hg := grown_trans hg hg'
        clear b' hg'
        go_wp2_with fail
        have h' := hw0.grown hg (by omega) (fun g hgq => by cases hgq; exact hB)
        refine (rrNums_any bR A m c l s1.1 s1.2 y0 b (h'.more (by omega)) ha hm).mono ?_
        rintro e y1 ⟨u1, rfl, ho1, b', hg'⟩
        clear h'
        have ok1 := Sc.rList_ok (l := l) (s := s1) hlen ha
        obtain ⟨R1, hR1⟩ : ∃ R, R = Sc.rList l s1 := ⟨_, rfl⟩
        rw [← hR1] at ok1
        have hE1 : Sc.rList l (s1.1, s1.2) = R1 := hR1.symm
        rw [hE1] at b' ho1
        clear hE1
        have HR1 := Lib.hid hR1
        clear hR1
        obtain ⟨r1, s2⟩ := R1
        dsimp only at *
        replace ha := ok1.2.2
        replace hL := OwnL.keeps (O := Sc.OPer) (t := 57) Sc.olPer hL (Keeps.grown hg' b (by decide)) (Keeps.grown hg' b (by decide))
        replace ho1 := own_mono ho1 hsz
        obtain ⟨Au1, cu1, rfl, _⟩ := own_rd ho1
        replace b := b'
        replace hsz := Nat.le_trans hsz hg'.size
        replace hg := grown_trans hg hg'
        clear b' hg'
        have HX : Hid (Sc.rPer l s0 = (⟨r0, r1⟩, s2)) := by
          show _ = _
          unfold Sc.rPer
          rw [← HR0.out]
          rw [← HR1.out]
        rw [HX.out] at HR
        dsimp only at HR
        obtain ⟨rows, q1, q2, q3, q4⟩ := hL
        obtain ⟨Av, cv, rfl, _⟩ := own_rdK q3
        obtain ⟨V9, hV⟩ : ∃ V9, V9 = y1.alloc (.cells #[.string (strOf r0), .slice Au1 r1.length cu1] 57) := ⟨_, rfl⟩
        have hb := below_new hV
        have oA := own_below q3 hb
        have dA : ∀ (i : Nat) (x : Sc.Per) (r : List Value), acc[i]? = some x → rows[i]? = some r → Sc.OPer V9 w.heap.size x r := fun i x r hi hr => Sc.olPer (q4 i x r hi hr) (Keeps.below hb)
        have hp1 := own_below ho1 hb
        have bA := blk_below b hb
        have hgA : w.grownBy V9 (some bR) := grown_trans hg (grown_of_below hb)
        have hszA := hgA.size
        have hRK := RdK.new 2 y1 #[.string (strOf r0), .slice Au1 r1.length cu1] 57 (0, 0) 1 rfl (by omega)
        rw [← hV] at hRK
        have HV9 := Lib.hid hV.symm
        clear hV hb q3 q4 b hg ho1
        go_wp2_with (at_builtin; rw [HV9.out]; refine wpList_appK _ _ elkPer oA hRK (by simp [Value.oneCell']) (by omega) (by omega) hszA rfl rfl rfl rfl ?_; intro v3 w3 o3 hg3 _; obtain ⟨A3, c3, rfl, _⟩ := own_rdK o3)
        have hSN := OwnL.snoc (O := Sc.OPer) (W := V9) (W' := w3) (B := w.heap.size) Sc.olPer q1 q2 dA (x := ⟨r0, r1⟩) (r := [.string (strOf r0), .slice Au1 r1.length cu1]) rfl ⟨_, rfl, hp1⟩ (Keeps.grownRow oA hg3 (by decide)) o3
        have bB := blk_grown bA hg3 (fun e => own_blk_ne oA bA (by decide) _ e.symm rfl)
        have hgB := grown_then hgA hg3 (own_lt oA)
        go_roundw
        case rel => exact ⟨i + 1, acc ++ [⟨r0, r1⟩], s2, by go_num, by omega, by simp; omega, ha, by rw [HR.out, show N - (i + 1) = i' by omega]; simp, hSN, bB, hgB⟩
        case measure => simp [intOf] <;> omega

set_option maxRecDepth 100000 in
set_option maxHeartbeats 6000000 in
theorem rrGroups_any (bR : Nat) (A : Option Addr) (m c : Nat) (l : List UInt8) (at_ er : Int) (w : World) (b : w.heap[bR]? = some (.cells #[.slice A m c, .int .i64 at_, .int .i64 er] 112)) (B0 : Nat) (hB : B0 ≤ bR) (h : RdB w B0 A m c l) (ha : okI at_) (hm : m ≤ 1073741824) :
    Calls Tryz.prog 77 #[.pointer (some ⟨bR, 0, none⟩)] w fun e w' => ∃ v, e = .returned v ∧ OwnL 2 49 Sc.OGro w' w.heap.size v (Sc.rAll l 64 (Sc.rGro l) (at_, er)).1 ∧ w'.heap[bR]? = some (.cells #[.slice A m c, .int .i64 (Sc.rAll l 64 (Sc.rGro l) (at_, er)).2.1, .int .i64 (Sc.rAll l 64 (Sc.rGro l) (at_, er)).2.2] 112) ∧ w.grownBy w' (some bR) := by
  have hlen : l.length ≤ 1073741824 := by rw [h.len]; exact hm
  have hbR := blk_lt b
  have hw0 := h
  obtain ⟨RR, hRR⟩ : ∃ RR, RR = Sc.rAll l 64 (Sc.rGro l) (at_, er) := ⟨_, rfl⟩
  rw [← hRR]
  unfold Sc.rAll at hRR
  go_enter Tryz.func77, Tryz.ntmps77
  go_wp2_with fail
  refine (rrMany_any bR A m c l at_ er 64 w b (h.more (by omega)) ha hm).mono ?_
  rintro e w1 ⟨rfl, b', hg⟩
  clear b h
  have hfit := Sc.rCount_fit (l := l) (most := 64) (s := (at_, er))
  have hoa := Sc.rCount_ok (l := l) hlen (most := 64) (s := (at_, er)) ha
  obtain ⟨Q, hQ⟩ : ∃ Q, Q = Sc.rCount l 64 (at_, er) := ⟨_, rfl⟩
  rw [← hQ] at hRR hfit hoa b' ⊢
  clear hQ
  obtain ⟨n, a1, e1⟩ := Q
  dsimp only at hRR hfit hoa b' ⊢
  have b := b'
  clear b' ha
  have ha := hoa
  clear hoa
  obtain ⟨N, hN1, hN2, hN3⟩ : ∃ N : Nat, (if e1 = 0 then n else 0) = (N : Int) ∧ RR = Sc.rMany (Sc.rGro l) N (a1, e1) ∧ N ≤ 64 := by
    by_cases he : e1 = 0
    · have := hfit he
      exact ⟨n.toNat, by rw [if_pos he]; omega, hRR, by omega⟩
    · exact ⟨0, by rw [if_neg he]; rfl, by rw [hRR, Sc.rMany_stop (.inr he), Sc.rMany_stop (.inr he)], by omega⟩
  rw [hN1]
  have HR0 := Lib.hid hN2
  clear hRR hfit hN1 hN2
  go_wp2_with fail
  go_loopw [3, 5] (fun lv iv wr => ∃ (i : Nat) (acc : List Sc.Gro) (s : Sc.St), iv = .int .i64 i ∧ i ≤ N ∧ acc.length ≤ i ∧ okI s.1 ∧ RR = (acc ++ (Sc.rMany (Sc.rGro l) (N - i) s).1, (Sc.rMany (Sc.rGro l) (N - i) s).2) ∧ OwnL 2 49 Sc.OGro wr w.heap.size lv acc ∧ wr.heap[bR]? = some (.cells #[.slice A m c, .int .i64 s.1, .int .i64 s.2] 112) ∧ w.grownBy wr (some bR)) (fun _ iv _ => N - (intOf iv).toNat)
  case atStart => exact ⟨0, [], (a1, e1), rfl, by omega, by simp, ha, by rw [HR0.out]; rfl, OwnL.nil _ _, b, hg⟩
  case round =>
    clear b hg ha HR0
    obtain ⟨i, acc, s, rfl, hi, hacc, ha, hR, hL, b, hg⟩ := hrel
    have HR := Lib.hid hR
    clear hR
    obtain ⟨s0a, s0e⟩ := s
    dsimp only at ha b
    have c2 := blk_cell (j := 2) b
    simp only [List.getElem?_toArray, List.getElem?_cons_zero, List.getElem?_cons_succ] at c2
    have hsz := hg.size
    by_cases hj0 : i = N
    · have t2 : decide ((i : Int) < (N : Int)) = false := by simp; omega
      have HC : Hid (RR = (acc, (s0a, s0e))) := by
        show _ = _
        rw [HR.out, Sc.rMany_stop (by exact .inl (by omega)), List.append_nil]
      clear HR
      obtain ⟨rows, q1, q2, q3, q4⟩ := hL
      obtain ⟨Av, cv, rfl, _⟩ := own_rdK q3
      go_wp2_with fail
      go_ret
      exact ⟨_, rfl, by rw [HC.out]; exact ⟨rows, q1, q2, q3, q4⟩, by rw [HC.out]; exact b, hg⟩
    · have t2 : decide ((i : Int) < (N : Int)) = true := by simp; omega
      by_cases hs : s0e ≠ 0
      · have t3 : (s0e == 0) = false := by simp; omega
        have HC : Hid (RR = (acc, (s0a, s0e))) := by
          show _ = _
          rw [HR.out, Sc.rMany_stop (by exact .inr hs), List.append_nil]
        clear HR
        obtain ⟨rows, q1, q2, q3, q4⟩ := hL
        obtain ⟨Av, cv, rfl, _⟩ := own_rdK q3
        go_wp2_with fail
        go_ret
        exact ⟨_, rfl, by rw [HC.out]; exact ⟨rows, q1, q2, q3, q4⟩, by rw [HC.out]; exact b, hg⟩
      · have hs : s0e = 0 := Classical.not_not.1 hs
        subst hs
        obtain ⟨i', hi'⟩ : ∃ i', N - i = i' + 1 := ⟨N - i - 1, by omega⟩
        rw [hi', Sc.rMany_go rfl] at HR
        obtain ⟨s0, hs0⟩ : ∃ s0 : Sc.St, s0 = (s0a, 0) := ⟨_, rfl⟩
        rw [← hs0] at HR
        rw [show s0a = s0.1 by rw [hs0]] at b ha
        rw [show (0 : Int) = s0.2 by rw [hs0]] at b
        have HS0 := Lib.hid hs0
        go_wp2_with fail
        clear c2
        have h' := hw0.grown hg (by omega) (fun g hgq => by cases hgq; exact hB)
        refine (rrText_any bR A m c l s0.1 s0.2 wr b (h'.more (by omega)) ha hm).mono ?_
        rintro e y0 ⟨rfl, b', hg'⟩
        clear h'
        have ok0 := Sc.rText_ok (l := l) (s := s0) hlen ha
        obtain ⟨R0, hR0⟩ : ∃ R, R = Sc.rText l s0 := ⟨_, rfl⟩
        rw [← hR0] at ok0
        have hE0 : Sc.rText l (s0.1, s0.2) = R0 := hR0.symm
        rw [hE0] at b' ⊢
        clear hE0
        have HR0 := Lib.hid hR0
        clear hR0
        obtain ⟨r0, s1⟩ := R0
        dsimp only at *
        replace ha := ok0.2
        replace hL := OwnL.keeps (O := Sc.OGro) (t := 49) Sc.olGro hL (Keeps.grown hg' b (by decide)) (Keeps.grown hg' b (by decide))
        replace b := b'
        replace hsz := Nat.le_trans hsz hg'.size
        replace hg := grown_trans hg hg'
        clear b' hg'
        go_wp2_with fail
        have h' := hw0.grown hg (by omega) (fun g hgq => by cases hgq; exact hB)
        refine (rrNum_any bR A m c l s1.1 s1.2 y0 b (h'.more (by omega)) ha hm).mono ?_
        rintro e y1 ⟨rfl, b', hg'⟩
        clear h'
        have ok1 := Sc.rNum_ok (l := l) (s := s1) hlen ha
        obtain ⟨R1, hR1⟩ : ∃ R, R = Sc.rNum l s1 := ⟨_, rfl⟩
        rw [← hR1] at ok1
        have hE1 : Sc.rNum l (s1.1, s1.2) = R1 := hR1.symm
        rw [hE1] at b' ⊢
        clear hE1
        have HR1 := Lib.hid hR1
        clear hR1
        obtain ⟨r1, s2⟩ := R1
        dsimp only at *
        replace ha := ok1.2
        replace hL := OwnL.keeps (O := Sc.OGro) (t := 49) Sc.olGro hL (Keeps.grown hg' b (by decide)) (Keeps.grown hg' b (by decide))
        replace b := b'
        replace hsz := Nat.le_trans hsz hg'.size
        replace hg := grown_trans hg hg'
        clear b' hg'
        have HX : Hid (Sc.rGro l s0 = (⟨r0, r1⟩, s2)) := by
          show _ = _
          unfold Sc.rGro
          rw [← HR0.out]
          rw [← HR1.out]
        rw [HX.out] at HR
        dsimp only at HR
        obtain ⟨rows, q1, q2, q3, q4⟩ := hL
        obtain ⟨Av, cv, rfl, _⟩ := own_rdK q3
        obtain ⟨V9, hV⟩ : ∃ V9, V9 = y1.alloc (.cells #[.string (strOf r0), .int .i64 r1] 49) := ⟨_, rfl⟩
        have hb := below_new hV
        have oA := own_below q3 hb
        have dA : ∀ (i : Nat) (x : Sc.Gro) (r : List Value), acc[i]? = some x → rows[i]? = some r → Sc.OGro V9 w.heap.size x r := fun i x r hi hr => Sc.olGro (q4 i x r hi hr) (Keeps.below hb)
        have bA := blk_below b hb
        have hgA : w.grownBy V9 (some bR) := grown_trans hg (grown_of_below hb)
        have hszA := hgA.size
        have hRK := RdK.new 2 y1 #[.string (strOf r0), .int .i64 r1] 49 (0, 0) 1 rfl (by omega)
        rw [← hV] at hRK
        have HV9 := Lib.hid hV.symm
        clear hV hb q3 q4 b hg
        go_wp2_with (at_builtin; rw [HV9.out]; refine wpList_appK _ _ elkGro oA hRK (by simp [Value.oneCell']) (by omega) (by omega) hszA rfl rfl rfl rfl ?_; intro v3 w3 o3 hg3 _; obtain ⟨A3, c3, rfl, _⟩ := own_rdK o3)
        have hSN := OwnL.snoc (O := Sc.OGro) (W := V9) (W' := w3) (B := w.heap.size) Sc.olGro q1 q2 dA (x := ⟨r0, r1⟩) (r := [.string (strOf r0), .int .i64 r1]) rfl rfl (Keeps.grownRow oA hg3 (by decide)) o3
        have bB := blk_grown bA hg3 (fun e => own_blk_ne oA bA (by decide) _ e.symm rfl)
        have hgB := grown_then hgA hg3 (own_lt oA)
        go_roundw
        case rel => exact ⟨i + 1, acc ++ [⟨r0, r1⟩], s2, by go_num, by omega, by simp; omega, ha, by rw [HR.out, show N - (i + 1) = i' by omega]; simp, hSN, bB, hgB⟩
        case measure => simp [intOf] <;> omega

set_option maxRecDepth 100000 in
set_option maxHeartbeats 6000000 in
theorem rrLessons_any (bR : Nat) (A : Option Addr) (m c : Nat) (l : List UInt8) (at_ er : Int) (w : World) (b : w.heap[bR]? = some (.cells #[.slice A m c, .int .i64 at_, .int .i64 er] 112)) (B0 : Nat) (hB : B0 ≤ bR) (h : RdB w B0 A m c l) (ha : okI at_) (hm : m ≤ 1073741824) :
    Calls Tryz.prog 78 #[.pointer (some ⟨bR, 0, none⟩)] w fun e w' => ∃ v, e = .returned v ∧ OwnL 3 59 Sc.OLes w' w.heap.size v (Sc.rAll l 64 (Sc.rLes l) (at_, er)).1 ∧ w'.heap[bR]? = some (.cells #[.slice A m c, .int .i64 (Sc.rAll l 64 (Sc.rLes l) (at_, er)).2.1, .int .i64 (Sc.rAll l 64 (Sc.rLes l) (at_, er)).2.2] 112) ∧ w.grownBy w' (some bR) := by
  have hlen : l.length ≤ 1073741824 := by rw [h.len]; exact hm
  have hbR := blk_lt b
  have hw0 := h
  obtain ⟨RR, hRR⟩ : ∃ RR, RR = Sc.rAll l 64 (Sc.rLes l) (at_, er) := ⟨_, rfl⟩
  rw [← hRR]
  unfold Sc.rAll at hRR
  go_enter Tryz.func78, Tryz.ntmps78
  go_wp2_with fail
  refine (rrMany_any bR A m c l at_ er 64 w b (h.more (by omega)) ha hm).mono ?_
  rintro e w1 ⟨rfl, b', hg⟩
  clear b h
  have hfit := Sc.rCount_fit (l := l) (most := 64) (s := (at_, er))
  have hoa := Sc.rCount_ok (l := l) hlen (most := 64) (s := (at_, er)) ha
  obtain ⟨Q, hQ⟩ : ∃ Q, Q = Sc.rCount l 64 (at_, er) := ⟨_, rfl⟩
  rw [← hQ] at hRR hfit hoa b' ⊢
  clear hQ
  obtain ⟨n, a1, e1⟩ := Q
  dsimp only at hRR hfit hoa b' ⊢
  have b := b'
  clear b' ha
  have ha := hoa
  clear hoa
  obtain ⟨N, hN1, hN2, hN3⟩ : ∃ N : Nat, (if e1 = 0 then n else 0) = (N : Int) ∧ RR = Sc.rMany (Sc.rLes l) N (a1, e1) ∧ N ≤ 64 := by
    by_cases he : e1 = 0
    · have := hfit he
      exact ⟨n.toNat, by rw [if_pos he]; omega, hRR, by omega⟩
    · exact ⟨0, by rw [if_neg he]; rfl, by rw [hRR, Sc.rMany_stop (.inr he), Sc.rMany_stop (.inr he)], by omega⟩
  rw [hN1]
  have HR0 := Lib.hid hN2
  clear hRR hfit hN1 hN2
  go_wp2_with fail
  go_loopw [3, 5] (fun lv iv wr => ∃ (i : Nat) (acc : List Sc.Les) (s : Sc.St), iv = .int .i64 i ∧ i ≤ N ∧ acc.length ≤ i ∧ okI s.1 ∧ RR = (acc ++ (Sc.rMany (Sc.rLes l) (N - i) s).1, (Sc.rMany (Sc.rLes l) (N - i) s).2) ∧ OwnL 3 59 Sc.OLes wr w.heap.size lv acc ∧ wr.heap[bR]? = some (.cells #[.slice A m c, .int .i64 s.1, .int .i64 s.2] 112) ∧ w.grownBy wr (some bR)) (fun _ iv _ => N - (intOf iv).toNat)
  case atStart => exact ⟨0, [], (a1, e1), rfl, by omega, by simp, ha, by rw [HR0.out]; rfl, OwnL.nil _ _, b, hg⟩
  case round =>
    clear b hg ha HR0
    obtain ⟨i, acc, s, rfl, hi, hacc, ha, hR, hL, b, hg⟩ := hrel
    have HR := Lib.hid hR
    clear hR
    obtain ⟨s0a, s0e⟩ := s
    dsimp only at ha b
    have c2 := blk_cell (j := 2) b
    simp only [List.getElem?_toArray, List.getElem?_cons_zero, List.getElem?_cons_succ] at c2
    have hsz := hg.size
    by_cases hj0 : i = N
    · have t2 : decide ((i : Int) < (N : Int)) = false := by simp; omega
      have HC : Hid (RR = (acc, (s0a, s0e))) := by
        show _ = _
        rw [HR.out, Sc.rMany_stop (by exact .inl (by omega)), List.append_nil]
      clear HR
      obtain ⟨rows, q1, q2, q3, q4⟩ := hL
      obtain ⟨Av, cv, rfl, _⟩ := own_rdK q3
      go_wp2_with fail
      go_ret
      exact ⟨_, rfl, by rw [HC.out]; exact ⟨rows, q1, q2, q3, q4⟩, by rw [HC.out]; exact b, hg⟩
    · have t2 : decide ((i : Int) < (N : Int)) = true := by simp; omega
      by_cases hs : s0e ≠ 0
      · have t3 : (s0e == 0) = false := by simp; omega
        have HC : Hid (RR = (acc, (s0a, s0e))) := by
          show _ = _
          rw [HR.out, Sc.rMany_stop (by exact .inr hs), List.append_nil]
        clear HR
        obtain ⟨rows, q1, q2, q3, q4⟩ := hL
        obtain ⟨Av, cv, rfl, _⟩ := own_rdK q3
        go_wp2_with fail
        go_ret
        exact ⟨_, rfl, by rw [HC.out]; exact ⟨rows, q1, q2, q3, q4⟩, by rw [HC.out]; exact b, hg⟩
      · have hs : s0e = 0 := Classical.not_not.1 hs
        subst hs
        obtain ⟨i', hi'⟩ : ∃ i', N - i = i' + 1 := ⟨N - i - 1, by omega⟩
        rw [hi', Sc.rMany_go rfl] at HR
        obtain ⟨s0, hs0⟩ : ∃ s0 : Sc.St, s0 = (s0a, 0) := ⟨_, rfl⟩
        rw [← hs0] at HR
        rw [show s0a = s0.1 by rw [hs0]] at b ha
        rw [show (0 : Int) = s0.2 by rw [hs0]] at b
        have HS0 := Lib.hid hs0
        go_wp2_with fail
        clear c2
        have h' := hw0.grown hg (by omega) (fun g hgq => by cases hgq; exact hB)
        refine (rrText_any bR A m c l s0.1 s0.2 wr b (h'.more (by omega)) ha hm).mono ?_
        rintro e y0 ⟨rfl, b', hg'⟩
        clear h'
        have ok0 := Sc.rText_ok (l := l) (s := s0) hlen ha
        obtain ⟨R0, hR0⟩ : ∃ R, R = Sc.rText l s0 := ⟨_, rfl⟩
        rw [← hR0] at ok0
        have hE0 : Sc.rText l (s0.1, s0.2) = R0 := hR0.symm
        rw [hE0] at b' ⊢
        clear hE0
        have HR0 := Lib.hid hR0
        clear hR0
        obtain ⟨r0, s1⟩ := R0
        dsimp only at *
        replace ha := ok0.2
        replace hL := OwnL.keeps (O := Sc.OLes) (t := 59) Sc.olLes hL (Keeps.grown hg' b (by decide)) (Keeps.grown hg' b (by decide))
        replace b := b'
        replace hsz := Nat.le_trans hsz hg'.size
        replace hg := grown_trans hg hg'
        clear b' hg'
        go_wp2_with fail
        have h' := hw0.grown hg (by omega) (fun g hgq => by cases hgq; exact hB)
        refine (rrNums_any bR A m c l s1.1 s1.2 y0 b (h'.more (by omega)) ha hm).mono ?_
        rintro e y1 ⟨u1, rfl, ho1, b', hg'⟩
        clear h'
        have ok1 := Sc.rList_ok (l := l) (s := s1) hlen ha
        obtain ⟨R1, hR1⟩ : ∃ R, R = Sc.rList l s1 := ⟨_, rfl⟩
        rw [← hR1] at ok1
        have hE1 : Sc.rList l (s1.1, s1.2) = R1 := hR1.symm
        rw [hE1] at b' ho1
        clear hE1
        have HR1 := Lib.hid hR1
        clear hR1
        obtain ⟨r1, s2⟩ := R1
        dsimp only at *
        replace ha := ok1.2.2
        replace hL := OwnL.keeps (O := Sc.OLes) (t := 59) Sc.olLes hL (Keeps.grown hg' b (by decide)) (Keeps.grown hg' b (by decide))
        replace ho1 := own_mono ho1 hsz
        obtain ⟨Au1, cu1, rfl, _⟩ := own_rd ho1
        replace b := b'
        replace hsz := Nat.le_trans hsz hg'.size
        replace hg := grown_trans hg hg'
        clear b' hg'
        go_wp2_with fail
        have h' := hw0.grown hg (by omega) (fun g hgq => by cases hgq; exact hB)
        refine (rrNums_any bR A m c l s2.1 s2.2 y1 b (h'.more (by omega)) ha hm).mono ?_
        rintro e y2 ⟨u2, rfl, ho2, b', hg'⟩
        clear h'
        have ok2 := Sc.rList_ok (l := l) (s := s2) hlen ha
        obtain ⟨R2, hR2⟩ : ∃ R, R = Sc.rList l s2 := ⟨_, rfl⟩
        rw [← hR2] at ok2
        have hE2 : Sc.rList l (s2.1, s2.2) = R2 := hR2.symm
        rw [hE2] at b' ho2
        clear hE2
        have HR2 := Lib.hid hR2
        clear hR2
        obtain ⟨r2, s3⟩ := R2
        dsimp only at *
        replace ha := ok2.2.2
        replace hL := OwnL.keeps (O := Sc.OLes) (t := 59) Sc.olLes hL (Keeps.grown hg' b (by decide)) (Keeps.grown hg' b (by decide))
        replace ho1 := own_grown' ho1 hg' (fun g hgo e => own_blk_ne ho1 b (by decide) g hgo (Option.some.inj e).symm)
        replace ho2 := own_mono ho2 hsz
        obtain ⟨Au2, cu2, rfl, _⟩ := own_rd ho2
        replace b := b'
        replace hsz := Nat.le_trans hsz hg'.size
        replace hg := grown_trans hg hg'
        clear b' hg'
        have HX : Hid (Sc.rLes l s0 = (⟨r0, r1, r2⟩, s3)) := by
          show _ = _
          unfold Sc.rLes
          rw [← HR0.out]
          rw [← HR1.out]
          rw [← HR2.out]
        rw [HX.out] at HR
        dsimp only at HR
        obtain ⟨rows, q1, q2, q3, q4⟩ := hL
        obtain ⟨Av, cv, rfl, _⟩ := own_rdK q3
        obtain ⟨V9, hV⟩ : ∃ V9, V9 = y2.alloc (.cells #[.string (strOf r0), .slice Au1 r1.length cu1, .slice Au2 r2.length cu2] 59) := ⟨_, rfl⟩
        have hb := below_new hV
        have oA := own_below q3 hb
        have dA : ∀ (i : Nat) (x : Sc.Les) (r : List Value), acc[i]? = some x → rows[i]? = some r → Sc.OLes V9 w.heap.size x r := fun i x r hi hr => Sc.olLes (q4 i x r hi hr) (Keeps.below hb)
        have hp1 := own_below ho1 hb
        have hp2 := own_below ho2 hb
        have bA := blk_below b hb
        have hgA : w.grownBy V9 (some bR) := grown_trans hg (grown_of_below hb)
        have hszA := hgA.size
        have hRK := RdK.new 3 y2 #[.string (strOf r0), .slice Au1 r1.length cu1, .slice Au2 r2.length cu2] 59 (0, 0) 1 rfl (by omega)
        rw [← hV] at hRK
        have HV9 := Lib.hid hV.symm
        clear hV hb q3 q4 b hg ho1 ho2
        go_wp2_with (at_builtin; rw [HV9.out]; refine wpList_appK _ _ elkLes oA hRK (by simp [Value.oneCell']) (by omega) (by omega) hszA rfl rfl rfl rfl ?_; intro v3 w3 o3 hg3 _; obtain ⟨A3, c3, rfl, _⟩ := own_rdK o3)
        have hSN := OwnL.snoc (O := Sc.OLes) (W := V9) (W' := w3) (B := w.heap.size) Sc.olLes q1 q2 dA (x := ⟨r0, r1, r2⟩) (r := [.string (strOf r0), .slice Au1 r1.length cu1, .slice Au2 r2.length cu2]) rfl ⟨_, _, rfl, hp1, hp2⟩ (Keeps.grownRow oA hg3 (by decide)) o3
        have bB := blk_grown bA hg3 (fun e => own_blk_ne oA bA (by decide) _ e.symm rfl)
        have hgB := grown_then hgA hg3 (own_lt oA)
        go_roundw
        case rel => exact ⟨i + 1, acc ++ [⟨r0, r1, r2⟩], s3, by go_num, by omega, by simp; omega, ha, by rw [HR.out, show N - (i + 1) = i' by omega]; simp, hSN, bB, hgB⟩
        case measure => simp [intOf] <;> omega

end Go.Proofs.YtfockoihmoljfaaGreatDoor
