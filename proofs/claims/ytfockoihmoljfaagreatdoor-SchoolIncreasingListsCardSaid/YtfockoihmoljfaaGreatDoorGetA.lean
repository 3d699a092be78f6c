/-
  The walks of getAll.
-/
import Derived.Test.YtfockoihmoljfaaGreatDoorElGet
import Derived.Test.YtfockoihmoljfaaGreatDoorLotC
namespace Go.Proofs.YtfockoihmoljfaaGreatDoor
open Go.RowKit Go.Shelf
set_option linter.unusedVariables false
set_option linter.unusedSimpArgs false

theorem elkSlo : ElK Tryz.prog 3 22 69 (.agg #[.string ⟨#[]⟩, .int .i64 0, .int .i64 0]) 32 := ⟨Tryz.underlying22, by kernel_rfl, rfl, by omega⟩

set_option maxRecDepth 100000 in
set_option maxHeartbeats 6000000 in
theorem gaS_any (bP bR : Nat) (A : Option Addr) (m c : Nat) (l : List UInt8) (at_ er most : Int) (w : World) (bp : w.heap[bP]? = some (.cells #[.pointer (some ⟨bR, 0, none⟩)] 94)) (b : w.heap[bR]? = some (.cells #[.slice A m c, .int .i64 at_, .int .i64 er] 96)) (B0 : Nat) (hB : B0 ≤ bR) (h : RdB w B0 A m c l) (ha : okI at_) (hm : m ≤ 1073741824) (hmo : 0 ≤ most ∧ most ≤ 64) :
    Calls Tryz.prog 61 #[.pointer (some ⟨bR, 0, none⟩), .int .i64 most, .func (.func 62) #[] #[.pointer (some ⟨bP, 0, none⟩)]] w fun e w' => ∃ v, e = .returned v ∧ OwnL 3 69 Sc.OSlo w' w.heap.size v (Sc.rAll l most (Sc.rSlo l) (at_, er)).1 ∧ w'.heap[bR]? = some (.cells #[.slice A m c, .int .i64 (Sc.rAll l most (Sc.rSlo l) (at_, er)).2.1, .int .i64 (Sc.rAll l most (Sc.rSlo l) (at_, er)).2.2] 96) ∧ w.grownBy w' (some bR) := by
  have hlen : l.length ≤ 1073741824 := by rw [h.len]; exact hm
  have hbR := blk_lt b
  have hbP := blk_lt bp
  have hne : bP ≠ bR := fun e => by rw [e, b] at bp; cases bp
  have hw0 := h
  obtain ⟨RR, hRR⟩ : ∃ RR, RR = Sc.rAll l most (Sc.rSlo l) (at_, er) := ⟨_, rfl⟩
  rw [← hRR]
  unfold Sc.rAll Sc.rCount at hRR
  go_enter Tryz.func61, Tryz.ntmps61
  go_wp2_with fail
  refine (rdNum_any bR A m c l at_ er w b (h.more (by omega)) ha hm).mono ?_
  rintro e w1 ⟨rfl, b', hg⟩
  have ok0 := Sc.rNum_ok (l := l) (s := (at_, er)) hlen ha
  obtain ⟨Q, hQ⟩ : ∃ Q, Q = Sc.rNum l (at_, er) := ⟨_, rfl⟩
  rw [← hQ] at hRR ok0 b' ⊢
  clear hQ b
  obtain ⟨n, a1, e1⟩ := Q
  dsimp only at hRR ok0 b' ⊢
  have b := b'
  clear b'
  replace h := h.grown hg (by omega) (fun g hgq => by cases hgq; exact hB)
  replace bp := blk_grown bp hg (fun e => hne (Option.some.inj e))
  have hsz := hg.size
  replace ha := ok0.2
  have hn := ok0.1
  unfold okI at hn
  clear ok0
  have HRR := Lib.hid hRR
  clear hRR
  by_cases he : e1 ≠ 0
  · have HC : Hid (RR = ([], (a1, e1))) := by
      show _ = _
      rw [HRR.out, if_neg he]
      exact Sc.rMany_stop (.inr he)
    clear HRR
    have t1 : (e1 != 0) = true := by simp; omega
    have t1' : (e1 == 0) = false := by simp; omega
    have c2 := blk_cell (j := 2) b
    simp only [List.getElem?_toArray, List.getElem?_cons_zero, List.getElem?_cons_succ] at c2
    go_wp2_with fail
    clear c2
    generalize hwz : w1 = wz at *
    clear hwz
    by_cases hn0 : 0 < n
    · have t2 : decide (0 < n) = true := by simp; omega
      go_loopw [7, 8] (fun nv lv wr => nv = .int .i64 n ∧ lv = .slice none 0 0 ∧ wr = wz) (fun _ _ _ => 0)
      case atStart => exact ⟨rfl, rfl, rfl⟩
      case round =>
        obtain ⟨rfl, rfl, rfl⟩ := hrel

        have c2 := blk_cell (j := 2) b
        simp only [List.getElem?_toArray, List.getElem?_cons_zero, List.getElem?_cons_succ] at c2
        go_wp2_with fail
        go_ret
        exact ⟨_, rfl, by rw [HC.out]; exact OwnL.nil _ _, by rw [HC.out]; exact b, hg⟩
    · have t2 : decide (0 < n) = false := by simp; omega
      go_loopw [7, 8] (fun nv lv wr => nv = .int .i64 n ∧ lv = .slice none 0 0 ∧ wr = wz) (fun _ _ _ => 0)
      case atStart => exact ⟨rfl, rfl, rfl⟩
      case round =>
        obtain ⟨rfl, rfl, rfl⟩ := hrel

        have c2 := blk_cell (j := 2) b
        simp only [List.getElem?_toArray, List.getElem?_cons_zero, List.getElem?_cons_succ] at c2
        go_wp2_with fail
        go_ret
        exact ⟨_, rfl, by rw [HC.out]; exact OwnL.nil _ _, by rw [HC.out]; exact b, hg⟩
  · have he : e1 = 0 := Classical.not_not.1 he
    subst he
    by_cases hneg : n < 0
    · have t1 : decide (n < 0) = true := by simp; omega
      have HC : Hid (RR = ([], (a1, 11))) := by
        show _ = _
        rw [HRR.out, if_pos rfl, if_pos hneg]
        exact Sc.rMany_stop (.inr (by simp))
      clear HRR
      have c2 := blk_cell (j := 2) b
      simp only [List.getElem?_toArray, List.getElem?_cons_zero, List.getElem?_cons_succ] at c2
      have f2 := blk_frozen 2 b
      go_wp2_with fail
      clear c2 f2
      replace b := blk_set (k := 2) (.int .i64 11) b
      simp only [List.setIfInBounds_toArray, List.set_cons_zero, List.set_cons_succ] at b
      replace hg : w.grownBy (w1.setCell ⟨bR, 2, none⟩ (.int .i64 11)) (some bR) := grown_set hg
      clear h bp hsz
      generalize w1.setCell ⟨bR, 2, none⟩ (.int .i64 11) = wz at *
      have t2 : decide (0 < n) = false := by simp; omega
      go_loopw [7, 8] (fun nv lv wr => nv = .int .i64 n ∧ lv = .slice none 0 0 ∧ wr = wz) (fun _ _ _ => 0)
      case atStart => exact ⟨rfl, rfl, rfl⟩
      case round =>
        obtain ⟨rfl, rfl, rfl⟩ := hrel

        have c2 := blk_cell (j := 2) b
        simp only [List.getElem?_toArray, List.getElem?_cons_zero, List.getElem?_cons_succ] at c2
        go_wp2_with fail
        go_ret
        exact ⟨_, rfl, by rw [HC.out]; exact OwnL.nil _ _, by rw [HC.out]; exact b, hg⟩
    · have t1 : decide (n < 0) = false := by simp; omega
      by_cases hbig : most < n
      · have t3 : decide (most < n) = true := by simp; omega
        have HC : Hid (RR = ([], (a1, 2))) := by
          show _ = _
          rw [HRR.out, if_pos rfl, if_neg hneg, if_pos hbig]
          exact Sc.rMany_stop (.inr (by simp))
        clear HRR
        have c2 := blk_cell (j := 2) b
        simp only [List.getElem?_toArray, List.getElem?_cons_zero, List.getElem?_cons_succ] at c2
        have f2 := blk_frozen 2 b
        go_wp2_with fail
        clear c2 f2
        replace b := blk_set (k := 2) (.int .i64 2) b
        simp only [List.setIfInBounds_toArray, List.set_cons_zero, List.set_cons_succ] at b
        replace hg : w.grownBy (w1.setCell ⟨bR, 2, none⟩ (.int .i64 2)) (some bR) := grown_set hg
        clear h bp hsz
        generalize w1.setCell ⟨bR, 2, none⟩ (.int .i64 2) = wz at *
        have t2 : decide (0 < n) = true := by simp; omega
        go_loopw [7, 8] (fun nv lv wr => nv = .int .i64 n ∧ lv = .slice none 0 0 ∧ wr = wz) (fun _ _ _ => 0)
        case atStart => exact ⟨rfl, rfl, rfl⟩
        case round =>
          obtain ⟨rfl, rfl, rfl⟩ := hrel

          have c2 := blk_cell (j := 2) b
          simp only [List.getElem?_toArray, List.getElem?_cons_zero, List.getElem?_cons_succ] at c2
          go_wp2_with fail
          go_ret
          exact ⟨_, rfl, by rw [HC.out]; exact OwnL.nil _ _, by rw [HC.out]; exact b, hg⟩
      · have t3 : decide (most < n) = false := by simp; omega
        obtain ⟨N, rfl⟩ : ∃ N : Nat, n = N := ⟨n.toNat, by omega⟩
        have HC : Hid (RR = Sc.rMany (Sc.rSlo l) N (a1, 0)) := by
          show _ = _
          rw [HRR.out, if_pos rfl, if_neg hneg, if_neg hbig]
          simp
        clear HRR
        have c2 := blk_cell (j := 2) b
        simp only [List.getElem?_toArray, List.getElem?_cons_zero, List.getElem?_cons_succ] at c2
        go_wp2_with fail
        clear c2
        go_loopw [7, 8] (fun nv lv wr => ∃ (j : Nat) (acc : List Sc.Slo) (s : Sc.St), nv = .int .i64 j ∧ acc.length + j ≤ 64 ∧ okI s.1 ∧ RR = (acc ++ (Sc.rMany (Sc.rSlo l) j s).1, (Sc.rMany (Sc.rSlo l) j s).2) ∧ OwnL 3 69 Sc.OSlo wr w.heap.size lv acc ∧ wr.heap[bR]? = some (.cells #[.slice A m c, .int .i64 s.1, .int .i64 s.2] 96) ∧ wr.heap[bP]? = some (.cells #[.pointer (some ⟨bR, 0, none⟩)] 94) ∧ w.grownBy wr (some bR)) (fun nv _ _ => (intOf nv).toNat)
        case atStart => exact ⟨N, [], (a1, 0), rfl, by simp; omega, ha, by rw [HC.out]; rfl, OwnL.nil _ _, b, bp, hg⟩
        case round =>
          clear b bp hg ha HC hsz
          obtain ⟨j, acc, s, rfl, hj, ha, hR, hL, b, bp, hg⟩ := hrel
          have HR := Lib.hid hR
          clear hR
          obtain ⟨sa, se⟩ := s
          dsimp only at ha b
          have c2 := blk_cell (j := 2) b
          simp only [List.getElem?_toArray, List.getElem?_cons_zero, List.getElem?_cons_succ] at c2
          have hsz := hg.size
          by_cases hj0 : j = 0
          · have t2 : decide (0 < (j : Int)) = false := by simp; omega
            have HC : Hid (RR = (acc, (sa, se))) := by
              show _ = _
              rw [HR.out, Sc.rMany_stop (by exact .inl (by omega)), List.append_nil]
            clear HR
            obtain ⟨rows, q1, q2, q3, q4⟩ := hL
            obtain ⟨Av, cv, rfl, _⟩ := own_rdK q3
            go_wp2_with fail
            go_ret
            exact ⟨_, rfl, by rw [HC.out]; exact ⟨rows, q1, q2, q3, q4⟩, by rw [HC.out]; exact b, hg⟩
          · have t2 : decide (0 < (j : Int)) = true := by simp; omega
            by_cases hs : se ≠ 0
            · have t3 : (se == 0) = false := by simp; omega
              have HC : Hid (RR = (acc, (sa, se))) := by
                show _ = _
                rw [HR.out, Sc.rMany_stop (by exact .inr hs), List.append_nil]
              clear HR
              obtain ⟨rows, q1, q2, q3, q4⟩ := hL
              obtain ⟨Av, cv, rfl, _⟩ := own_rdK q3
              go_wp2_with fail
              go_ret
              exact ⟨_, rfl, by rw [HC.out]; exact ⟨rows, q1, q2, q3, q4⟩, by rw [HC.out]; exact b, hg⟩
            · have hs : se = 0 := Classical.not_not.1 hs
              subst hs
              obtain ⟨i, rfl⟩ : ∃ i, j = i + 1 := ⟨j - 1, by omega⟩
              rw [Sc.rMany_go rfl] at HR
              obtain ⟨rows, q1, q2, q3, q4⟩ := hL
              obtain ⟨Av, cv, rfl, _⟩ := own_rdK q3
              have h' := hw0.grown hg (by omega) (fun g hgq => by cases hgq; exact hB)
              go_wp2_with fail
              clear c2
              refine (sGet1_any bP bR A m c l sa 0 wr bp b B0 hB h' ha hm).mono ?_
              rintro e w2 ⟨rfl, b', hg2⟩
              have okE := Sc.elSlo_ok (l := l) (s := (sa, 0)) hlen ha
              obtain ⟨X, hX⟩ : ∃ X, X = Sc.rSlo l (sa, 0) := ⟨_, rfl⟩
              rw [← hX] at HR b' okE ⊢
              clear hX
              obtain ⟨x, s2⟩ := X
              dsimp only at *
              have kt : Keeps 69 wr w2 := Keeps.grown hg2 b (by decide)
              have ki : Keeps 3 wr w2 := Keeps.grown hg2 b (by decide)
              obtain ⟨V9, hV⟩ : ∃ V9, V9 = w2.alloc (.cells #[.string (strOf x.name), .int .i64 x.day, .int .i64 x.hour] 69) := ⟨_, rfl⟩
              have hb := below_new hV
              have oA := own_below (own_keeps q3 kt) hb
              have dA : ∀ (i : Nat) (x : Sc.Slo) (r : List Value), acc[i]? = some x → rows[i]? = some r → Sc.OSlo V9 w.heap.size x r := fun i x r hi hr => Sc.olSlo (Sc.olSlo (q4 i x r hi hr) ki) (Keeps.below hb)
              have bA := blk_below b' hb
              have bpA := blk_below (blk_grown bp hg2 (fun e => hne (Option.some.inj e))) hb
              have hgA : w.grownBy V9 (some bR) := grown_trans (grown_trans hg hg2) (grown_of_below hb)
              have hszA := hgA.size
              have hRK := RdK.new 3 w2 #[.string (strOf x.name), .int .i64 x.day, .int .i64 x.hour] 69 (0, 0) 1 rfl (by omega)
              rw [← hV] at hRK
              have HV9 := Lib.hid hV.symm
              clear hV hb kt ki q3 q4 b bp b' hg hg2
              go_wp2_with (at_builtin; rw [HV9.out]; refine wpList_appK _ _ elkSlo oA hRK (by simp [Value.oneCell']) (by omega) (by omega) hszA rfl rfl rfl rfl ?_; intro v3 w3 o3 hg3 _; obtain ⟨A3, c3, rfl, _⟩ := own_rdK o3)
              have hSN := OwnL.snoc (O := Sc.OSlo) (W := V9) (W' := w3) (B := w.heap.size) Sc.olSlo q1 q2 dA (x := x) (r := [.string (strOf x.name), .int .i64 x.day, .int .i64 x.hour]) rfl rfl (Keeps.grownRow oA hg3 (by decide)) o3
              have bB := blk_grown bA hg3 (fun e => own_blk_ne oA bA (by decide) _ e.symm rfl)
              have bpB := blk_grown bpA hg3 (fun e => own_blk_ne oA bpA (by decide) _ e.symm rfl)
              have hgB := grown_then hgA hg3 (own_lt oA)
              go_roundw
              case rel => exact ⟨i, acc ++ [x], s2, by go_num, by simp; omega, okE.2, by rw [HR.out]; simp, hSN, bB, bpB, hgB⟩
              case measure => simp [intOf] <;> omega

theorem elkRoo : ElK Tryz.prog 4 23 53 (.agg #[.string ⟨#[]⟩, .int .i64 0, .int .i64 0, .slice none 0 0]) 56 := ⟨Tryz.underlying23, by kernel_rfl, rfl, by omega⟩

set_option maxRecDepth 100000 in
set_option maxHeartbeats 6000000 in
theorem gaR_any (bP bR : Nat) (A : Option Addr) (m c : Nat) (l : List UInt8) (at_ er most : Int) (w : World) (bp : w.heap[bP]? = some (.cells #[.pointer (some ⟨bR, 0, none⟩)] 94)) (b : w.heap[bR]? = some (.cells #[.slice A m c, .int .i64 at_, .int .i64 er] 96)) (B0 : Nat) (hB : B0 ≤ bR) (h : RdB w B0 A m c l) (ha : okI at_) (hm : m ≤ 1073741824) (hmo : 0 ≤ most ∧ most ≤ 64) :
    Calls Tryz.prog 65 #[.pointer (some ⟨bR, 0, none⟩), .int .i64 most, .func (.func 66) #[] #[.pointer (some ⟨bP, 0, none⟩)]] w fun e w' => ∃ v, e = .returned v ∧ OwnL 4 53 Sc.ORoo w' w.heap.size v (Sc.rAll l most (Sc.rRoo l) (at_, er)).1 ∧ w'.heap[bR]? = some (.cells #[.slice A m c, .int .i64 (Sc.rAll l most (Sc.rRoo l) (at_, er)).2.1, .int .i64 (Sc.rAll l most (Sc.rRoo l) (at_, er)).2.2] 96) ∧ w.grownBy w' (some bR) := by
  have hlen : l.length ≤ 1073741824 := by rw [h.len]; exact hm
  have hbR := blk_lt b
  have hbP := blk_lt bp
  have hne : bP ≠ bR := fun e => by rw [e, b] at bp; cases bp
  have hw0 := h
  obtain ⟨RR, hRR⟩ : ∃ RR, RR = Sc.rAll l most (Sc.rRoo l) (at_, er) := ⟨_, rfl⟩
  rw [← hRR]
  unfold Sc.rAll Sc.rCount at hRR
  go_enter Tryz.func65, Tryz.ntmps65
  go_wp2_with fail
  refine (rdNum_any bR A m c l at_ er w b (h.more (by omega)) ha hm).mono ?_
  rintro e w1 ⟨rfl, b', hg⟩
  have ok0 := Sc.rNum_ok (l := l) (s := (at_, er)) hlen ha
  obtain ⟨Q, hQ⟩ : ∃ Q, Q = Sc.rNum l (at_, er) := ⟨_, rfl⟩
  rw [← hQ] at hRR ok0 b' ⊢
  clear hQ b
  obtain ⟨n, a1, e1⟩ := Q
  dsimp only at hRR ok0 b' ⊢
  have b := b'
  clear b'
  replace h := h.grown hg (by omega) (fun g hgq => by cases hgq; exact hB)
  replace bp := blk_grown bp hg (fun e => hne (Option.some.inj e))
  have hsz := hg.size
  replace ha := ok0.2
  have hn := ok0.1
  unfold okI at hn
  clear ok0
  have HRR := Lib.hid hRR
  clear hRR
  by_cases he : e1 ≠ 0
  · have HC : Hid (RR = ([], (a1, e1))) := by
      show _ = _
      rw [HRR.out, if_neg he]
      exact Sc.rMany_stop (.inr he)
    clear HRR
    have t1 : (e1 != 0) = true := by simp; omega
    have t1' : (e1 == 0) = false := by simp; omega
    have c2 := blk_cell (j := 2) b
    simp only [List.getElem?_toArray, List.getElem?_cons_zero, List.getElem?_cons_succ] at c2
    go_wp2_with fail
    clear c2
    generalize hwz : w1 = wz at *
    clear hwz
    by_cases hn0 : 0 < n
    · have t2 : decide (0 < n) = true := by simp; omega
      go_loopw [7, 8] (fun nv lv wr => nv = .int .i64 n ∧ lv = .slice none 0 0 ∧ wr = wz) (fun _ _ _ => 0)
      case atStart => exact ⟨rfl, rfl, rfl⟩
      case round =>
        obtain ⟨rfl, rfl, rfl⟩ := hrel

        have c2 := blk_cell (j := 2) b
        simp only [List.getElem?_toArray, List.getElem?_cons_zero, List.getElem?_cons_succ] at c2
        go_wp2_with fail
        go_ret
        exact ⟨_, rfl, by rw [HC.out]; exact OwnL.nil _ _, by rw [HC.out]; exact b, hg⟩
    · have t2 : decide (0 < n) = false := by simp; omega
      go_loopw [7, 8] (fun nv lv wr => nv = .int .i64 n ∧ lv = .slice none 0 0 ∧ wr = wz) (fun _ _ _ => 0)
      case atStart => exact ⟨rfl, rfl, rfl⟩
      case round =>
        obtain ⟨rfl, rfl, rfl⟩ := hrel

        have c2 := blk_cell (j := 2) b
        simp only [List.getElem?_toArray, List.getElem?_cons_zero, List.getElem?_cons_succ] at c2
        go_wp2_with fail
        go_ret
        exact ⟨_, rfl, by rw [HC.out]; exact OwnL.nil _ _, by rw [HC.out]; exact b, hg⟩
  · have he : e1 = 0 := Classical.not_not.1 he
    subst he
    by_cases hneg : n < 0
    · have t1 : decide (n < 0) = true := by simp; omega
      have HC : Hid (RR = ([], (a1, 11))) := by
        show _ = _
        rw [HRR.out, if_pos rfl, if_pos hneg]
        exact Sc.rMany_stop (.inr (by simp))
      clear HRR
      have c2 := blk_cell (j := 2) b
      simp only [List.getElem?_toArray, List.getElem?_cons_zero, List.getElem?_cons_succ] at c2
      have f2 := blk_frozen 2 b
      go_wp2_with fail
      clear c2 f2
      replace b := blk_set (k := 2) (.int .i64 11) b
      simp only [List.setIfInBounds_toArray, List.set_cons_zero, List.set_cons_succ] at b
      replace hg : w.grownBy (w1.setCell ⟨bR, 2, none⟩ (.int .i64 11)) (some bR) := grown_set hg
      clear h bp hsz
      generalize w1.setCell ⟨bR, 2, none⟩ (.int .i64 11) = wz at *
      have t2 : decide (0 < n) = false := by simp; omega
      go_loopw [7, 8] (fun nv lv wr => nv = .int .i64 n ∧ lv = .slice none 0 0 ∧ wr = wz) (fun _ _ _ => 0)
      case atStart => exact ⟨rfl, rfl, rfl⟩
      case round =>
        obtain ⟨rfl, rfl, rfl⟩ := hrel

        have c2 := blk_cell (j := 2) b
        simp only [List.getElem?_toArray, List.getElem?_cons_zero, List.getElem?_cons_succ] at c2
        go_wp2_with fail
        go_ret
        exact ⟨_, rfl, by rw [HC.out]; exact OwnL.nil _ _, by rw [HC.out]; exact b, hg⟩
    · have t1 : decide (n < 0) = false := by simp; omega
      by_cases hbig : most < n
      · have t3 : decide (most < n) = true := by simp; omega
        have HC : Hid (RR = ([], (a1, 2))) := by
          show _ = _
          rw [HRR.out, if_pos rfl, if_neg hneg, if_pos hbig]
          exact Sc.rMany_stop (.inr (by simp))
        clear HRR
        have c2 := blk_cell (j := 2) b
        simp only [List.getElem?_toArray, List.getElem?_cons_zero, List.getElem?_cons_succ] at c2
        have f2 := blk_frozen 2 b
        go_wp2_with fail
        clear c2 f2
        replace b := blk_set (k := 2) (.int .i64 2) b
        simp only [List.setIfInBounds_toArray, List.set_cons_zero, List.set_cons_succ] at b
        replace hg : w.grownBy (w1.setCell ⟨bR, 2, none⟩ (.int .i64 2)) (some bR) := grown_set hg
        clear h bp hsz
        generalize w1.setCell ⟨bR, 2, none⟩ (.int .i64 2) = wz at *
        have t2 : decide (0 < n) = true := by simp; omega
        go_loopw [7, 8] (fun nv lv wr => nv = .int .i64 n ∧ lv = .slice none 0 0 ∧ wr = wz) (fun _ _ _ => 0)
        case atStart => exact ⟨rfl, rfl, rfl⟩
        case round =>
          obtain ⟨rfl, rfl, rfl⟩ := hrel

          have c2 := blk_cell (j := 2) b
          simp only [List.getElem?_toArray, List.getElem?_cons_zero, List.getElem?_cons_succ] at c2
          go_wp2_with fail
          go_ret
          exact ⟨_, rfl, by rw [HC.out]; exact OwnL.nil _ _, by rw [HC.out]; exact b, hg⟩
      · have t3 : decide (most < n) = false := by simp; omega
        obtain ⟨N, rfl⟩ : ∃ N : Nat, n = N := ⟨n.toNat, by omega⟩
        have HC : Hid (RR = Sc.rMany (Sc.rRoo l) N (a1, 0)) := by
          show _ = _
          rw [HRR.out, if_pos rfl, if_neg hneg, if_neg hbig]
          simp
        clear HRR
        have c2 := blk_cell (j := 2) b
        simp only [List.getElem?_toArray, List.getElem?_cons_zero, List.getElem?_cons_succ] at c2
        go_wp2_with fail
        clear c2
        go_loopw [7, 8] (fun nv lv wr => ∃ (j : Nat) (acc : List Sc.Roo) (s : Sc.St), nv = .int .i64 j ∧ acc.length + j ≤ 64 ∧ okI s.1 ∧ RR = (acc ++ (Sc.rMany (Sc.rRoo l) j s).1, (Sc.rMany (Sc.rRoo l) j s).2) ∧ OwnL 4 53 Sc.ORoo wr w.heap.size lv acc ∧ wr.heap[bR]? = some (.cells #[.slice A m c, .int .i64 s.1, .int .i64 s.2] 96) ∧ wr.heap[bP]? = some (.cells #[.pointer (some ⟨bR, 0, none⟩)] 94) ∧ w.grownBy wr (some bR)) (fun nv _ _ => (intOf nv).toNat)
        case atStart => exact ⟨N, [], (a1, 0), rfl, by simp; omega, ha, by rw [HC.out]; rfl, OwnL.nil _ _, b, bp, hg⟩
        case round =>
          clear b bp hg ha HC hsz
          obtain ⟨j, acc, s, rfl, hj, ha, hR, hL, b, bp, hg⟩ := hrel
          have HR := Lib.hid hR
          clear hR
          obtain ⟨sa, se⟩ := s
          dsimp only at ha b
          have c2 := blk_cell (j := 2) b
          simp only [List.getElem?_toArray, List.getElem?_cons_zero, List.getElem?_cons_succ] at c2
          have hsz := hg.size
          by_cases hj0 : j = 0
          · have t2 : decide (0 < (j : Int)) = false := by simp; omega
            have HC : Hid (RR = (acc, (sa, se))) := by
              show _ = _
              rw [HR.out, Sc.rMany_stop (by exact .inl (by omega)), List.append_nil]
            clear HR
            obtain ⟨rows, q1, q2, q3, q4⟩ := hL
            obtain ⟨Av, cv, rfl, _⟩ := own_rdK q3
            go_wp2_with fail
            go_ret
            exact ⟨_, rfl, by rw [HC.out]; exact ⟨rows, q1, q2, q3, q4⟩, by rw [HC.out]; exact b, hg⟩
          · have t2 : decide (0 < (j : Int)) = true := by simp; omega
            by_cases hs : se ≠ 0
            · have t3 : (se == 0) = false := by simp; omega
              have HC : Hid (RR = (acc, (sa, se))) := by
                show _ = _
                rw [HR.out, Sc.rMany_stop (by exact .inr hs), List.append_nil]
              clear HR
              obtain ⟨rows, q1, q2, q3, q4⟩ := hL
              obtain ⟨Av, cv, rfl, _⟩ := own_rdK q3
              go_wp2_with fail
              go_ret
              exact ⟨_, rfl, by rw [HC.out]; exact ⟨rows, q1, q2, q3, q4⟩, by rw [HC.out]; exact b, hg⟩
            · have hs : se = 0 := Classical.not_not.1 hs
              subst hs
              obtain ⟨i, rfl⟩ : ∃ i, j = i + 1 := ⟨j - 1, by omega⟩
              rw [Sc.rMany_go rfl] at HR
              obtain ⟨rows, q1, q2, q3, q4⟩ := hL
              obtain ⟨Av, cv, rfl, _⟩ := own_rdK q3
              have h' := hw0.grown hg (by omega) (fun g hgq => by cases hgq; exact hB)
              go_wp2_with fail
              clear c2
              refine (sGet2_any bP bR A m c l sa 0 wr bp b B0 hB h' ha hm).mono ?_
              rintro e w2 ⟨u3, rfl, ho3, b', hg2⟩
              have okE := Sc.elRoo_ok (l := l) (s := (sa, 0)) hlen ha
              obtain ⟨X, hX⟩ : ∃ X, X = Sc.rRoo l (sa, 0) := ⟨_, rfl⟩
              rw [← hX] at HR b' okE ho3 ⊢
              clear hX
              obtain ⟨x, s2⟩ := X
              dsimp only at *
              replace ho3 := own_mono ho3 hsz
              obtain ⟨Au3, cu3, rfl, _⟩ := own_rd ho3
              have kt : Keeps 53 wr w2 := Keeps.grown hg2 b (by decide)
              have ki : Keeps 3 wr w2 := Keeps.grown hg2 b (by decide)
              obtain ⟨V9, hV⟩ : ∃ V9, V9 = w2.alloc (.cells #[.string (strOf x.name), .int .i64 x.house, .int .i64 x.seats, .slice Au3 x.shut.length cu3] 53) := ⟨_, rfl⟩
              have hb := below_new hV
              have oA := own_below (own_keeps q3 kt) hb
              have dA : ∀ (i : Nat) (x : Sc.Roo) (r : List Value), acc[i]? = some x → rows[i]? = some r → Sc.ORoo V9 w.heap.size x r := fun i x r hi hr => Sc.olRoo (Sc.olRoo (q4 i x r hi hr) ki) (Keeps.below hb)
              have hp3 := own_below ho3 hb
              have bA := blk_below b' hb
              have bpA := blk_below (blk_grown bp hg2 (fun e => hne (Option.some.inj e))) hb
              have hgA : w.grownBy V9 (some bR) := grown_trans (grown_trans hg hg2) (grown_of_below hb)
              have hszA := hgA.size
              have hRK := RdK.new 4 w2 #[.string (strOf x.name), .int .i64 x.house, .int .i64 x.seats, .slice Au3 x.shut.length cu3] 53 (0, 0) 1 rfl (by omega)
              rw [← hV] at hRK
              have HV9 := Lib.hid hV.symm
              clear hV hb kt ki q3 q4 b bp b' hg hg2 ho3
              go_wp2_with (at_builtin; rw [HV9.out]; refine wpList_appK _ _ elkRoo oA hRK (by simp [Value.oneCell']) (by omega) (by omega) hszA rfl rfl rfl rfl ?_; intro v3 w3 o3 hg3 _; obtain ⟨A3, c3, rfl, _⟩ := own_rdK o3)
              have hSN := OwnL.snoc (O := Sc.ORoo) (W := V9) (W' := w3) (B := w.heap.size) Sc.olRoo q1 q2 dA (x := x) (r := [.string (strOf x.name), .int .i64 x.house, .int .i64 x.seats, .slice Au3 x.shut.length cu3]) rfl ⟨_, rfl, hp3⟩ (Keeps.grownRow oA hg3 (by decide)) o3
              have bB := blk_grown bA hg3 (fun e => own_blk_ne oA bA (by decide) _ e.symm rfl)
              have bpB := blk_grown bpA hg3 (fun e => own_blk_ne oA bpA (by decide) _ e.symm rfl)
              have hgB := grown_then hgA hg3 (own_lt oA)
              go_roundw
              case rel => exact ⟨i, acc ++ [x], s2, by go_num, by simp; omega, okE.2, by rw [HR.out]; simp, hSN, bB, bpB, hgB⟩
              case measure => simp [intOf] <;> omega

theorem elkPer : ElK Tryz.prog 2 24 57 (.agg #[.string ⟨#[]⟩, .slice none 0 0]) 40 := ⟨Tryz.underlying24, by kernel_rfl, rfl, by omega⟩

set_option maxRecDepth 100000 in
set_option maxHeartbeats 6000000 in
theorem gaP_any (bP bR : Nat) (A : Option Addr) (m c : Nat) (l : List UInt8) (at_ er most : Int) (w : World) (bp : w.heap[bP]? = some (.cells #[.pointer (some ⟨bR, 0, none⟩)] 94)) (b : w.heap[bR]? = some (.cells #[.slice A m c, .int .i64 at_, .int .i64 er] 96)) (B0 : Nat) (hB : B0 ≤ bR) (h : RdB w B0 A m c l) (ha : okI at_) (hm : m ≤ 1073741824) (hmo : 0 ≤ most ∧ most ≤ 64) :
    Calls Tryz.prog 68 #[.pointer (some ⟨bR, 0, none⟩), .int .i64 most, .func (.func 69) #[] #[.pointer (some ⟨bP, 0, none⟩)]] w fun e w' => ∃ v, e = .returned v ∧ OwnL 2 57 Sc.OPer w' w.heap.size v (Sc.rAll l most (Sc.rPer l) (at_, er)).1 ∧ w'.heap[bR]? = some (.cells #[.slice A m c, .int .i64 (Sc.rAll l most (Sc.rPer l) (at_, er)).2.1, .int .i64 (Sc.rAll l most (Sc.rPer l) (at_, er)).2.2] 96) ∧ w.grownBy w' (some bR) := by
  have hlen : l.length ≤ 1073741824 := by rw [h.len]; exact hm
  have hbR := blk_lt b
  have hbP := blk_lt bp
  have hne : bP ≠ bR := fun e => by rw [e, b] at bp; cases bp
  have hw0 := h
  obtain ⟨RR, hRR⟩ : ∃ RR, RR = Sc.rAll l most (Sc.rPer l) (at_, er) := ⟨_, rfl⟩
  rw [← hRR]
  unfold Sc.rAll Sc.rCount at hRR
  go_enter Tryz.func68, Tryz.ntmps68
  go_wp2_with fail
  refine (rdNum_any bR A m c l at_ er w b (h.more (by omega)) ha hm).mono ?_
  rintro e w1 ⟨rfl, b', hg⟩
  have ok0 := Sc.rNum_ok (l := l) (s := (at_, er)) hlen ha
  obtain ⟨Q, hQ⟩ : ∃ Q, Q = Sc.rNum l (at_, er) := ⟨_, rfl⟩
  rw [← hQ] at hRR ok0 b' ⊢
  clear hQ b
  obtain ⟨n, a1, e1⟩ := Q
  dsimp only at hRR ok0 b' ⊢
  have b := b'
  clear b'
  replace h := h.grown hg (by omega) (fun g hgq => by cases hgq; exact hB)
  replace bp := blk_grown bp hg (fun e => hne (Option.some.inj e))
  have hsz := hg.size
  replace ha := ok0.2
  have hn := ok0.1
  unfold okI at hn
  clear ok0
  have HRR := Lib.hid hRR
  clear hRR
  by_cases he : e1 ≠ 0
  · have HC : Hid (RR = ([], (a1, e1))) := by
      show _ = _
      rw [HRR.out, if_neg he]
      exact Sc.rMany_stop (.inr he)
    clear HRR
    have t1 : (e1 != 0) = true := by simp; omega
    have t1' : (e1 == 0) = false := by simp; omega
    have c2 := blk_cell (j := 2) b
    simp only [List.getElem?_toArray, List.getElem?_cons_zero, List.getElem?_cons_succ] at c2
    go_wp2_with fail
    clear c2
    generalize hwz : w1 = wz at *
    clear hwz
    by_cases hn0 : 0 < n
    · have t2 : decide (0 < n) = true := by simp; omega
      go_loopw [7, 8] (fun nv lv wr => nv = .int .i64 n ∧ lv = .slice none 0 0 ∧ wr = wz) (fun _ _ _ => 0)
      case atStart => exact ⟨rfl, rfl, rfl⟩
      case round =>
        obtain ⟨rfl, rfl, rfl⟩ := hrel

        have c2 := blk_cell (j := 2) b
        simp only [List.getElem?_toArray, List.getElem?_cons_zero, List.getElem?_cons_succ] at c2
        go_wp2_with fail
        go_ret
        exact ⟨_, rfl, by rw [HC.out]; exact OwnL.nil _ _, by rw [HC.out]; exact b, hg⟩
    · have t2 : decide (0 < n) = false := by simp; omega
      go_loopw [7, 8] (fun nv lv wr => nv = .int .i64 n ∧ lv = .slice none 0 0 ∧ wr = wz) (fun _ _ _ => 0)
      case atStart => exact ⟨rfl, rfl, rfl⟩
      case round =>
        obtain ⟨rfl, rfl, rfl⟩ := hrel

        have c2 := blk_cell (j := 2) b
        simp only [List.getElem?_toArray, List.getElem?_cons_zero, List.getElem?_cons_succ] at c2
        go_wp2_with fail
        go_ret
        exact ⟨_, rfl, by rw [HC.out]; exact OwnL.nil _ _, by rw [HC.out]; exact b, hg⟩
  · have he : e1 = 0 := Classical.not_not.1 he
    subst he
    by_cases hneg : n < 0
    · have t1 : decide (n < 0) = true := by simp; omega
      have HC : Hid (RR = ([], (a1, 11))) := by
        show _ = _
        rw [HRR.out, if_pos rfl, if_pos hneg]
        exact Sc.rMany_stop (.inr (by simp))
      clear HRR
      have c2 := blk_cell (j := 2) b
      simp only [List.getElem?_toArray, List.getElem?_cons_zero, List.getElem?_cons_succ] at c2
      have f2 := blk_frozen 2 b
      go_wp2_with fail
      clear c2 f2
      replace b := blk_set (k := 2) (.int .i64 11) b
      simp only [List.setIfInBounds_toArray, List.set_cons_zero, List.set_cons_succ] at b
      replace hg : w.grownBy (w1.setCell ⟨bR, 2, none⟩ (.int .i64 11)) (some bR) := grown_set hg
      clear h bp hsz
      generalize w1.setCell ⟨bR, 2, none⟩ (.int .i64 11) = wz at *
      have t2 : decide (0 < n) = false := by simp; omega
      go_loopw [7, 8] (fun nv lv wr => nv = .int .i64 n ∧ lv = .slice none 0 0 ∧ wr = wz) (fun _ _ _ => 0)
      case atStart => exact ⟨rfl, rfl, rfl⟩
      case round =>
        obtain ⟨rfl, rfl, rfl⟩ := hrel

        have c2 := blk_cell (j := 2) b
        simp only [List.getElem?_toArray, List.getElem?_cons_zero, List.getElem?_cons_succ] at c2
        go_wp2_with fail
        go_ret
        exact ⟨_, rfl, by rw [HC.out]; exact OwnL.nil _ _, by rw [HC.out]; exact b, hg⟩
    · have t1 : decide (n < 0) = false := by simp; omega
      by_cases hbig : most < n
      · have t3 : decide (most < n) = true := by simp; omega
        have HC : Hid (RR = ([], (a1, 2))) := by
          show _ = _
          rw [HRR.out, if_pos rfl, if_neg hneg, if_pos hbig]
          exact Sc.rMany_stop (.inr (by simp))
        clear HRR
        have c2 := blk_cell (j := 2) b
        simp only [List.getElem?_toArray, List.getElem?_cons_zero, List.getElem?_cons_succ] at c2
        have f2 := blk_frozen 2 b
        go_wp2_with fail
        clear c2 f2
        replace b := blk_set (k := 2) (.int .i64 2) b
        simp only [List.setIfInBounds_toArray, List.set_cons_zero, List.set_cons_succ] at b
        replace hg : w.grownBy (w1.setCell ⟨bR, 2, none⟩ (.int .i64 2)) (some bR) := grown_set hg
        clear h bp hsz
        generalize w1.setCell ⟨bR, 2, none⟩ (.int .i64 2) = wz at *
        have t2 : decide (0 < n) = true := by simp; omega
        go_loopw [7, 8] (fun nv lv wr => nv = .int .i64 n ∧ lv = .slice none 0 0 ∧ wr = wz) (fun _ _ _ => 0)
        case atStart => exact ⟨rfl, rfl, rfl⟩
        case round =>
          obtain ⟨rfl, rfl, rfl⟩ := hrel

          have c2 := blk_cell (j := 2) b
          simp only [List.getElem?_toArray, List.getElem?_cons_zero, List.getElem?_cons_succ] at c2
          go_wp2_with fail
          go_ret
          exact ⟨_, rfl, by rw [HC.out]; exact OwnL.nil _ _, by rw [HC.out]; exact b, hg⟩
      · have t3 : decide (most < n) = false := by simp; omega
        obtain ⟨N, rfl⟩ : ∃ N : Nat, n = N := ⟨n.toNat, by omega⟩
        have HC : Hid (RR = Sc.rMany (Sc.rPer l) N (a1, 0)) := by
          show _ = _
          rw [HRR.out, if_pos rfl, if_neg hneg, if_neg hbig]
          simp
        clear HRR
        have c2 := blk_cell (j := 2) b
        simp only [List.getElem?_toArray, List.getElem?_cons_zero, List.getElem?_cons_succ] at c2
        go_wp2_with fail
        clear c2
        go_loopw [7, 8] (fun nv lv wr => ∃ (j : Nat) (acc : List Sc.Per) (s : Sc.St), nv = .int .i64 j ∧ acc.length + j ≤ 64 ∧ okI s.1 ∧ RR = (acc ++ (Sc.rMany (Sc.rPer l) j s).1, (Sc.rMany (Sc.rPer l) j s).2) ∧ OwnL 2 57 Sc.OPer wr w.heap.size lv acc ∧ wr.heap[bR]? = some (.cells #[.slice A m c, .int .i64 s.1, .int .i64 s.2] 96) ∧ wr.heap[bP]? = some (.cells #[.pointer (some ⟨bR, 0, none⟩)] 94) ∧ w.grownBy wr (some bR)) (fun nv _ _ => (intOf nv).toNat)
        case atStart => exact ⟨N, [], (a1, 0), rfl, by simp; omega, ha, by rw [HC.out]; rfl, OwnL.nil _ _, b, bp, hg⟩
        case round =>
          clear b bp hg ha HC hsz
          obtain ⟨j, acc, s, rfl, hj, ha, hR, hL, b, bp, hg⟩ := hrel
          have HR := Lib.hid hR
          clear hR
          obtain ⟨sa, se⟩ := s
          dsimp only at ha b
          have c2 := blk_cell (j := 2) b
          simp only [List.getElem?_toArray, List.getElem?_cons_zero, List.getElem?_cons_succ] at c2
          have hsz := hg.size
          by_cases hj0 : j = 0
          · have t2 : decide (0 < (j : Int)) = false := by simp; omega
            have HC : Hid (RR = (acc, (sa, se))) := by
              show _ = _
              rw [HR.out, Sc.rMany_stop (by exact .inl (by omega)), List.append_nil]
            clear HR
            obtain ⟨rows, q1, q2, q3, q4⟩ := hL
            obtain ⟨Av, cv, rfl, _⟩ := own_rdK q3
            go_wp2_with fail
            go_ret
            exact ⟨_, rfl, by rw [HC.out]; exact ⟨rows, q1, q2, q3, q4⟩, by rw [HC.out]; exact b, hg⟩
          · have t2 : decide (0 < (j : Int)) = true := by simp; omega
            by_cases hs : se ≠ 0
            · have t3 : (se == 0) = false := by simp; omega
              have HC : Hid (RR = (acc, (sa, se))) := by
                show _ = _
                rw [HR.out, Sc.rMany_stop (by exact .inr hs), List.append_nil]
              clear HR
              obtain ⟨rows, q1, q2, q3, q4⟩ := hL
              obtain ⟨Av, cv, rfl, _⟩ := own_rdK q3
              go_wp2_with fail
              go_ret
              exact ⟨_, rfl, by rw [HC.out]; exact ⟨rows, q1, q2, q3, q4⟩, by rw [HC.out]; exact b, hg⟩
            · have hs : se = 0 := Classical.not_not.1 hs
              subst hs
              obtain ⟨i, rfl⟩ : ∃ i, j = i + 1 := ⟨j - 1, by omega⟩
              rw [Sc.rMany_go rfl] at HR
              obtain ⟨rows, q1, q2, q3, q4⟩ := hL
              obtain ⟨Av, cv, rfl, _⟩ := own_rdK q3
              have h' := hw0.grown hg (by omega) (fun g hgq => by cases hgq; exact hB)
              go_wp2_with fail
              clear c2
              refine (sGet3_any bP bR A m c l sa 0 wr bp b B0 hB h' ha hm).mono ?_
              rintro e w2 ⟨u1, rfl, ho1, b', hg2⟩
              have okE := Sc.elPer_ok (l := l) (s := (sa, 0)) hlen ha
              obtain ⟨X, hX⟩ : ∃ X, X = Sc.rPer l (sa, 0) := ⟨_, rfl⟩
              rw [← hX] at HR b' okE ho1 ⊢
              clear hX
              obtain ⟨x, s2⟩ := X
              dsimp only at *
              replace ho1 := own_mono ho1 hsz
              obtain ⟨Au1, cu1, rfl, _⟩ := own_rd ho1
              have kt : Keeps 57 wr w2 := Keeps.grown hg2 b (by decide)
              have ki : Keeps 3 wr w2 := Keeps.grown hg2 b (by decide)
              obtain ⟨V9, hV⟩ : ∃ V9, V9 = w2.alloc (.cells #[.string (strOf x.name), .slice Au1 x.away.length cu1] 57) := ⟨_, rfl⟩
              have hb := below_new hV
              have oA := own_below (own_keeps q3 kt) hb
              have dA : ∀ (i : Nat) (x : Sc.Per) (r : List Value), acc[i]? = some x → rows[i]? = some r → Sc.OPer V9 w.heap.size x r := fun i x r hi hr => Sc.olPer (Sc.olPer (q4 i x r hi hr) ki) (Keeps.below hb)
              have hp1 := own_below ho1 hb
              have bA := blk_below b' hb
              have bpA := blk_below (blk_grown bp hg2 (fun e => hne (Option.some.inj e))) hb
              have hgA : w.grownBy V9 (some bR) := grown_trans (grown_trans hg hg2) (grown_of_below hb)
              have hszA := hgA.size
              have hRK := RdK.new 2 w2 #[.string (strOf x.name), .slice Au1 x.away.length cu1] 57 (0, 0) 1 rfl (by omega)
              rw [← hV] at hRK
              have HV9 := Lib.hid hV.symm
              clear hV hb kt ki q3 q4 b bp b' hg hg2 ho1
              go_wp2_with (at_builtin; rw [HV9.out]; refine wpList_appK _ _ elkPer oA hRK (by simp [Value.oneCell']) (by omega) (by omega) hszA rfl rfl rfl rfl ?_; intro v3 w3 o3 hg3 _; obtain ⟨A3, c3, rfl, _⟩ := own_rdK o3)
              have hSN := OwnL.snoc (O := Sc.OPer) (W := V9) (W' := w3) (B := w.heap.size) Sc.olPer q1 q2 dA (x := x) (r := [.string (strOf x.name), .slice Au1 x.away.length cu1]) rfl ⟨_, rfl, hp1⟩ (Keeps.grownRow oA hg3 (by decide)) o3
              have bB := blk_grown bA hg3 (fun e => own_blk_ne oA bA (by decide) _ e.symm rfl)
              have bpB := blk_grown bpA hg3 (fun e => own_blk_ne oA bpA (by decide) _ e.symm rfl)
              have hgB := grown_then hgA hg3 (own_lt oA)
              go_roundw
              case rel => exact ⟨i, acc ++ [x], s2, by go_num, by simp; omega, okE.2, by rw [HR.out]; simp, hSN, bB, bpB, hgB⟩
              case measure => simp [intOf] <;> omega

theorem elkGro : ElK Tryz.prog 2 25 49 (.agg #[.string ⟨#[]⟩, .int .i64 0]) 24 := ⟨Tryz.underlying25, by kernel_rfl, rfl, by omega⟩

set_option maxRecDepth 100000 in
set_option maxHeartbeats 6000000 in
theorem gaG_any (bP bR : Nat) (A : Option Addr) (m c : Nat) (l : List UInt8) (at_ er most : Int) (w : World) (bp : w.heap[bP]? = some (.cells #[.pointer (some ⟨bR, 0, none⟩)] 94)) (b : w.heap[bR]? = some (.cells #[.slice A m c, .int .i64 at_, .int .i64 er] 96)) (B0 : Nat) (hB : B0 ≤ bR) (h : RdB w B0 A m c l) (ha : okI at_) (hm : m ≤ 1073741824) (hmo : 0 ≤ most ∧ most ≤ 64) :
    Calls Tryz.prog 70 #[.pointer (some ⟨bR, 0, none⟩), .int .i64 most, .func (.func 71) #[] #[.pointer (some ⟨bP, 0, none⟩)]] w fun e w' => ∃ v, e = .returned v ∧ OwnL 2 49 Sc.OGro w' w.heap.size v (Sc.rAll l most (Sc.rGro l) (at_, er)).1 ∧ w'.heap[bR]? = some (.cells #[.slice A m c, .int .i64 (Sc.rAll l most (Sc.rGro l) (at_, er)).2.1, .int .i64 (Sc.rAll l most (Sc.rGro l) (at_, er)).2.2] 96) ∧ w.grownBy w' (some bR) := by
  have hlen : l.length ≤ 1073741824 := by rw [h.len]; exact hm
  have hbR := blk_lt b
  have hbP := blk_lt bp
  have hne : bP ≠ bR := fun e => by rw [e, b] at bp; cases bp
  have hw0 := h
  obtain ⟨RR, hRR⟩ : ∃ RR, RR = Sc.rAll l most (Sc.rGro l) (at_, er) := ⟨_, rfl⟩
  rw [← hRR]
  unfold Sc.rAll Sc.rCount at hRR
  go_enter Tryz.func70, Tryz.ntmps70
  go_wp2_with fail
  refine (rdNum_any bR A m c l at_ er w b (h.more (by omega)) ha hm).mono ?_
  rintro e w1 ⟨rfl, b', hg⟩
  have ok0 := Sc.rNum_ok (l := l) (s := (at_, er)) hlen ha
  obtain ⟨Q, hQ⟩ : ∃ Q, Q = Sc.rNum l (at_, er) := ⟨_, rfl⟩
  rw [← hQ] at hRR ok0 b' ⊢
  clear hQ b
  obtain ⟨n, a1, e1⟩ := Q
  dsimp only at hRR ok0 b' ⊢
  have b := b'
  clear b'
  replace h := h.grown hg (by omega) (fun g hgq => by cases hgq; exact hB)
  replace bp := blk_grown bp hg (fun e => hne (Option.some.inj e))
  have hsz := hg.size
  replace ha := ok0.2
  have hn := ok0.1
  unfold okI at hn
  clear ok0
  have HRR := Lib.hid hRR
  clear hRR
  by_cases he : e1 ≠ 0
  · have HC : Hid (RR = ([], (a1, e1))) := by
      show _ = _
      rw [HRR.out, if_neg he]
      exact Sc.rMany_stop (.inr he)
    clear HRR
    have t1 : (e1 != 0) = true := by simp; omega
    have t1' : (e1 == 0) = false := by simp; omega
    have c2 := blk_cell (j := 2) b
    simp only [List.getElem?_toArray, List.getElem?_cons_zero, List.getElem?_cons_succ] at c2
    go_wp2_with fail
    clear c2
    generalize hwz : w1 = wz at *
    clear hwz
    by_cases hn0 : 0 < n
    · have t2 : decide (0 < n) = true := by simp; omega
      go_loopw [7, 8] (fun nv lv wr => nv = .int .i64 n ∧ lv = .slice none 0 0 ∧ wr = wz) (fun _ _ _ => 0)
      case atStart => exact ⟨rfl, rfl, rfl⟩
      case round =>
        obtain ⟨rfl, rfl, rfl⟩ := hrel

        have c2 := blk_cell (j := 2) b
        simp only [List.getElem?_toArray, List.getElem?_cons_zero, List.getElem?_cons_succ] at c2
        go_wp2_with fail
        go_ret
        exact ⟨_, rfl, by rw [HC.out]; exact OwnL.nil _ _, by rw [HC.out]; exact b, hg⟩
    · have t2 : decide (0 < n) = false := by simp; omega
      go_loopw [7, 8] (fun nv lv wr => nv = .int .i64 n ∧ lv = .slice none 0 0 ∧ wr = wz) (fun _ _ _ => 0)
      case atStart => exact ⟨rfl, rfl, rfl⟩
      case round =>
        obtain ⟨rfl, rfl, rfl⟩ := hrel

        have c2 := blk_cell (j := 2) b
        simp only [List.getElem?_toArray, List.getElem?_cons_zero, List.getElem?_cons_succ] at c2
        go_wp2_with fail
        go_ret
        exact ⟨_, rfl, by rw [HC.out]; exact OwnL.nil _ _, by rw [HC.out]; exact b, hg⟩
  · have he : e1 = 0 := Classical.not_not.1 he
    subst he
    by_cases hneg : n < 0
    · have t1 : decide (n < 0) = true := by simp; omega
      have HC : Hid (RR = ([], (a1, 11))) := by
        show _ = _
        rw [HRR.out, if_pos rfl, if_pos hneg]
        exact Sc.rMany_stop (.inr (by simp))
      clear HRR
      have c2 := blk_cell (j := 2) b
      simp only [List.getElem?_toArray, List.getElem?_cons_zero, List.getElem?_cons_succ] at c2
      have f2 := blk_frozen 2 b
      go_wp2_with fail
      clear c2 f2
      replace b := blk_set (k := 2) (.int .i64 11) b
      simp only [List.setIfInBounds_toArray, List.set_cons_zero, List.set_cons_succ] at b
      replace hg : w.grownBy (w1.setCell ⟨bR, 2, none⟩ (.int .i64 11)) (some bR) := grown_set hg
      clear h bp hsz
      generalize w1.setCell ⟨bR, 2, none⟩ (.int .i64 11) = wz at *
      have t2 : decide (0 < n) = false := by simp; omega
      go_loopw [7, 8] (fun nv lv wr => nv = .int .i64 n ∧ lv = .slice none 0 0 ∧ wr = wz) (fun _ _ _ => 0)
      case atStart => exact ⟨rfl, rfl, rfl⟩
      case round =>
        obtain ⟨rfl, rfl, rfl⟩ := hrel

        have c2 := blk_cell (j := 2) b
        simp only [List.getElem?_toArray, List.getElem?_cons_zero, List.getElem?_cons_succ] at c2
        go_wp2_with fail
        go_ret
        exact ⟨_, rfl, by rw [HC.out]; exact OwnL.nil _ _, by rw [HC.out]; exact b, hg⟩
    · have t1 : decide (n < 0) = false := by simp; omega
      by_cases hbig : most < n
      · have t3 : decide (most < n) = true := by simp; omega
        have HC : Hid (RR = ([], (a1, 2))) := by
          show _ = _
          rw [HRR.out, if_pos rfl, if_neg hneg, if_pos hbig]
          exact Sc.rMany_stop (.inr (by simp))
        clear HRR
        have c2 := blk_cell (j := 2) b
        simp only [List.getElem?_toArray, List.getElem?_cons_zero, List.getElem?_cons_succ] at c2
        have f2 := blk_frozen 2 b
        go_wp2_with fail
        clear c2 f2
        replace b := blk_set (k := 2) (.int .i64 2) b
        simp only [List.setIfInBounds_toArray, List.set_cons_zero, List.set_cons_succ] at b
        replace hg : w.grownBy (w1.setCell ⟨bR, 2, none⟩ (.int .i64 2)) (some bR) := grown_set hg
        clear h bp hsz
        generalize w1.setCell ⟨bR, 2, none⟩ (.int .i64 2) = wz at *
        have t2 : decide (0 < n) = true := by simp; omega
        go_loopw [7, 8] (fun nv lv wr => nv = .int .i64 n ∧ lv = .slice none 0 0 ∧ wr = wz) (fun _ _ _ => 0)
        case atStart => exact ⟨rfl, rfl, rfl⟩
        case round =>
          obtain ⟨rfl, rfl, rfl⟩ := hrel

          have c2 := blk_cell (j := 2) b
          simp only [List.getElem?_toArray, List.getElem?_cons_zero, List.getElem?_cons_succ] at c2
          go_wp2_with fail
          go_ret
          exact ⟨_, rfl, by rw [HC.out]; exact OwnL.nil _ _, by rw [HC.out]; exact b, hg⟩
      · have t3 : decide (most < n) = false := by simp; omega
        obtain ⟨N, rfl⟩ : ∃ N : Nat, n = N := ⟨n.toNat, by omega⟩
        have HC : Hid (RR = Sc.rMany (Sc.rGro l) N (a1, 0)) := by
          show _ = _
          rw [HRR.out, if_pos rfl, if_neg hneg, if_neg hbig]
          simp
        clear HRR
        have c2 := blk_cell (j := 2) b
        simp only [List.getElem?_toArray, List.getElem?_cons_zero, List.getElem?_cons_succ] at c2
        go_wp2_with fail
        clear c2
        go_loopw [7, 8] (fun nv lv wr => ∃ (j : Nat) (acc : List Sc.Gro) (s : Sc.St), nv = .int .i64 j ∧ acc.length + j ≤ 64 ∧ okI s.1 ∧ RR = (acc ++ (Sc.rMany (Sc.rGro l) j s).1, (Sc.rMany (Sc.rGro l) j s).2) ∧ OwnL 2 49 Sc.OGro wr w.heap.size lv acc ∧ wr.heap[bR]? = some (.cells #[.slice A m c, .int .i64 s.1, .int .i64 s.2] 96) ∧ wr.heap[bP]? = some (.cells #[.pointer (some ⟨bR, 0, none⟩)] 94) ∧ w.grownBy wr (some bR)) (fun nv _ _ => (intOf nv).toNat)
        case atStart => exact ⟨N, [], (a1, 0), rfl, by simp; omega, ha, by rw [HC.out]; rfl, OwnL.nil _ _, b, bp, hg⟩
        case round =>
          clear b bp hg ha HC hsz
          obtain ⟨j, acc, s, rfl, hj, ha, hR, hL, b, bp, hg⟩ := hrel
          have HR := Lib.hid hR
          clear hR
          obtain ⟨sa, se⟩ := s
          dsimp only at ha b
          have c2 := blk_cell (j := 2) b
          simp only [List.getElem?_toArray, List.getElem?_cons_zero, List.getElem?_cons_succ] at c2
          have hsz := hg.size
          by_cases hj0 : j = 0
          · have t2 : decide (0 < (j : Int)) = false := by simp; omega
            have HC : Hid (RR = (acc, (sa, se))) := by
              show _ = _
              rw [HR.out, Sc.rMany_stop (by exact .inl (by omega)), List.append_nil]
            clear HR
            obtain ⟨rows, q1, q2, q3, q4⟩ := hL
            obtain ⟨Av, cv, rfl, _⟩ := own_rdK q3
            go_wp2_with fail
            go_ret
            exact ⟨_, rfl, by rw [HC.out]; exact ⟨rows, q1, q2, q3, q4⟩, by rw [HC.out]; exact b, hg⟩
          · have t2 : decide (0 < (j : Int)) = true := by simp; omega
            by_cases hs : se ≠ 0
            · have t3 : (se == 0) = false := by simp; omega
              have HC : Hid (RR = (acc, (sa, se))) := by
                show _ = _
                rw [HR.out, Sc.rMany_stop (by exact .inr hs), List.append_nil]
              clear HR
              obtain ⟨rows, q1, q2, q3, q4⟩ := hL
              obtain ⟨Av, cv, rfl, _⟩ := own_rdK q3
              go_wp2_with fail
              go_ret
              exact ⟨_, rfl, by rw [HC.out]; exact ⟨rows, q1, q2, q3, q4⟩, by rw [HC.out]; exact b, hg⟩
            · have hs : se = 0 := Classical.not_not.1 hs
              subst hs
              obtain ⟨i, rfl⟩ : ∃ i, j = i + 1 := ⟨j - 1, by omega⟩
              rw [Sc.rMany_go rfl] at HR
              obtain ⟨rows, q1, q2, q3, q4⟩ := hL
              obtain ⟨Av, cv, rfl, _⟩ := own_rdK q3
              have h' := hw0.grown hg (by omega) (fun g hgq => by cases hgq; exact hB)
              go_wp2_with fail
              clear c2
              refine (sGet4_any bP bR A m c l sa 0 wr bp b B0 hB h' ha hm).mono ?_
              rintro e w2 ⟨rfl, b', hg2⟩
              have okE := Sc.elGro_ok (l := l) (s := (sa, 0)) hlen ha
              obtain ⟨X, hX⟩ : ∃ X, X = Sc.rGro l (sa, 0) := ⟨_, rfl⟩
              rw [← hX] at HR b' okE ⊢
              clear hX
              obtain ⟨x, s2⟩ := X
              dsimp only at *
              have kt : Keeps 49 wr w2 := Keeps.grown hg2 b (by decide)
              have ki : Keeps 3 wr w2 := Keeps.grown hg2 b (by decide)
              obtain ⟨V9, hV⟩ : ∃ V9, V9 = w2.alloc (.cells #[.string (strOf x.name), .int .i64 x.size] 49) := ⟨_, rfl⟩
              have hb := below_new hV
              have oA := own_below (own_keeps q3 kt) hb
              have dA : ∀ (i : Nat) (x : Sc.Gro) (r : List Value), acc[i]? = some x → rows[i]? = some r → Sc.OGro V9 w.heap.size x r := fun i x r hi hr => Sc.olGro (Sc.olGro (q4 i x r hi hr) ki) (Keeps.below hb)
              have bA := blk_below b' hb
              have bpA := blk_below (blk_grown bp hg2 (fun e => hne (Option.some.inj e))) hb
              have hgA : w.grownBy V9 (some bR) := grown_trans (grown_trans hg hg2) (grown_of_below hb)
              have hszA := hgA.size
              have hRK := RdK.new 2 w2 #[.string (strOf x.name), .int .i64 x.size] 49 (0, 0) 1 rfl (by omega)
              rw [← hV] at hRK
              have HV9 := Lib.hid hV.symm
              clear hV hb kt ki q3 q4 b bp b' hg hg2
              go_wp2_with (at_builtin; rw [HV9.out]; refine wpList_appK _ _ elkGro oA hRK (by simp [Value.oneCell']) (by omega) (by omega) hszA rfl rfl rfl rfl ?_; intro v3 w3 o3 hg3 _; obtain ⟨A3, c3, rfl, _⟩ := own_rdK o3)
              have hSN := OwnL.snoc (O := Sc.OGro) (W := V9) (W' := w3) (B := w.heap.size) Sc.olGro q1 q2 dA (x := x) (r := [.string (strOf x.name), .int .i64 x.size]) rfl rfl (Keeps.grownRow oA hg3 (by decide)) o3
              have bB := blk_grown bA hg3 (fun e => own_blk_ne oA bA (by decide) _ e.symm rfl)
              have bpB := blk_grown bpA hg3 (fun e => own_blk_ne oA bpA (by decide) _ e.symm rfl)
              have hgB := grown_then hgA hg3 (own_lt oA)
              go_roundw
              case rel => exact ⟨i, acc ++ [x], s2, by go_num, by simp; omega, okE.2, by rw [HR.out]; simp, hSN, bB, bpB, hgB⟩
              case measure => simp [intOf] <;> omega

theorem elkLes : ElK Tryz.prog 3 26 59 (.agg #[.string ⟨#[]⟩, .slice none 0 0, .slice none 0 0]) 64 := ⟨Tryz.underlying26, by kernel_rfl, rfl, by omega⟩

set_option maxRecDepth 100000 in
set_option maxHeartbeats 6000000 in
theorem gaL_any (bP bR : Nat) (A : Option Addr) (m c : Nat) (l : List UInt8) (at_ er most : Int) (w : World) (bp : w.heap[bP]? = some (.cells #[.pointer (some ⟨bR, 0, none⟩)] 94)) (b : w.heap[bR]? = some (.cells #[.slice A m c, .int .i64 at_, .int .i64 er] 96)) (B0 : Nat) (hB : B0 ≤ bR) (h : RdB w B0 A m c l) (ha : okI at_) (hm : m ≤ 1073741824) (hmo : 0 ≤ most ∧ most ≤ 64) :
    Calls Tryz.prog 72 #[.pointer (some ⟨bR, 0, none⟩), .int .i64 most, .func (.func 73) #[] #[.pointer (some ⟨bP, 0, none⟩)]] w fun e w' => ∃ v, e = .returned v ∧ OwnL 3 59 Sc.OLes w' w.heap.size v (Sc.rAll l most (Sc.rLes l) (at_, er)).1 ∧ w'.heap[bR]? = some (.cells #[.slice A m c, .int .i64 (Sc.rAll l most (Sc.rLes l) (at_, er)).2.1, .int .i64 (Sc.rAll l most (Sc.rLes l) (at_, er)).2.2] 96) ∧ w.grownBy w' (some bR) := by
  have hlen : l.length ≤ 1073741824 := by rw [h.len]; exact hm
  have hbR := blk_lt b
  have hbP := blk_lt bp
  have hne : bP ≠ bR := fun e => by rw [e, b] at bp; cases bp
  have hw0 := h
  obtain ⟨RR, hRR⟩ : ∃ RR, RR = Sc.rAll l most (Sc.rLes l) (at_, er) := ⟨_, rfl⟩
  rw [← hRR]
  unfold Sc.rAll Sc.rCount at hRR
  go_enter Tryz.func72, Tryz.ntmps72
  go_wp2_with fail
  refine (rdNum_any bR A m c l at_ er w b (h.more (by omega)) ha hm).mono ?_
  rintro e w1 ⟨rfl, b', hg⟩
  have ok0 := Sc.rNum_ok (l := l) (s := (at_, er)) hlen ha
  obtain ⟨Q, hQ⟩ : ∃ Q, Q = Sc.rNum l (at_, er) := ⟨_, rfl⟩
  rw [← hQ] at hRR ok0 b' ⊢
  clear hQ b
  obtain ⟨n, a1, e1⟩ := Q
  dsimp only at hRR ok0 b' ⊢
  have b := b'
  clear b'
  replace h := h.grown hg (by omega) (fun g hgq => by cases hgq; exact hB)
  replace bp := blk_grown bp hg (fun e => hne (Option.some.inj e))
  have hsz := hg.size
  replace ha := ok0.2
  have hn := ok0.1
  unfold okI at hn
  clear ok0
  have HRR := Lib.hid hRR
  clear hRR
  by_cases he : e1 ≠ 0
  · have HC : Hid (RR = ([], (a1, e1))) := by
      show _ = _
      rw [HRR.out, if_neg he]
      exact Sc.rMany_stop (.inr he)
    clear HRR
    have t1 : (e1 != 0) = true := by simp; omega
    have t1' : (e1 == 0) = false := by simp; omega
    have c2 := blk_cell (j := 2) b
    simp only [List.getElem?_toArray, List.getElem?_cons_zero, List.getElem?_cons_succ] at c2
    go_wp2_with fail
    clear c2
    generalize hwz : w1 = wz at *
    clear hwz
    by_cases hn0 : 0 < n
    · have t2 : decide (0 < n) = true := by simp; omega
      go_loopw [7, 8] (fun nv lv wr => nv = .int .i64 n ∧ lv = .slice none 0 0 ∧ wr = wz) (fun _ _ _ => 0)
      case atStart => exact ⟨rfl, rfl, rfl⟩
      case round =>
        obtain ⟨rfl, rfl, rfl⟩ := hrel

        have c2 := blk_cell (j := 2) b
        simp only [List.getElem?_toArray, List.getElem?_cons_zero, List.getElem?_cons_succ] at c2
        go_wp2_with fail
        go_ret
        exact ⟨_, rfl, by rw [HC.out]; exact OwnL.nil _ _, by rw [HC.out]; exact b, hg⟩
    · have t2 : decide (0 < n) = false := by simp; omega
      go_loopw [7, 8] (fun nv lv wr => nv = .int .i64 n ∧ lv = .slice none 0 0 ∧ wr = wz) (fun _ _ _ => 0)
      case atStart => exact ⟨rfl, rfl, rfl⟩
      case round =>
        obtain ⟨rfl, rfl, rfl⟩ := hrel

        have c2 := blk_cell (j := 2) b
        simp only [List.getElem?_toArray, List.getElem?_cons_zero, List.getElem?_cons_succ] at c2
        go_wp2_with fail
        go_ret
        exact ⟨_, rfl, by rw [HC.out]; exact OwnL.nil _ _, by rw [HC.out]; exact b, hg⟩
  · have he : e1 = 0 := Classical.not_not.1 he
    subst he
    by_cases hneg : n < 0
    · have t1 : decide (n < 0) = true := by simp; omega
      have HC : Hid (RR = ([], (a1, 11))) := by
        show _ = _
        rw [HRR.out, if_pos rfl, if_pos hneg]
        exact Sc.rMany_stop (.inr (by simp))
      clear HRR
      have c2 := blk_cell (j := 2) b
      simp only [List.getElem?_toArray, List.getElem?_cons_zero, List.getElem?_cons_succ] at c2
      have f2 := blk_frozen 2 b
      go_wp2_with fail
      clear c2 f2
      replace b := blk_set (k := 2) (.int .i64 11) b
      simp only [List.setIfInBounds_toArray, List.set_cons_zero, List.set_cons_succ] at b
      replace hg : w.grownBy (w1.setCell ⟨bR, 2, none⟩ (.int .i64 11)) (some bR) := grown_set hg
      clear h bp hsz
      generalize w1.setCell ⟨bR, 2, none⟩ (.int .i64 11) = wz at *
      have t2 : decide (0 < n) = false := by simp; omega
      go_loopw [7, 8] (fun nv lv wr => nv = .int .i64 n ∧ lv = .slice none 0 0 ∧ wr = wz) (fun _ _ _ => 0)
      case atStart => exact ⟨rfl, rfl, rfl⟩
      case round =>
        obtain ⟨rfl, rfl, rfl⟩ := hrel

        have c2 := blk_cell (j := 2) b
        simp only [List.getElem?_toArray, List.getElem?_cons_zero, List.getElem?_cons_succ] at c2
        go_wp2_with fail
        go_ret
        exact ⟨_, rfl, by rw [HC.out]; exact OwnL.nil _ _, by rw [HC.out]; exact b, hg⟩
    · have t1 : decide (n < 0) = false := by simp; omega
      by_cases hbig : most < n
      · have t3 : decide (most < n) = true := by simp; omega
        have HC : Hid (RR = ([], (a1, 2))) := by
          show _ = _
          rw [HRR.out, if_pos rfl, if_neg hneg, if_pos hbig]
          exact Sc.rMany_stop (.inr (by simp))
        clear HRR
        have c2 := blk_cell (j := 2) b
        simp only [List.getElem?_toArray, List.getElem?_cons_zero, List.getElem?_cons_succ] at c2
        have f2 := blk_frozen 2 b
        go_wp2_with fail
        clear c2 f2
        replace b := blk_set (k := 2) (.int .i64 2) b
        simp only [List.setIfInBounds_toArray, List.set_cons_zero, List.set_cons_succ] at b
        replace hg : w.grownBy (w1.setCell ⟨bR, 2, none⟩ (.int .i64 2)) (some bR) := grown_set hg
        clear h bp hsz
        generalize w1.setCell ⟨bR, 2, none⟩ (.int .i64 2) = wz at *
        have t2 : decide (0 < n) = true := by simp; omega
        go_loopw [7, 8] (fun nv lv wr => nv = .int .i64 n ∧ lv = .slice none 0 0 ∧ wr = wz) (fun _ _ _ => 0)
        case atStart => exact ⟨rfl, rfl, rfl⟩
        case round =>
          obtain ⟨rfl, rfl, rfl⟩ := hrel

          have c2 := blk_cell (j := 2) b
          simp only [List.getElem?_toArray, List.getElem?_cons_zero, List.getElem?_cons_succ] at c2
          go_wp2_with fail
          go_ret
          exact ⟨_, rfl, by rw [HC.out]; exact OwnL.nil _ _, by rw [HC.out]; exact b, hg⟩
      · have t3 : decide (most < n) = false := by simp; omega
        obtain ⟨N, rfl⟩ : ∃ N : Nat, n = N := ⟨n.toNat, by omega⟩
        have HC : Hid (RR = Sc.rMany (Sc.rLes l) N (a1, 0)) := by
          show _ = _
          rw [HRR.out, if_pos rfl, if_neg hneg, if_neg hbig]
          simp
        clear HRR
        have c2 := blk_cell (j := 2) b
        simp only [List.getElem?_toArray, List.getElem?_cons_zero, List.getElem?_cons_succ] at c2
        go_wp2_with fail
        clear c2
        go_loopw [7, 8] (fun nv lv wr => ∃ (j : Nat) (acc : List Sc.Les) (s : Sc.St), nv = .int .i64 j ∧ acc.length + j ≤ 64 ∧ okI s.1 ∧ RR = (acc ++ (Sc.rMany (Sc.rLes l) j s).1, (Sc.rMany (Sc.rLes l) j s).2) ∧ OwnL 3 59 Sc.OLes wr w.heap.size lv acc ∧ wr.heap[bR]? = some (.cells #[.slice A m c, .int .i64 s.1, .int .i64 s.2] 96) ∧ wr.heap[bP]? = some (.cells #[.pointer (some ⟨bR, 0, none⟩)] 94) ∧ w.grownBy wr (some bR)) (fun nv _ _ => (intOf nv).toNat)
        case atStart => exact ⟨N, [], (a1, 0), rfl, by simp; omega, ha, by rw [HC.out]; rfl, OwnL.nil _ _, b, bp, hg⟩
        case round =>
          clear b bp hg ha HC hsz
          obtain ⟨j, acc, s, rfl, hj, ha, hR, hL, b, bp, hg⟩ := hrel
          have HR := Lib.hid hR
          clear hR
          obtain ⟨sa, se⟩ := s
          dsimp only at ha b
          have c2 := blk_cell (j := 2) b
          simp only [List.getElem?_toArray, List.getElem?_cons_zero, List.getElem?_cons_succ] at c2
          have hsz := hg.size
          by_cases hj0 : j = 0
          · have t2 : decide (0 < (j : Int)) = false := by simp; omega
            have HC : Hid (RR = (acc, (sa, se))) := by
              show _ = _
              rw [HR.out, Sc.rMany_stop (by exact .inl (by omega)), List.append_nil]
            clear HR
            obtain ⟨rows, q1, q2, q3, q4⟩ := hL
            obtain ⟨Av, cv, rfl, _⟩ := own_rdK q3
            go_wp2_with fail
            go_ret
            exact ⟨_, rfl, by rw [HC.out]; exact ⟨rows, q1, q2, q3, q4⟩, by rw [HC.out]; exact b, hg⟩
          · have t2 : decide (0 < (j : Int)) = true := by simp; omega
            by_cases hs : se ≠ 0
            · have t3 : (se == 0) = false := by simp; omega
              have HC : Hid (RR = (acc, (sa, se))) := by
                show _ = _
                rw [HR.out, Sc.rMany_stop (by exact .inr hs), List.append_nil]
              clear HR
              obtain ⟨rows, q1, q2, q3, q4⟩ := hL
              obtain ⟨Av, cv, rfl, _⟩ := own_rdK q3
              go_wp2_with fail
              go_ret
              exact ⟨_, rfl, by rw [HC.out]; exact ⟨rows, q1, q2, q3, q4⟩, by rw [HC.out]; exact b, hg⟩
            · have hs : se = 0 := Classical.not_not.1 hs
              subst hs
              obtain ⟨i, rfl⟩ : ∃ i, j = i + 1 := ⟨j - 1, by omega⟩
              rw [Sc.rMany_go rfl] at HR
              obtain ⟨rows, q1, q2, q3, q4⟩ := hL
              obtain ⟨Av, cv, rfl, _⟩ := own_rdK q3
              have h' := hw0.grown hg (by omega) (fun g hgq => by cases hgq; exact hB)
              go_wp2_with fail
              clear c2
              refine (sGet5_any bP bR A m c l sa 0 wr bp b B0 hB h' ha hm).mono ?_
              rintro e w2 ⟨u1, u2, rfl, ho1, ho2, b', hg2⟩
              have okE := Sc.elLes_ok (l := l) (s := (sa, 0)) hlen ha
              obtain ⟨X, hX⟩ : ∃ X, X = Sc.rLes l (sa, 0) := ⟨_, rfl⟩
              rw [← hX] at HR b' okE ho1 ho2 ⊢
              clear hX
              obtain ⟨x, s2⟩ := X
              dsimp only at *
              replace ho1 := own_mono ho1 hsz
              obtain ⟨Au1, cu1, rfl, _⟩ := own_rd ho1
              replace ho2 := own_mono ho2 hsz
              obtain ⟨Au2, cu2, rfl, _⟩ := own_rd ho2
              have kt : Keeps 59 wr w2 := Keeps.grown hg2 b (by decide)
              have ki : Keeps 3 wr w2 := Keeps.grown hg2 b (by decide)
              obtain ⟨V9, hV⟩ : ∃ V9, V9 = w2.alloc (.cells #[.string (strOf x.name), .slice Au1 x.who.length cu1, .slice Au2 x.groups.length cu2] 59) := ⟨_, rfl⟩
              have hb := below_new hV
              have oA := own_below (own_keeps q3 kt) hb
              have dA : ∀ (i : Nat) (x : Sc.Les) (r : List Value), acc[i]? = some x → rows[i]? = some r → Sc.OLes V9 w.heap.size x r := fun i x r hi hr => Sc.olLes (Sc.olLes (q4 i x r hi hr) ki) (Keeps.below hb)
              have hp1 := own_below ho1 hb
              have hp2 := own_below ho2 hb
              have bA := blk_below b' hb
              have bpA := blk_below (blk_grown bp hg2 (fun e => hne (Option.some.inj e))) hb
              have hgA : w.grownBy V9 (some bR) := grown_trans (grown_trans hg hg2) (grown_of_below hb)
              have hszA := hgA.size
              have hRK := RdK.new 3 w2 #[.string (strOf x.name), .slice Au1 x.who.length cu1, .slice Au2 x.groups.length cu2] 59 (0, 0) 1 rfl (by omega)
              rw [← hV] at hRK
              have HV9 := Lib.hid hV.symm
              clear hV hb kt ki q3 q4 b bp b' hg hg2 ho1 ho2
              go_wp2_with (at_builtin; rw [HV9.out]; refine wpList_appK _ _ elkLes oA hRK (by simp [Value.oneCell']) (by omega) (by omega) hszA rfl rfl rfl rfl ?_; intro v3 w3 o3 hg3 _; obtain ⟨A3, c3, rfl, _⟩ := own_rdK o3)
              have hSN := OwnL.snoc (O := Sc.OLes) (W := V9) (W' := w3) (B := w.heap.size) Sc.olLes q1 q2 dA (x := x) (r := [.string (strOf x.name), .slice Au1 x.who.length cu1, .slice Au2 x.groups.length cu2]) rfl ⟨_, _, rfl, hp1, hp2⟩ (Keeps.grownRow oA hg3 (by decide)) o3
              have bB := blk_grown bA hg3 (fun e => own_blk_ne oA bA (by decide) _ e.symm rfl)
              have bpB := blk_grown bpA hg3 (fun e => own_blk_ne oA bpA (by decide) _ e.symm rfl)
              have hgB := grown_then hgA hg3 (own_lt oA)
              go_roundw
              case rel => exact ⟨i, acc ++ [x], s2, by go_num, by simp; omega, okE.2, by rw [HR.out]; simp, hSN, bB, bpB, hgB⟩
              case measure => simp [intOf] <;> omega

end Go.Proofs.YtfockoihmoljfaaGreatDoor
