/-
  The walk of the laws' own 'framed': payloads framed one behind the other, and where each frame ends.
-/
import Derived.Test.YtoagegphhefboaaFramesP
namespace Go.Proofs.Ytoagegphhefboaa
open Go.RowKit
set_option linter.unusedVariables false

theorem elI : El Try.prog 42 3 (.int .i64 0) 8 := ⟨Try.underlying42, by kernel_rfl, rfl⟩
def ncell (n : Nat) : Value := .int .i64 (n : Int)
def nv (l : List Nat) : List Value := l.map ncell
theorem nv_one (l : List Nat) : ∀ u ∈ nv l, u.oneCell' = true := by
  intro u hu
  simp only [nv, List.mem_map] at hu
  obtain ⟨c, _, rfl⟩ := hu
  rfl

/-- What framed answers. -/
def FramedPost (ls : List (List UInt8)) (w : World) (e : Ending) (w' : World) : Prop :=
  ∃ v ve, e = .returned (.tuple #[v, ve, .bool true]) ∧ w'.ownsRow w.heap.size 5 1 v (framesB ls).length (bv (framesB ls)) ∧ w'.ownsRow w.heap.size 3 1 ve ls.length (nv (endsFrom 0 ls)) ∧ Below w.heap.size w w'

theorem framesB_take_le (ls : List (List UInt8)) (k : Nat) : (framesB (ls.take k)).length ≤ (framesB ls).length := by
  conv => rhs; rw [← List.take_append_drop k ls]
  rw [framesB_append, List.length_append]
  omega

set_option maxHeartbeats 1000000 in
theorem framed_any (A : Option Addr) (n c : Nat) (ls : List (List UInt8)) (w : World) (h : RdBB w w.heap.size A n c ls) (hs : ∀ x ∈ ls, x.length ≤ 65536) (htot : (framesB ls).length ≤ 1073741824) (hn : n ≤ 1073741824) :
    Calls Try.prog 25 #[.slice A n c] w (FramedPost ls w) := by
  have hm := h.max
  have hle := h.le
  have hlen := Lib.hid h.len
  have HS := Lib.hid hs
  clear hs
  go_enter Try.func25, Try.ntmps25
  go_wp2
  go_loopw [5, 6, 13] (fun v ve i wr => ∃ k : Nat, k ≤ n ∧ i = .int .i64 k ∧ wr.ownsRow w.heap.size 5 1 v (framesB (ls.take k)).length (bv (framesB (ls.take k))) ∧ wr.ownsRow w.heap.size 3 1 ve k (nv (endsFrom 0 (ls.take k))) ∧ Below w.heap.size w wr) (fun _ _ i _ => n - (intOf i).toNat)
  case atStart => exact ⟨0, by omega, rfl, World.ownsRow_nil _ _ _ _, World.ownsRow_nil _ _ _ _, Below.refl _ _⟩
  case round =>
    obtain ⟨k, hk, rfl, o1, o2, hB⟩ := hrel
    by_cases hlt : k < n
    · have e1 : k < ls.length := by rw [hlen.out]; exact hlt
      obtain ⟨ad, A1, c1, rfl, _, hc1, hr1⟩ := (h.below hB).at_ hlt e1
      have hr1' := hr1.more hB.size
      have hx := HS.out ls[k] (List.getElem_mem e1)
      have hsn : Hid (framesB (ls.take (k + 1)) = framesB (ls.take k) ++ frameB ls[k]) := by
        show _ = _
        rw [List.take_succ_eq_append_getElem e1, framesB_append]; simp [framesB]
      have hen : Hid (nv (endsFrom 0 (ls.take (k + 1))) = nv (endsFrom 0 (ls.take k)) ++ [.int .i64 (((framesB (ls.take k)).length + (8 + ls[k].length) : Nat) : Int)]) := by
        show _ = _
        rw [List.take_succ_eq_append_getElem e1, endsFrom_append]
        simp only [endsFrom, nv, List.map_append, List.map_cons, List.map_nil, ncell, Nat.zero_add]
        rw [show (framesB (ls.take k)).length + 8 + ls[k].length = (framesB (ls.take k)).length + (8 + ls[k].length) from by omega]
      have hb1 := framesB_take_le ls (k + 1)
      rw [hsn.out, List.length_append, frameB_length] at hb1
      have hfl := frameB_length ls[k]
      generalize ls[k] = x at *
      go_wp2_with fail
      refine (frame_any A1 _ c1 x wr hr1').mono ?_
      rintro e w2 (⟨hbad, _⟩ | ⟨_, v2, rfl, hown2, hb2⟩)
      · omega
      have o1' := own_below o1 hb2
      have o2' := own_below o2 hb2
      have hB2 : Below w.heap.size w w2 := hB.trans (hb2.mono hB.size)
      obtain ⟨A2, c2, rfl, hr2⟩ := own_rdB hown2
      have HF := Lib.hid hfl
      clear hfl o1 o2 hown2
      generalize framesB (ls.take k) = fb at *
      generalize endsFrom 0 (ls.take k) = en at *
      have hs2 := hB2.size
      go_wp2_with (first
        | (at_builtin; refine wpList_app (.tmp 24) (.tmp 25) elB o1' hr2 (bv_one _) (by omega) (by omega) hB2.size rfl rfl rfl rfl ?_; intro v3 w3 o3 g3 t3; have hB3 := hB2.grown g3 hB2.size (own_lt o1'); have o4 := o2'.kept g3 (own_apart o2' o1' (by decide)); have hs3 := hB3.size; obtain ⟨A3, c3, rfl, r3⟩ := own_rd o3)
        | (at_builtin; refine wpList_app (.tmp 27) (.tmp 30) elI (o4.alloc _) (Rd.one w3 _ _) (by simp [Value.oneCell']) (by omega) (by omega) (by simp; omega) rfl rfl rfl rfl ?_; intro v5 w5 o5 g5 t5))
      have o6 : w5.ownsRow w.heap.size 5 1 (.slice A3 (fb.length + (8 + x.length)) c3) (fb.length + (8 + x.length)) (bv fb ++ bv (frameB x)) := (o3.alloc _).kept g5 (own_apart o3 o4 (by decide))
      have hB5 : Below w.heap.size w w5 := (hB3.alloc hB3.size _).grown g5 (by simp; omega) (own_lt o4)
      have p1 : w5.ownsRow w.heap.size 5 1 (.slice A3 (fb.length + (8 + x.length)) c3) (framesB (ls.take (k + 1))).length (bv (framesB (ls.take (k + 1)))) := by
        rw [hsn.out, List.length_append, HF.out, bv_append]; exact o6
      have p2 : w5.ownsRow w.heap.size 3 1 v5 (k + 1) (nv (endsFrom 0 (ls.take (k + 1)))) := by
        rw [hen.out]; simpa using o5
      go_roundw
      case rel => exact ⟨k + 1, by omega, by go_num, p1, p2, hB5⟩
      case measure => simp [intOf]; omega
    · go_wp2
      go_ret3
      obtain rfl : k = n := by omega
      rw [List.take_of_length_le (by rw [hlen.out]; omega)] at o1 o2
      exact ⟨_, _, rfl, o1, by rw [hlen.out]; exact o2, hB⟩
end Go.Proofs.Ytoagegphhefboaa
