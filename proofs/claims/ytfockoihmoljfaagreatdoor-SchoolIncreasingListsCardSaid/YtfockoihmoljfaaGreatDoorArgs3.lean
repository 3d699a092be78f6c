/-
  What the laws' arguments read as: texts, bytes, schools.
-/
import Derived.Test.YtfockoihmoljfaaGreatDoorLotA
import Derived.Test.YtfockoihmoljfaaGreatDoorLotS
import Derived.Test.YtfockoihmoljfaaGreatDoorHasW
import Derived.ProofKit
namespace Go.Proofs.YtfockoihmoljfaaGreatDoor
open Go.RowKit Go.ChangeShapes Go.WideShapes
set_option linter.unusedVariables false
set_option maxRecDepth 100000

section
variable {H : Type} {enc : TypeId × Value → H} {W : World} {cs : List Value} {r : Reach} {b0 : Nat} {v : Value} {d : DataW H} {p : List MemPlace}
theorem arg_int (hv : Value.okWide Tryz.prog W r b0 3 v) (h : DataW.Trod enc Tryz.prog W 0 (fun _ => true) true 3 v d p) : ∃ a : Int, v = .int .i64 a ∧ okI a := by
  obtain ⟨a, rfl, _, _, w1⟩ := open_int Tryz.underlying3 hv h
  have hb : -9223372036854775808 ≤ a ∧ a ≤ 9223372036854775807 := by simpa [Lit.wf, IntKind.min, IntKind.max, IntKind.signed, IntKind.bits] using w1
  exact ⟨a, rfl, hb⟩
theorem tr_bytes (h : Tr enc Tryz.prog W 38 cs) : ∃ A n c l, cs = [.slice A n c] ∧ RdB W W.heap.size A n c l := by
  obtain ⟨A, n, c, els, h1, h2, h3, h4, h5, h6⟩ := h.list 1 (fun cs (p : UInt8) => cs = [.int .u8 (p.toNat : Int)]) Tryz.underlying38 (by kernel_rfl) (by omega) (fun cs h => Tr.u8 Tryz.underlying5 h)
  have hfl : ∀ els : List (List Value × UInt8), (∀ x ∈ els, x.1 = [.int .u8 (x.2.toNat : Int)]) → els.flatMap (·.1) = bv (els.map (·.2)) := fun els he => by
    induction els with
    | nil => rfl
    | cons x r ih => rw [List.flatMap_cons, ih (fun y hy => he y (List.mem_cons_of_mem _ hy)), he x (List.mem_cons_self ..)]; rfl
  rw [hfl els (fun x hx => (h5 x hx).2)] at h6
  refine ⟨A, n, c, els.map (·.2), h1, ⟨?_, h3, h4, fun hp => ?_⟩⟩
  · rw [bv_length, List.length_map, h2]
  · simpa using h6 hp
theorem slice_of (hv : v.cells.toList = cs) {t e : TypeId} (ht : Tryz.prog.underlying t = some (.slice e)) (hok : Value.okWide Tryz.prog W r b0 t v) {A : Option Addr} {n c : Nat} (h : cs = [.slice A n c]) : v = .slice A n c := by
  obtain ⟨a0, len0, cap0, rfl⟩ := okWide_slice ht hok
  have e : [Value.slice a0 len0 cap0] = [.slice A n c] := hv.trans h
  injection e with e
theorem arg_bytes (hv : Value.okWide Tryz.prog W r b0 38 v) (h : DataW.Trod enc Tryz.prog W 0 (fun _ => true) true 38 v d p) : ∃ A n c l, v = .slice A n c ∧ RdB W W.heap.size A n c l := by
  obtain ⟨A, n, c, l, h1, h2⟩ := tr_bytes (Tr.of h)
  exact ⟨A, n, c, l, slice_of rfl Tryz.underlying38 hv h1, h2⟩
/-- What was read element by element lies as rows. -/
theorem rdS_els {α : Type} {k : Nat} {R : World → Nat → α → List Value → Prop} {A : Option Addr} {n c : Nat} {els : List (List Value × α)} (h2 : els.length = n) (h3 : n ≤ c) (h4 : c ≤ maxLen) (h5 : ∀ x ∈ els, x.1.length = k ∧ R W W.heap.size x.2 x.1)
    (h6 : 0 < n → ∃ ad, A = some ad ∧ ad.block < W.heap.size ∧ ∀ (j : Nat) (u : Value), (els.flatMap (·.1))[j]? = some u → W.cell? (ad.add j) = some u) : RdS k R W W.heap.size A n c (els.map (·.2)) := by
  have hk : ∀ r ∈ els.map (·.1), r.length = k := fun r hr => by obtain ⟨x, hx, rfl⟩ := List.mem_map.1 hr; exact (h5 x hx).1
  refine ⟨els.map (·.1), by simp, hk, ⟨?_, h3, h4, ?_⟩, fun i x r hi hr => ?_⟩
  · rw [flatten_len hk, List.length_map, h2]
  · rw [← List.flatMap_def]; exact h6
  · rw [List.getElem?_map] at hi hr
    obtain ⟨y, hy, rfl⟩ := Option.map_eq_some_iff.1 hi
    rw [hy] at hr
    cases hr
    exact (h5 y (List.mem_of_getElem? hy)).2
theorem tr_ints (h : TrS enc Tryz.prog W 51 cs) : ∃ A n c l, cs = [.slice A n c] ∧ RdI W W.heap.size A n c l := by
  obtain ⟨A, n, c, els, h1, h2, h3, h4, h5, h6⟩ := h.tr.list 1 (fun cs (p : Int) => cs = [.int .i64 p] ∧ -9223372036854775808 ≤ p ∧ p ≤ 9223372036854775807) Tryz.underlying51 (by kernel_rfl) (by omega) (fun cs h => by obtain ⟨n, e1, e2⟩ := Tr.i64 (t := 3) Tryz.underlying3 h; exact ⟨n, e1, e2⟩)
  have hfl : ∀ els : List (List Value × Int), (∀ x ∈ els, x.1 = [.int .i64 x.2]) → els.flatMap (·.1) = iv (els.map (·.2)) := fun els he => by
    induction els with
    | nil => rfl
    | cons x r ih => rw [List.flatMap_cons, ih (fun y hy => he y (List.mem_cons_of_mem _ hy)), he x (List.mem_cons_self ..)]; rfl
  rw [hfl els (fun x hx => (h5 x hx).2.1)] at h6
  refine ⟨A, n, c, els.map (·.2), h1, ⟨?_, h3, h4, h6⟩, fun p hp => ?_⟩
  · rw [iv, List.length_map, List.length_map, h2]
  · obtain ⟨x, hx, rfl⟩ := List.mem_map.1 hp
    exact (h5 x hx).2.2
theorem tr_text (h : TrS enc Tryz.prog W 9 cs) : ∃ l : List UInt8, cs = [.string (strOf l)] ∧ Sc.okT l := by
  obtain ⟨s, h1, h2⟩ := h.string Tryz.underlying9
  refine ⟨s.data.toList, h1, ?_⟩
  unfold Sc.okT reachBytes at *
  have : s.data.toList.length = s.size := Array.length_toList
  omega
theorem tr_int (h : TrS enc Tryz.prog W 3 cs) : ∃ n : Int, cs = [.int .i64 n] ∧ okI n := by
  obtain ⟨n, e1, e2⟩ := Tr.i64 (t := 3) Tryz.underlying3 h.tr
  exact ⟨n, e1, e2⟩
theorem tr_slot (h : TrS enc Tryz.prog W 69 cs) : ∃ x : Sc.Slo, Sc.RSlo W W.heap.size x cs := by
  obtain ⟨hl, hf⟩ := h.struct Tryz.underlying69
  have hl2 : cs.length = 3 := hl
  match cs, hl2 with
  | [a, b, c], _ =>
    obtain ⟨s, h1, k1⟩ := tr_text (hf 0 _ rfl)
    obtain ⟨m, h2, k2⟩ := tr_int (hf 1 _ rfl)
    obtain ⟨n, h3, k3⟩ := tr_int (hf 2 _ rfl)
    have e1 : [a] = [Value.string (strOf s)] := h1
    have e2 : [b] = [Value.int .i64 m] := h2
    have e3 : [c] = [Value.int .i64 n] := h3
    injection e1 with e1; injection e2 with e2; injection e3 with e3
    subst e1 e2 e3
    exact ⟨⟨s, m, n⟩, rfl, k1, k2, k3⟩
theorem tr_room (h : TrS enc Tryz.prog W 53 cs) : ∃ x : Sc.Roo, Sc.RRoo W W.heap.size x cs := by
  obtain ⟨hl, hf⟩ := h.struct Tryz.underlying53
  have hl2 : cs.length = 4 := hl
  match cs, hl2 with
  | [a, b, c, e], _ =>
    obtain ⟨s, h1, k1⟩ := tr_text (hf 0 _ rfl)
    obtain ⟨m, h2, k2⟩ := tr_int (hf 1 _ rfl)
    obtain ⟨n, h3, k3⟩ := tr_int (hf 2 _ rfl)
    obtain ⟨A, q, ca, l, h4, k4⟩ := tr_ints (hf 3 _ rfl)
    have e1 : [a] = [Value.string (strOf s)] := h1
    have e2 : [b] = [Value.int .i64 m] := h2
    have e3 : [c] = [Value.int .i64 n] := h3
    have e4 : [e] = [Value.slice A q ca] := h4
    injection e1 with e1; injection e2 with e2; injection e3 with e3; injection e4 with e4
    subst e1 e2 e3 e4
    have hq := k4.len
    subst hq
    exact ⟨⟨s, m, n, l⟩, A, ca, rfl, k4, k1, k2, k3⟩
theorem tr_person (h : TrS enc Tryz.prog W 57 cs) : ∃ x : Sc.Per, Sc.RPer W W.heap.size x cs := by
  obtain ⟨hl, hf⟩ := h.struct Tryz.underlying57
  have hl2 : cs.length = 2 := hl
  match cs, hl2 with
  | [a, e], _ =>
    obtain ⟨s, h1, k1⟩ := tr_text (hf 0 _ rfl)
    obtain ⟨A, q, ca, l, h4, k4⟩ := tr_ints (hf 1 _ rfl)
    have e1 : [a] = [Value.string (strOf s)] := h1
    have e4 : [e] = [Value.slice A q ca] := h4
    injection e1 with e1; injection e4 with e4
    subst e1 e4
    have hq := k4.len
    subst hq
    exact ⟨⟨s, l⟩, A, ca, rfl, k4, k1⟩
theorem tr_group (h : TrS enc Tryz.prog W 49 cs) : ∃ x : Sc.Gro, Sc.RGro W W.heap.size x cs := by
  obtain ⟨hl, hf⟩ := h.struct Tryz.underlying49
  have hl2 : cs.length = 2 := hl
  match cs, hl2 with
  | [a, b], _ =>
    obtain ⟨s, h1, k1⟩ := tr_text (hf 0 _ rfl)
    obtain ⟨m, h2, k2⟩ := tr_int (hf 1 _ rfl)
    have e1 : [a] = [Value.string (strOf s)] := h1
    have e2 : [b] = [Value.int .i64 m] := h2
    injection e1 with e1; injection e2 with e2
    subst e1 e2
    exact ⟨⟨s, m⟩, rfl, k1, k2⟩
theorem tr_lesson (h : TrS enc Tryz.prog W 59 cs) : ∃ x : Sc.Les, Sc.RLes W W.heap.size x cs := by
  obtain ⟨hl, hf⟩ := h.struct Tryz.underlying59
  have hl2 : cs.length = 3 := hl
  match cs, hl2 with
  | [a, b, e], _ =>
    obtain ⟨s, h1, k1⟩ := tr_text (hf 0 _ rfl)
    obtain ⟨A, q, ca, l, h2, k2⟩ := tr_ints (hf 1 _ rfl)
    obtain ⟨A', q', ca', l', h3, k3⟩ := tr_ints (hf 2 _ rfl)
    have e1 : [a] = [Value.string (strOf s)] := h1
    have e2 : [b] = [Value.slice A q ca] := h2
    have e3 : [e] = [Value.slice A' q' ca'] := h3
    injection e1 with e1; injection e2 with e2; injection e3 with e3
    subst e1 e2 e3
    have hq := k2.len
    have hq' := k3.len
    subst hq hq'
    exact ⟨⟨s, l, l'⟩, A, ca, A', ca', rfl, k2, k3, k1⟩
theorem tr_rows {α : Type} {t e : TypeId} {k bytes : Nat} {R : World → Nat → α → List Value → Prop} (ht : Tryz.prog.underlying t = some (.slice e)) (hk : Tryz.prog.cellsOf e = k) (h0 : 0 < k) (hb : Tryz.prog.bytesOf e = bytes) (h24 : 24 ≤ bytes)
    (hR : ∀ cs, TrS enc Tryz.prog W e cs → ∃ x, R W W.heap.size x cs) (h : TrS enc Tryz.prog W t cs) : ∃ A n c l, cs = [.slice A n c] ∧ RdS k R W W.heap.size A n c l ∧ n ≤ 5864062014805 := by
  obtain ⟨A, n, c, els, h1, h2, h3, h4, hw, h5, h6⟩ := h.list k (fun cs x => R W W.heap.size x cs) ht hk h0 hR
  refine ⟨A, n, c, els.map (·.2), h1, rdS_els h2 h3 h4 h5 h6, ?_⟩
  rw [hb] at hw
  have : c * 24 ≤ c * bytes := Nat.mul_le_mul_left _ h24
  unfold reachBytes at hw
  omega
/-- A school's sizes keep within the reach. -/
def fits (f : Sc.Five) : Prop := f.nS ≤ 5864062014805 ∧ f.nR ≤ 5864062014805 ∧ f.nP ≤ 5864062014805 ∧ f.nG ≤ 5864062014805 ∧ f.nL ≤ 5864062014805
theorem arg_school (hv : Value.okWide Tryz.prog W r b0 28 v) (h : TrS enc Tryz.prog W 28 v.cells.toList) : ∃ (f : Sc.Five) (s : Sc.Sch), v = .agg f.vals ∧ Sc.RdSch W W.heap.size f s ∧ fits f := by
  obtain ⟨cs, rfl, hsz⟩ := okWide_struct Tryz.underlying28 hv
  obtain ⟨hl, hf⟩ := TrS.struct Tryz.underlying28 h
  obtain ⟨cs⟩ := cs
  have hl2 : cs.length = 5 := hsz
  match cs, hl2 with
  | [a, b, c, g, l], _ =>
    obtain ⟨A1, n1, c1, l1, h1, r1, k1⟩ := tr_rows (k := 3) (R := Sc.RSlo) Tryz.underlying22 (by kernel_rfl) (by omega) (show Tryz.prog.bytesOf 69 = 32 by kernel_rfl) (by omega) (fun cs h => tr_slot h) (hf 0 _ rfl)
    obtain ⟨A2, n2, c2, l2, h2, r2, k2⟩ := tr_rows (k := 4) (R := Sc.RRoo) Tryz.underlying23 (by kernel_rfl) (by omega) (show Tryz.prog.bytesOf 53 = 56 by kernel_rfl) (by omega) (fun cs h => tr_room h) (hf 1 _ rfl)
    obtain ⟨A3, n3, c3, l3, h3, r3, k3⟩ := tr_rows (k := 2) (R := Sc.RPer) Tryz.underlying24 (by kernel_rfl) (by omega) (show Tryz.prog.bytesOf 57 = 40 by kernel_rfl) (by omega) (fun cs h => tr_person h) (hf 2 _ rfl)
    obtain ⟨A4, n4, c4, l4, h4, r4, k4⟩ := tr_rows (k := 2) (R := Sc.RGro) Tryz.underlying25 (by kernel_rfl) (by omega) (show Tryz.prog.bytesOf 49 = 24 by kernel_rfl) (by omega) (fun cs h => tr_group h) (hf 3 _ rfl)
    obtain ⟨A5, n5, c5, l5, h5, r5, k5⟩ := tr_rows (k := 3) (R := Sc.RLes) Tryz.underlying26 (by kernel_rfl) (by omega) (show Tryz.prog.bytesOf 59 = 64 by kernel_rfl) (by omega) (fun cs h => tr_lesson h) (hf 4 _ rfl)
    have e1 : [a] = [Value.slice A1 n1 c1] := h1
    have e2 : [b] = [Value.slice A2 n2 c2] := h2
    have e3 : [c] = [Value.slice A3 n3 c3] := h3
    have e4 : [g] = [Value.slice A4 n4 c4] := h4
    have e5 : [l] = [Value.slice A5 n5 c5] := h5
    injection e1 with e1; injection e2 with e2; injection e3 with e3; injection e4 with e4; injection e5 with e5
    subst e1 e2 e3 e4 e5
    exact ⟨⟨A1, n1, c1, A2, n2, c2, A3, n3, c3, A4, n4, c4, A5, n5, c5⟩, ⟨l1, l2, l3, l4, l5⟩, rfl, ⟨r1, r2, r3, r4, r5⟩, k1, k2, k3, k4, k5⟩
theorem arg_text (hv : Value.okWide Tryz.prog W r b0 9 v) (h0 : DataW.Trod enc Tryz.prog W 0 (fun _ => true) true 9 v d p) (h : TrS enc Tryz.prog W 9 v.cells.toList) : ∃ l : List UInt8, v = .string (strOf l) ∧ Sc.okT l := by
  obtain ⟨s, rfl, _, _, _⟩ := Go.ChangeMaps.open_string Tryz.underlying9 hv h0
  obtain ⟨l, h1, h2⟩ := tr_text h
  have e : [Value.string s] = [.string (strOf l)] := h1
  injection e with e
  exact ⟨l, e, h2⟩
theorem arg_u8 (hv : Value.okWide Tryz.prog W r b0 5 v) (h0 : DataW.Trod enc Tryz.prog W 0 (fun _ => true) true 5 v d p) : ∃ a : UInt8, v = .int .u8 (a.toNat : Int) := by
  obtain ⟨a, rfl, _, _, _⟩ := open_int Tryz.underlying5 hv h0
  obtain ⟨b, h1⟩ := Tr.u8 Tryz.underlying5 (Tr.of h0)
  have e : [Value.int .u8 a] = [.int .u8 (b.toNat : Int)] := h1
  injection e with e
  exact ⟨b, e⟩
end
end Go.Proofs.YtfockoihmoljfaaGreatDoor
