/- What comes in, laid open: slices of rows, relations. -/
import Derived.Test.YtbajnecahojcfaaOpen
import Derived.Test.YtbajnecahojcfaaMat
import Derived.Deep.Matrix
namespace Go.Proofs.Ytbajnecahojcfaa
open Go.RowKit Go.Sort
set_option maxHeartbeats 1000000
set_option maxRecDepth 100000
section
variable {H : Type} {enc : TypeId × Value → H} {W : World}
theorem open_rows {fuel : Nat} {v : Value} {x : DataW H × List MemPlace} (h : DataW.trod enc Try.prog W 0 (fun _ => true) true fuel 42 [v] = some x) : ∃ m, MRow W v m := by
  rcases Go.Deep.open_int_rows (k := .i64) Try.underlying42 Try.underlying22 Try.underlying3 (by kernel_rfl) (by kernel_rfl) h with ⟨hcs, _⟩ | ⟨a, len, cap, A, L, C, Z, hcs, _, hl, hm, _, hr⟩
  · simp at hcs; subst hcs
    exact ⟨[], MRow.nil W⟩
  · simp at hcs; subst hcs
    refine ⟨(List.range len).map fun r => (Z r).take (L r), (List.range len).map fun r => (.slice (A r) (L r) (C r), (Z r).take (L r)), by simp, ?_, fun p hp => ?_⟩
    · refine ⟨some a, cap, by simp, by simpa using hl, hm, (fun h => by cases h), fun i u hu => ?_⟩
      have hi : i < len := by have := (List.getElem?_eq_some_iff.1 hu).1; simpa using this
      have g0 := (hr i (by omega)).1
      obtain ⟨b, off, spot⟩ := a
      have hspot : spot = none := by simpa [Addr.add] using World.cell?_spot (hr 0 (by omega)).1
      subst hspot
      rw [WideShapes.add_plain] at g0
      refine ⟨b, off, rfl, g0.trans ?_⟩
      rw [← hu]
      simp [hi]
    · obtain ⟨r, hr0, rfl⟩ := List.mem_map.1 hp
      have hrl := List.mem_range.1 hr0
      obtain ⟨_, q1, q2, q3, q4, q5, q6⟩ := hr r (by omega)
      show IRow W (.slice (A r) (L r) (C r)) ((Z r).take (L r))
      have hlen : ((Z r).take (L r)).length = L r := by simp; omega
      refine ⟨A r, C r, by rw [List.length_map, hlen], by rw [List.length_map, hlen]; exact q1, q2, q5, fun i u hu => ?_⟩
      have hi : i < L r := by have := (List.getElem?_eq_some_iff.1 hu).1; rw [List.length_map, hlen] at this; exact this
      cases hA : A r with
      | none => have := q5 hA; omega
      | some a' =>
        obtain ⟨b, off, spot⟩ := a'
        have g0 := (q6 _ hA).2 i (by omega)
        have hspot : spot = none := by simpa [Addr.add] using World.cell?_spot ((q6 _ hA).2 0 (by omega))
        subst hspot
        rw [WideShapes.add_plain] at g0
        refine ⟨b, off, rfl, g0.trans ?_⟩
        rw [← hu]
        have h2 : i < (Z r).length := by omega
        simp [List.getD, h2, intV, hi]
theorem open_rows_int {b0 : Nat} {v : Value} {d : DataW H} {p : List MemPlace} (hv : Value.okWide Try.prog W .any b0 42 v) (h : DataW.Trod enc Try.prog W 0 (fun _ => true) true 42 v d p) : ∃ m, MRow W v m := by
  obtain ⟨a, len, cap, rfl⟩ := Go.WideShapes.okWide_slice Try.underlying42 hv
  obtain ⟨fuel, hf⟩ := h
  exact open_rows hf
/-- A relation's two cells. -/
theorem open_rel_cells {fuel : Nat} {c0 c1 : Value} {x : DataW H × List MemPlace} (h : DataW.trod enc Try.prog W 0 (fun _ => true) true fuel 69 [c0, c1] = some x) :
    ∃ a m, c0 = .int .i64 a ∧ (Lit.int .i64 a).wf = true ∧ MRow W c1 m := by
  obtain ⟨y0, y1, n, hx, _, hy0, hy1⟩ := Go.ChangeShapes.trod_struct2 Try.underlying69 h
  obtain ⟨a, e0, _, wa⟩ := DataW.trod_int Try.underlying3 hy0
  have hc : Try.prog.cellsOf 3 = 1 := by kernel_rfl
  have hc2 : Try.prog.cellsOf 42 = 1 := by kernel_rfl
  simp [hc] at e0
  simp [hc2] at hy1
  obtain ⟨m, hm⟩ := open_rows hy1
  exact ⟨a, m, e0, wa, hm⟩
theorem open_relation {b0 : Nat} {v : Value} {d : DataW H} {p : List MemPlace} (hv : Value.okWide Try.prog W .any b0 69 v) (h : DataW.Trod enc Try.prog W 0 (fun _ => true) true 69 v d p) :
    ∃ am : Int × List (List Int), ∃ u, v = .agg #[.int .i64 am.1, u] ∧ (Lit.int .i64 am.1).wf = true ∧ MRow W u am.2 := by
  obtain ⟨cs, rfl, hsz⟩ := Go.WideShapes.okWide_struct Try.underlying69 hv
  rw [show Try.prog.cellsOf 69 = 2 by kernel_rfl] at hsz
  obtain ⟨l⟩ := cs
  match l, hsz with
  | [c0, c1], _ =>
  obtain ⟨fuel, hf⟩ := h
  obtain ⟨a, m, rfl, wa, hm⟩ := open_rel_cells (by simpa [Value.cells] using hf)
  exact ⟨(a, m), c1, rfl, wa, hm⟩
end
end Go.Proofs.Ytbajnecahojcfaa
