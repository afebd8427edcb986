/- What comes in, laid open: databases. -/
import Derived.Test.YtbajnecahojcfaaOpenR
import Derived.Test.YtbajnecahojcfaaDb
namespace Go.Proofs.Ytbajnecahojcfaa
open Go.RowKit Go.Sort
set_option maxHeartbeats 1000000
set_option maxRecDepth 100000
section
variable {H : Type} {enc : TypeId × Value → H} {W : World}
theorem open_tab {fuel : Nat} {c0 c1 c2 : Value} {x : DataW H × List MemPlace} (h : DataW.trod enc Try.prog W 0 (fun _ => true) true fuel 128 [c0, c1, c2] = some x) :
    ∃ t : Tab, c0 = .string ⟨t.1.toArray⟩ ∧ t.1.length ≤ 9223372036854775807 ∧ c1 = .int .i64 t.2.1 ∧ MRow W c2 t.2.2 := by
  obtain ⟨y0, y1, n, hx, _, hy0, hy1⟩ := Go.ChangeShapes.trod_struct2 Try.underlying128 h
  have hc : Try.prog.cellsOf 9 = 1 := by kernel_rfl
  have hc2 : Try.prog.cellsOf 69 = 2 := by kernel_rfl
  obtain ⟨s, e0, _, ws⟩ := DataW.trod_string Try.underlying9 hy0
  simp [hc] at e0
  simp [hc2] at hy1
  obtain ⟨a, m, rfl, _, hm⟩ := open_rel_cells hy1
  obtain ⟨⟨l⟩⟩ := s
  exact ⟨(l, a, m), e0, ws, rfl, hm⟩
theorem open_tabs {fuel : Nat} {c0 : Value} {x : DataW H × List MemPlace} (h : DataW.trod enc Try.prog W 0 (fun _ => true) true fuel 62 [c0] = some x) :
    ∃ T : List Tab, TRow W c0 T ∧ ∀ t ∈ T, t.1.length ≤ 9223372036854775807 := by
  rcases Go.Deep.open_slice Try.underlying62 h with ⟨hcs, _⟩ | ⟨a, len, cap, m, n, D, Pl, hcs, _, hl, hm, hmm, _, hx⟩
  · simp at hcs; subst hcs
    exact ⟨[], TRow.nil W, fun t ht => by cases ht⟩
  · simp at hcs; subst hcs
    simp only [ite_true] at hmm
    subst hmm
    have hc : Try.prog.cellsOf 128 = 3 := by kernel_rfl
    obtain ⟨b, off, spot⟩ := a
    have hsp : 0 < len → spot = none := fun h0 => by
      obtain ⟨cs', h1, h2⟩ := hx 0 (by omega)
      rw [hc] at h1
      have g0 := (World.cells?_some h1).2.2 0 (by omega)
      have hl3 := (World.cells?_some h1).2.1
      rw [List.getElem?_eq_getElem (by omega)] at g0
      simpa [Addr.add] using World.cell?_spot g0
    have hX : ∀ i, i < len → ∃ t : Tab, t.1.length ≤ 9223372036854775807 ∧ spot = none ∧ W.cell? ⟨b, off + i * 3, none⟩ = some (strV t.1) ∧ W.cell? ⟨b, off + i * 3 + 1, none⟩ = some (.int .i64 t.2.1) ∧ ∃ u, W.cell? ⟨b, off + i * 3 + 2, none⟩ = some u ∧ MRow W u t.2.2 := fun i hi => by
      obtain ⟨cs', h1, h2⟩ := hx i (by omega)
      rw [hc] at h1
      obtain ⟨_, hlen, hcell⟩ := World.cells?_some h1
      match cs', hlen with
      | [d0, d1, d2], _ =>
      obtain ⟨t, rfl, hN, rfl, hm2⟩ := open_tab h2
      have g0 := hcell 0 (by omega)
      have g1 := hcell 1 (by omega)
      have g2 := hcell 2 (by omega)
      have hspot : spot = none := hsp (by omega)
      subst hspot
      rw [WideShapes.add_plain, WideShapes.add_plain] at g0 g1 g2
      exact ⟨t, hN, rfl, g0, g1, d2, g2, hm2⟩
    obtain ⟨f, hf⟩ := Go.Deep.choose_lt hX
    refine ⟨(List.range len).map f, ⟨some ⟨b, off, spot⟩, m, by simp, by simpa using hl, hm, (fun h => by cases h), fun i hi => ?_⟩, fun t ht => ?_⟩
    · have hi' : i < len := by simpa using hi
      obtain ⟨_, rfl, c0, c1, u, c2, hm2⟩ := hf i hi'
      obtain ⟨A, c, rfl⟩ := MRow.opened hm2
      simp only [List.getElem_map, List.getElem_range]
      exact ⟨b, off, rfl, c0, c1, A, c, c2, hm2⟩
    · obtain ⟨i, hi, rfl⟩ := List.mem_map.1 ht
      exact (hf i (List.mem_range.1 hi)).1
theorem open_database {b0 : Nat} {v : Value} {d : DataW H} {p : List MemPlace} (hv : Value.okWide Try.prog W .any b0 64 v) (h : DataW.Trod enc Try.prog W 0 (fun _ => true) true 64 v d p) :
    ∃ T : List Tab, ∃ u, v = .agg #[u] ∧ TRow W u T ∧ ∀ t ∈ T, t.1.length ≤ 9223372036854775807 := by
  obtain ⟨cs, rfl, hsz⟩ := Go.WideShapes.okWide_struct Try.underlying64 hv
  rw [show Try.prog.cellsOf 64 = 1 by kernel_rfl] at hsz
  obtain ⟨l⟩ := cs
  match l, hsz with
  | [c0], _ =>
  obtain ⟨fuel, hf⟩ := h
  obtain ⟨y0, m, _, hx, hy0⟩ := Go.ChangeShapes.trod_struct1 Try.underlying64 hf
  have hc : Try.prog.cellsOf 62 = 1 := by kernel_rfl
  simp [Value.cells, hc] at hy0
  obtain ⟨T, h1, h2⟩ := open_tabs hy0
  exact ⟨T, c0, rfl, h1, h2⟩
end
end Go.Proofs.Ytbajnecahojcfaa
