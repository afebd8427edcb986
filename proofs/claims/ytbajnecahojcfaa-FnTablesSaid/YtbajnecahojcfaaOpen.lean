/- What comes in, laid open: slices of bytes and numbers, big integers. -/
import Derived.Test.YtbajnecahojcfaaDraw
import Derived.ChangeSame
import Derived.OpenShut
import Derived.ChangeSlices
namespace Go.Proofs.Ytbajnecahojcfaa
open Go.RowKit Go.Sort
set_option maxHeartbeats 1000000
set_option maxRecDepth 100000
section
variable {H : Type} {enc : TypeId × Value → H} {W : World}
/-- A slice of numbers: its elements. -/
theorem open_nums {k : IntKind} {t e : TypeId} {fuel : Nat} {v : Value} {x : DataW H × List MemPlace} (ht : Try.prog.underlying t = some (.slice e)) (he : Try.prog.underlying e = some (.int k)) (hc : Try.prog.cellsOf e = 1) (h : DataW.trod enc Try.prog W 0 (fun _ => true) true fuel t [v] = some x) :
    ∃ zs : List Int, VRow W v (zs.map (Value.int k)) ∧ ∀ n ∈ zs, (Lit.int k n).wf = true := by
  rcases Go.ChangeShapes.open_ints ht he hc h with ⟨hcs, _⟩ | ⟨a, len, cap, zs, hcs, _, hl, hm, hlen, _, hcell, hwf⟩
  · simp at hcs; subst hcs
    exact ⟨[], VRow.nil W, fun n hn => by simp at hn⟩
  · simp at hcs; subst hcs
    simp only [if_true] at hlen
    refine ⟨zs.take len, ⟨some a, cap, by simp; omega, by simp; omega, hm, (fun h => by cases h), fun i u hu => ?_⟩, fun n hn => hwf n (List.mem_of_mem_take hn)⟩
    obtain ⟨b, off, spot⟩ := a
    have hi : i < (zs.take len).length := by have := (List.getElem?_eq_some_iff.1 hu).1; simpa using this
    have hi2 : i < zs.length := by simp at hi; omega
    have g0 := hcell 0 (by omega)
    have hspot : spot = none := by simpa [Addr.add] using World.cell?_spot g0
    subst hspot
    have g := hcell i hi2
    rw [WideShapes.add_plain] at g
    refine ⟨b, off, rfl, g.trans ?_⟩
    rw [← hu]
    have hi3 : i < len := by simp at hi; omega
    simp [List.getElem?_take, hi3, List.getD, hi2]
/-- A slice of numbers that came in as an argument. -/
theorem open_nums_arg {k : IntKind} {t e : TypeId} {b0 : Nat} {v : Value} {d : DataW H} {p : List MemPlace} (ht : Try.prog.underlying t = some (.slice e)) (he : Try.prog.underlying e = some (.int k)) (hc : Try.prog.cellsOf e = 1)
    (hv : Value.okWide Try.prog W .any b0 t v) (h : DataW.Trod enc Try.prog W 0 (fun _ => true) true t v d p) : ∃ zs : List Int, VRow W v (zs.map (Value.int k)) ∧ ∀ n ∈ zs, (Lit.int k n).wf = true := by
  obtain ⟨a, len, cap, rfl⟩ := Go.WideShapes.okWide_slice ht hv
  obtain ⟨fuel, hf⟩ := h
  exact open_nums ht he hc hf
end
/-- A slice of bytes that came in. -/
theorem SlB.of {w : World} {v : Value} {zs : List Int} (h : VRow w v (zs.map (Value.int .u8))) (hw : ∀ n ∈ zs, (Lit.int .u8 n).wf = true) : SlB w.heap.size w v (zs.map fun z => UInt8.ofNat z.toNat) := by
  obtain ⟨A, c, h1, h2, h3, h4, h5⟩ := h
  simp only [List.length_map] at h1 h2
  refine ⟨A, c, by rw [List.length_map]; exact h1, fun j hj => ?_⟩
  simp only [List.length_map] at hj
  obtain ⟨b, off, rfl, h6⟩ := VRow.at h5 (by simp; omega)
  have hz := h6 0 (.int .u8 zs[0]) (by simp [show 0 < zs.length by omega])
  refine ⟨b, off, rfl, block_lt_of_cell hz, fun i hi => ?_⟩
  simp only [List.length_map] at hi
  rw [h6 i (.int .u8 zs[i]) (by simp [hi])]
  have hb := hw zs[i] (List.getElem_mem hi)
  simp [Lit.wf, IntKind.min, IntKind.max, IntKind.signed, IntKind.bits] at hb
  simp
  omega
theorem open_row_u8 {H : Type} {enc : TypeId × Value → H} {W : World} {b0 : Nat} {v : Value} {d : DataW H} {p : List MemPlace} (hv : Value.okWide Try.prog W .any b0 32 v) (h : DataW.Trod enc Try.prog W 0 (fun _ => true) true 32 v d p) :
    ∃ bs : List UInt8, SlB W.heap.size W v bs := by
  obtain ⟨zs, h1, h2⟩ := open_nums_arg Try.underlying32 Try.underlying5 (by kernel_rfl) hv h
  exact ⟨_, SlB.of h1 h2⟩
theorem open_row_int {H : Type} {enc : TypeId × Value → H} {W : World} {b0 : Nat} {v : Value} {d : DataW H} {p : List MemPlace} (hv : Value.okWide Try.prog W .any b0 22 v) (h : DataW.Trod enc Try.prog W 0 (fun _ => true) true 22 v d p) :
    ∃ zs : List Int, IRow W v zs ∧ ∀ n ∈ zs, (Lit.int .i64 n).wf = true :=
  open_nums_arg Try.underlying22 Try.underlying3 (by kernel_rfl) hv h
end Go.Proofs.Ytbajnecahojcfaa
