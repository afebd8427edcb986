/- Rows of the call's own within an interval of blocks; what a marking leaves alone. -/
import Derived.Test.YtbajnecahojcfaaSl
namespace Go.Proofs.Ytbajnecahojcfaa
open Go.RowKit Go.Sort
set_option maxHeartbeats 400000
/-- Only blocks from lo on and below hi may have turned. -/
structure Within (lo hi : Nat) (w w' : World) : Prop where
  os : w'.os = w.os
  tape : w'.tape = w.tape
  output : w'.output = w.output
  size : w.heap.size ≤ w'.heap.size
  block : ∀ k, k < w.heap.size → (k < lo ∨ hi ≤ k) → w'.heap[k]? = w.heap[k]?
theorem Within.below {lo hi B : Nat} {w w' : World} (h : Within lo hi w w') (hB : B ≤ lo) (hs : B ≤ w.heap.size) : Below B w w' := ⟨h.os, h.tape, h.output, h.size, fun k hk => h.block k (by omega) (.inl (by omega))⟩
theorem Within.of_below {lo hi : Nat} {w w' : World} (h : Below w.heap.size w w') : Within lo hi w w' := ⟨h.os, h.tape, h.output, h.size, fun k hk _ => h.block k hk⟩
theorem Within.trans {lo hi : Nat} {a b c : World} (h : Within lo hi a b) (k : Within lo hi b c) : Within lo hi a c := ⟨k.os.trans h.os, k.tape.trans h.tape, k.output.trans h.output, Nat.le_trans h.size k.size, fun i hi' hr => (k.block i (Nat.lt_of_lt_of_le hi' h.size) hr).trans (h.block i hi' hr)⟩
theorem Within.wide {lo hi lo' hi' : Nat} {a b : World} (h : Within lo hi a b) (h1 : lo' ≤ lo) (h2 : hi ≤ hi') : Within lo' hi' a b := ⟨h.os, h.tape, h.output, h.size, fun i hi0 hr => h.block i hi0 (by omega)⟩
theorem blockW {lo hi k : Nat} {w w' : World} {o : Obj} (h : Within lo hi w w') (hk : k < lo ∨ hi ≤ k) (y : w.heap[k]? = some o) : w'.heap[k]? = some o := (h.block k (lt_of_heap y) hk).trans y
def SegI (w : World) (lo hi : Nat) (v : Value) (l : List Int) : Prop := OwnI w lo v l ∧ ∀ g, v.ownBlock = some g → g < hi
theorem SegI.row {w : World} {lo hi : Nat} {v : Value} {l : List Int} (h : SegI w lo hi v l) : IRow w v l := h.1.row
theorem SegI.of {w : World} {lo : Nat} {v : Value} {l : List Int} (h : OwnI w lo v l) : SegI w lo w.heap.size v l := ⟨h, fun g hg => (h.lt g hg).2⟩
theorem SegI.below {w w' : World} {lo hi : Nat} {v : Value} {l : List Int} (h : SegI w lo hi v l) (hb : Below w.heap.size w w') : SegI w' lo hi v l := ⟨own_below h.1 hb, h.2⟩
theorem SegI.alloc {w : World} {lo hi : Nat} {v : Value} {l : List Int} (h : SegI w lo hi v l) (o : Obj) : SegI (w.alloc o) lo hi v l := ⟨World.ownsRow.alloc h.1 o, h.2⟩
theorem SegI.within {w w' : World} {lo hi lo2 hi2 : Nat} {v : Value} {l : List Int} (h : SegI w lo2 hi2 v l) (hw : Within lo hi w w') (hd : hi2 ≤ lo ∨ hi ≤ lo2) : SegI w' lo2 hi2 v l := by
  refine ⟨⟨h.1.1, ?_⟩, h.2⟩
  rcases h.1.2 with h2 | ⟨g, cap, cur, hv, hg, hh, r⟩
  · exact .inl h2
  · have hlt := h.2 g (by rw [hv]; rfl)
    exact .inr ⟨g, cap, cur, hv, hg, blockW hw (by omega) hh, r⟩
theorem within_of_grown {w w' : World} {lo hi : Nat} {v : Value} {l : List Int} (h : SegI w lo hi v l) (hg : w.grownBy w' v.ownBlock) : Within lo hi w w' :=
  ⟨hg.os, hg.tape, hg.output, hg.size, fun k hk hr => hg.block k hk (fun e => by
    have h1 := (h.1.lt k e.symm).1
    have h2 := h.2 k e.symm
    omega)⟩
/-- A row that is known inside a region that draws. -/
def Fact.row (B : Nat) (l : List Int) : Fact :=
  ⟨fun v w => ∃ A c, v = .agg #[.slice A l.length c] ∧ OwnI w B (.slice A l.length c) l, fun _ _ _ ⟨A, c, h1, h2⟩ hb => ⟨A, c, h1, own_below h2 hb⟩⟩
def Fact.rowT (B : Nat) (l : List Int) (t : Bool) : Fact :=
  ⟨fun v w => ∃ A c, v = .tuple #[.agg #[.slice A l.length c], .bool t] ∧ OwnI w B (.slice A l.length c) l, fun _ _ _ ⟨A, c, h1, h2⟩ hb => ⟨A, c, h1, own_below h2 hb⟩⟩
theorem seg_store {w w' : World} {lo hi g : Nat} {v : Value} {l : List Int} {cs : Array Value} {T : TypeId} {fr : Nat × Nat} (h : SegI w lo hi v l) (y : w.heap[g]? = some (.cells cs T fr)) (hT : T ≠ 3) (hw : Within g (g + 1) w w') : SegI w' lo hi v l := by
  refine ⟨⟨h.1.1, ?_⟩, h.2⟩
  rcases h.1.2 with h2 | ⟨g', cap, cur, hv, hg, hh, r⟩
  · exact .inl h2
  · have hne : g' ≠ g := by
      rintro rfl
      rw [y] at hh
      simp at hh
      exact hT hh.2.1
    exact .inr ⟨g', cap, cur, hv, hg, blockW hw (by omega) hh, r⟩
/-- A new variable's block. -/
theorem wp_store_new1 {P : Program} {w : World} {ops : Array Oper} {rest : List Oper} {o : Oper} {a : Act} {Q : Exit → Act → World → Prop} (hgd : o.guard = none) (ty : TypeId) (x y : Operand) (ho : o.op = .store ty x y)
    (g : Nat) (cells : Array Value) (hx : a.eval x = .pointer (some ⟨g, 0, none⟩)) (hy : a.eval y = .agg cells)
    (t : TypeId) (old : Array Value) (hg : w.heap[g]? = some (.cells old t (0, 0))) (hi : (P.info? ty).map (·.size) = some cells.size)
    (hold : old.size = cells.size) (h1 : cells.all (·.oneCell') = true)
    (h : ∀ w', w'.heap[g]? = some (.cells cells t (0, 0)) → Within g (g + 1) w w' → w'.heap.size = w.heap.size → wpList P ops Q rest (a.put o.dst undef) w') : wpList P ops Q (o :: rest) a w :=
  wpList_store_row hgd ty x y ho g cells hx hy t old hg hi hold h1 (h _ (setRow_heap w g old cells t _ hg) ⟨rfl, rfl, rfl, by simp, fun k _ hk => setRow_other w g k cells (by omega)⟩ (by simp))
end Go.Proofs.Ytbajnecahojcfaa
