/- Slices of rows: read (MRow), owned (SegM); one element behind an owned row of rows. -/
import Derived.Test.YtbajnecahojcfaaIntS
import Derived.Test.YtbajnecahojcfaaSeg
namespace Go.Proofs.Ytbajnecahojcfaa
open Go.RowKit Go.Sort
set_option maxHeartbeats 1000000
set_option maxRecDepth 100000

theorem below_tr' {B : Nat} {a b c : World} (h : Below B a b) (k : Below b.heap.size b c) (hs : B ≤ b.heap.size := by omega) : Below B a c := h.trans (k.mono hs)
abbrev PL := List (Value × List Int)
/-- v is a slice of the rows m. -/
def MRow (w : World) (v : Value) (m : List (List Int)) : Prop :=
  ∃ ps : PL, ps.map Prod.snd = m ∧ VRow w v (ps.map Prod.fst) ∧ ∀ p ∈ ps, IRow w p.1 p.2
theorem MRow.below {w w' : World} {v : Value} {m : List (List Int)} (h : MRow w v m) (hb : Below w.heap.size w w') : MRow w' v m := by
  obtain ⟨ps, h1, h2, h3⟩ := h
  exact ⟨ps, h1, h2.below hb, fun p hp => (h3 p hp).below hb⟩
theorem MRow.alloc {w : World} {v : Value} {m : List (List Int)} (h : MRow w v m) (o : Obj) : MRow (w.alloc o) v m := h.below ((Below.refl _ _).alloc (Nat.le_refl _) o)
theorem MRow.nil (w : World) : MRow w (.slice none 0 0) [] := ⟨[], rfl, VRow.nil w, fun p hp => by simp at hp⟩
/-- Opened for a walk. -/
theorem MRow.open {w : World} {v : Value} {m : List (List Int)} (h : MRow w v m) : ∃ A c, v = .slice A m.length c ∧ m.length ≤ c ∧ c ≤ 9223372036854775807 ∧ (A = none → c = 0) ∧
    ∀ i (_ : i < m.length), ∃ b off, A = some ⟨b, off, none⟩ ∧ ∀ j (hj : j < m.length), ∃ A' c', w.cell? ⟨b, off + j, none⟩ = some (.slice A' m[j].length c') ∧ IRow w (.slice A' m[j].length c') m[j] := by
  obtain ⟨ps, rfl, ⟨A, c, h1, h2, h3, h4, h5⟩, hr⟩ := h
  simp only [List.length_map] at h1 h2
  refine ⟨A, c, by rw [List.length_map]; exact h1, by rw [List.length_map]; exact h2, by unfold maxLen at h3; omega, h4, fun i hi => ?_⟩
  rw [List.length_map] at hi
  obtain ⟨b, off, rfl, h6⟩ := VRow.at h5 (by simp; omega)
  refine ⟨b, off, rfl, fun j hj => ?_⟩
  rw [List.length_map] at hj
  have h7 := hr ps[j] (List.getElem_mem hj)
  obtain ⟨A', c', e, -⟩ := IRow.open h7
  have h8 := h6 j ps[j].1 (by simp [hj])
  rw [List.getElem_map]
  exact ⟨A', c', by rw [h8, e], e ▸ h7⟩
theorem MRow.len {w : World} {v : Value} {m : List (List Int)} (h : MRow w v m) : m.length ≤ 9223372036854775807 := by
  obtain ⟨A, c, -, h1, h2, -⟩ := h.open
  omega

/-- Rows of the call's own, in blocks from lo on and below hi, no two in one block. -/
def RowsOwn (w : World) (lo hi : Nat) (ps : PL) : Prop :=
  (∀ p ∈ ps, SegI w lo hi p.1 p.2) ∧ ps.Pairwise fun p q => ∀ g, p.1.ownBlock = some g → q.1.ownBlock ≠ some g
theorem RowsOwn.nil (w : World) (lo hi : Nat) : RowsOwn w lo hi [] := ⟨fun p hp => by simp at hp, List.Pairwise.nil⟩
theorem RowsOwn.below {w w' : World} {lo hi : Nat} {ps : PL} (h : RowsOwn w lo hi ps) (hb : Below w.heap.size w w') : RowsOwn w' lo hi ps := ⟨fun p hp => (h.1 p hp).below hb, h.2⟩
theorem RowsOwn.within {w w' : World} {lo hi lo2 hi2 : Nat} {ps : PL} (h : RowsOwn w lo2 hi2 ps) (hw : Within lo hi w w') (hd : hi2 ≤ lo ∨ hi ≤ lo2) : RowsOwn w' lo2 hi2 ps := ⟨fun p hp => (h.1 p hp).within hw hd, h.2⟩
theorem SegI.wide {w : World} {lo hi lo' hi' : Nat} {v : Value} {l : List Int} (h : SegI w lo hi v l) (h1 : lo' ≤ lo) (h2 : hi ≤ hi') : SegI w lo' hi' v l := by
  refine ⟨⟨h.1.1, ?_⟩, fun g hg => Nat.lt_of_lt_of_le (h.2 g hg) h2⟩
  rcases h.1.2 with h2 | ⟨g, cap, cur, hv, hg, r⟩
  · exact .inl h2
  · exact .inr ⟨g, cap, cur, hv, Nat.le_trans h1 hg, r⟩
theorem RowsOwn.wide {w : World} {lo hi lo' hi' : Nat} {ps : PL} (h : RowsOwn w lo hi ps) (h1 : lo' ≤ lo) (h2 : hi ≤ hi') : RowsOwn w lo' hi' ps := ⟨fun p hp => (h.1 p hp).wide h1 h2, h.2⟩
theorem SegI.lo {w : World} {lo hi : Nat} {v : Value} {l : List Int} (h : SegI w lo hi v l) {g : Nat} (hg : v.ownBlock = some g) : lo ≤ g := (h.1.lt g hg).1
theorem RowsOwn.append {w : World} {lo mid hi : Nat} {ps qs : PL} (h : RowsOwn w lo mid ps) (k : RowsOwn w mid hi qs) (h1 : lo ≤ mid) (h2 : mid ≤ hi) : RowsOwn w lo hi (ps ++ qs) := by
  refine ⟨fun p hp => ?_, List.pairwise_append.2 ⟨h.2, k.2, fun a ha b hb g hg he => ?_⟩⟩
  · rcases List.mem_append.1 hp with hp | hp
    · exact (h.1 p hp).wide (Nat.le_refl _) h2
    · exact (k.1 p hp).wide h1 (Nat.le_refl _)
  · have e1 := (h.1 a ha).2 g hg
    have e2 := (k.1 b hb).lo he
    omega
theorem RowsOwn.one {w : World} {lo hi : Nat} {u : Value} {r : List Int} (h : SegI w lo hi u r) : RowsOwn w lo hi [(u, r)] := ⟨fun p hp => by rw [List.mem_singleton.1 hp]; exact h, List.pairwise_singleton _ _⟩
theorem RowsOwn.perm {w : World} {lo hi : Nat} {ps qs : PL} (h : RowsOwn w lo hi ps) (hp : ps.Perm qs) : RowsOwn w lo hi qs :=
  ⟨fun p hq => h.1 p (hp.mem_iff.2 hq), hp.pairwise h.2 fun hxy g h1 h2 => hxy g h2 h1⟩
theorem RowsOwn.sub {w : World} {lo hi : Nat} {ps qs : PL} (h : RowsOwn w lo hi ps) (hs : qs.Sublist ps) : RowsOwn w lo hi qs :=
  ⟨fun p hq => h.1 p (hs.subset hq), h.2.sublist hs⟩

/-- A row of rows of the call's own. -/
def SegM (w : World) (lo hi : Nat) (v : Value) (m : List (List Int)) : Prop :=
  ∃ ps : PL, ps.map Prod.snd = m ∧ w.ownsRow lo 22 1 v m.length (ps.map Prod.fst) ∧ (∀ g, v.ownBlock = some g → g < hi) ∧ RowsOwn w lo hi ps
abbrev OwnM (w : World) (lo : Nat) (v : Value) (m : List (List Int)) : Prop := SegM w lo w.heap.size v m
theorem SegM.nil (w : World) (lo hi : Nat) : SegM w lo hi (.slice none 0 0) [] := ⟨[], rfl, World.ownsRow_nil _ _ _ _, (fun g hg => by cases hg), RowsOwn.nil _ _ _⟩
theorem SegM.row {w : World} {lo hi : Nat} {v : Value} {m : List (List Int)} (h : SegM w lo hi v m) : MRow w v m := by
  obtain ⟨ps, h1, h2, h3, h4⟩ := h
  exact ⟨ps, h1, VRow.own h2, fun p hp => (h4.1 p hp).row⟩
theorem SegM.of {w : World} {lo : Nat} {v : Value} {m : List (List Int)} (h : OwnM w lo v m) : SegM w lo w.heap.size v m := h
theorem seg_lt {w : World} {lo hi size n : Nat} {e : TypeId} {v : Value} {xs : List Value} (h : w.ownsRow lo e size v n xs) {g : Nat} (hg : v.ownBlock = some g) : lo ≤ g ∧ g < w.heap.size := h.lt g hg
theorem ownsRow_within {w w' : World} {lo hi lo2 hi2 size n : Nat} {e : TypeId} {v : Value} {xs : List Value} (h : w.ownsRow lo2 e size v n xs) (h2 : ∀ g, v.ownBlock = some g → g < hi2) (hw : Within lo hi w w') (hd : hi2 ≤ lo ∨ hi ≤ lo2) : w'.ownsRow lo2 e size v n xs := by
  refine ⟨h.1, ?_⟩
  rcases h.2 with h3 | ⟨g, cap, cur, hv, hg, hh, r⟩
  · exact .inl h3
  · have hlt := h2 g (by rw [hv]; rfl)
    exact .inr ⟨g, cap, cur, hv, hg, blockW hw (by omega) hh, r⟩
theorem ownsRow_mono {w : World} {B B' size n : Nat} {e : TypeId} {v : Value} {xs : List Value} (h : w.ownsRow B e size v n xs) (hB : B' ≤ B) : w.ownsRow B' e size v n xs := by
  obtain ⟨h1, h2⟩ := h
  refine ⟨h1, ?_⟩
  rcases h2 with h2 | ⟨g, cap, cur, hv, hg, r⟩
  · exact .inl h2
  · exact .inr ⟨g, cap, cur, hv, Nat.le_trans hB hg, r⟩
theorem SegM.below {w w' : World} {lo hi : Nat} {v : Value} {m : List (List Int)} (h : SegM w lo hi v m) (hb : Below w.heap.size w w') : SegM w' lo hi v m := by
  obtain ⟨ps, h1, h2, h3, h4⟩ := h
  exact ⟨ps, h1, own_below h2 hb, h3, h4.below hb⟩
theorem SegM.alloc {w : World} {lo hi : Nat} {v : Value} {m : List (List Int)} (h : SegM w lo hi v m) (o : Obj) : SegM (w.alloc o) lo hi v m := h.below ((Below.refl _ _).alloc (Nat.le_refl _) o)
theorem SegM.within {w w' : World} {lo hi lo2 hi2 : Nat} {v : Value} {m : List (List Int)} (h : SegM w lo2 hi2 v m) (hw : Within lo hi w w') (hd : hi2 ≤ lo ∨ hi ≤ lo2) : SegM w' lo2 hi2 v m := by
  obtain ⟨ps, h1, h2, h3, h4⟩ := h
  exact ⟨ps, h1, ownsRow_within h2 h3 hw hd, h3, h4.within hw hd⟩
theorem SegM.wide {w : World} {lo hi lo' hi' : Nat} {v : Value} {m : List (List Int)} (h : SegM w lo hi v m) (h1 : lo' ≤ lo) (h2 : hi ≤ hi') : SegM w lo' hi' v m := by
  obtain ⟨ps, e1, e2, e3, e4⟩ := h
  exact ⟨ps, e1, ownsRow_mono e2 h1, fun g hg => Nat.lt_of_lt_of_le (e3 g hg) h2, e4.wide h1 h2⟩
/-- Only what lies in [lo, hi) may have turned, or what is new: an owned row below stays. -/
theorem OwnM.below {w w' : World} {lo : Nat} {v : Value} {m : List (List Int)} (h : OwnM w lo v m) (hb : Below w.heap.size w w') : OwnM w' lo v m := (SegM.below h hb).wide (Nat.le_refl _) hb.size
theorem OwnM.nil (w : World) (lo : Nat) : OwnM w lo (.slice none 0 0) [] := SegM.nil _ _ _
/-- One block: the outer row's type is not the inner rows'. -/
theorem own_ne_block {w : World} {lo lo2 size size2 n n2 : Nat} {e e2 : TypeId} {v v2 : Value} {xs xs2 : List Value} (h : w.ownsRow lo e size v n xs) (h2 : w.ownsRow lo2 e2 size2 v2 n2 xs2) (hne : e ≠ e2) {g : Nat} (hg : v.ownBlock = some g) : v2.ownBlock ≠ some g := by
  intro hg2
  rcases h.2 with ⟨rfl, _⟩ | ⟨k, cap, cur, rfl, _, hh, _⟩
  · cases hg
  rcases h2.2 with ⟨rfl, _⟩ | ⟨k2, cap2, cur2, rfl, _, hh2, _⟩
  · cases hg2
  · simp only [Value.ownBlock, Option.some.injEq] at hg hg2
    subst hg hg2
    rw [hh] at hh2
    simp only [Option.some.injEq, Obj.cells.injEq] at hh2
    exact hne hh2.2.1
theorem own_grown_ne {w w' : World} {B size n : Nat} {e : TypeId} {v : Value} {xs : List Value} {r : Option Nat} (h : w.ownsRow B e size v n xs) (hg : w.grownBy w' r) (hne : ∀ g, v.ownBlock = some g → r ≠ some g) : w'.ownsRow B e size v n xs := by
  refine ⟨h.1, ?_⟩
  rcases h.2 with h3 | ⟨g, cap, cur, hv, hb, hh, k⟩
  · exact .inl h3
  · exact .inr ⟨g, cap, cur, hv, hb, (hg.block g (lt_of_heap hh) (fun e => hne g (by rw [hv]; rfl) e.symm)).trans hh, k⟩
theorem rows_grown {w w' : World} {lo lo2 hi n : Nat} {v : Value} {xs : List Value} {ps : PL} (h : RowsOwn w lo hi ps) (ho : w.ownsRow lo2 22 1 v n xs) (hg : w.grownBy w' v.ownBlock) : RowsOwn w' lo hi ps :=
  ⟨fun p hp => ⟨own_grown_ne (h.1 p hp).1 hg fun g h1 h2 => own_ne_block ho (h.1 p hp).1 (by decide) h2 h1, (h.1 p hp).2⟩, h.2⟩

/-- append(out, u) where u's block is newer than out's rows. -/
theorem wp_append_rowM {w : World} {ops : Array Oper} {rest : List Oper} {o : Oper} {a : Act} {Q : Exit → Act → World → Prop} (hgd : o.guard = none) (s x : Operand)
    (ho : o.op = .call { callee := .builtin .append, args := #[s, x], argTypes := #[42, 42] }) (lo mid : Nat) (v : Value) (m : List (List Int)) (hs : a.eval s = v) (hown : SegM w lo mid v m)
    (u : Value) (r : List Int) (hu : OwnI w mid u r) (hx : a.eval x = .slice (some ⟨w.heap.size, 0, none⟩) 1 1) (hn : m.length + 1 ≤ 1099511627776) (hlo : lo ≤ mid) (hmid : mid ≤ w.heap.size)
    (h : ∀ v' w', OwnM w' lo v' (m ++ [r]) → Below lo w w' → w.grownBy w' v.ownBlock → wpList Try.prog ops Q rest (a.put o.dst v') w') : wpList Try.prog ops Q (o :: rest) a (w.alloc (.cells #[u] 22)) := by
  obtain ⟨ps, h1, h2, h3, h4⟩ := hown
  have hlen : ps.length = m.length := by rw [← h1, List.length_map]
  have h5 : RowsOwn w lo w.heap.size (ps ++ [(u, r)]) := h4.append (RowsOwn.one (SegI.of hu)) hlo hmid
  refine wp_append_one rowT hgd s x ho lo v m.length (ps.map Prod.fst) hs h2 u hx (by
    obtain ⟨A, c, e, -⟩ := IRow.open hu.row
    rw [e]; rfl) hn (by omega) fun v' w' hown' hgr hb => h v' w' ⟨ps ++ [(u, r)], by simp [h1], by
      rw [List.map_append, List.length_append]; exact hown', (fun g hg => (hown'.lt g hg).2), (rows_grown h5 h2 hgr).wide (Nat.le_refl _) hgr.size⟩ hb hgr
end Go.Proofs.Ytbajnecahojcfaa
