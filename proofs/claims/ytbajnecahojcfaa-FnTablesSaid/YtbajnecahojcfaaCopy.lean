/- Copies of rows and relations, both. -/
import Derived.Test.YtbajnecahojcfaaRelL
import Derived.Test.YtbajnecahojcfaaFactR
namespace Go.Proofs.Ytbajnecahojcfaa
open Go.RowKit Go.Sort
set_option maxHeartbeats 2000000
set_option maxRecDepth 100000

theorem blockL {B k : Nat} {w w' : World} {o : Obj} (h : Below B w w') (hk : k < B) (y : w.heap[k]? = some o) : w'.heap[k]? = some o := (h.block k hk).trans y
theorem lit_nil (w : World) {B : Nat} (e : TypeId) (hB : B ≤ w.heap.size) : (w.alloc (.cells #[] e)).ownsRow B e 1 (.slice (some ⟨w.heap.size, 0, none⟩) 0 0) 0 [] := World.ownsRow_lit w #[] 0 hB (by decide) rfl
theorem copyInts_i (v : Value) (l : List Int) (hl : l.length ≤ 1099511627776) (w : World) (hv : IRow w v l) : Calls Try.prog 133 #[v] w (fun e w' => ∃ A c, e = .returned (.slice A l.length c) ∧ OwnI w' w.heap.size (.slice A l.length c) l ∧ Below w.heap.size w w') := by
  have hv2 := hv.alloc (.cells #[] 3)
  have h0 := lit_nil w 3 (Nat.le_refl w.heap.size)
  obtain ⟨A, c, e, -⟩ := IRow.open hv
  subst e
  have hb0 : Below w.heap.size w (w.alloc (.cells #[] 3)) := (Below.refl _ _).alloc (Nat.le_refl _) _
  have Hhv := Lib.hid hv; clear hv
  go_enter Try.func133, Try.ntmps133
  go_wp2_with (at_builtin; go_must (refine wp_append_vrow intT rfl _ _ rfl w.heap.size _ 0 [] rfl h0 _ (l.map intV) rfl hv2 (int_one l) (by simp; omega) (by simp) ?_; intro v2 w2 hown2 hgr2 hb2; rw [List.length_map, Nat.zero_add, List.nil_append] at hown2; obtain ⟨A2, c2, e2, -⟩ := IRow.open (OwnI.row hown2); subst e2))
  go_ret
  exact ⟨_, _, rfl, hown2, hb0.trans (hb2.mono (Nat.le_refl _))⟩

section
variable {t e : TypeId} {z : Value} {bytes : Nat}
/-- append([]T{}, x...): nothing old is written. -/
theorem wp_append_emptyK (E : ElemT t e z bytes) {w : World} {o : Oper} {a : Act} {K : Act → World → Prop} {Q : Exit → Act → World → Prop} (s x : Operand)
    (ho : o.op = .call { callee := .builtin .append, args := #[s, x], argTypes := #[t, t] }) (B g : Nat) (hs : a.eval s = .slice (some ⟨g, 0, none⟩) 0 0) (hown : w.ownsRow B e 1 (.slice (some ⟨g, 0, none⟩) 0 0) 0 [])
    (v2 : Value) (ys : List Value) (hx : a.eval x = v2) (hsrc : VRow w v2 ys) (h1 : ∀ u ∈ ys, u.oneCell' = true) (hn : ys.length ≤ 1099511627776) (hB : B ≤ w.heap.size)
    (h : ∀ v' w', w'.ownsRow B e 1 v' ys.length ys → Below w.heap.size w w' → K (a.put o.dst v') w') : o.wp Try.prog a w K Q := by
  obtain ⟨i0, hi, hz0, hz1, hz2⟩ := info_parts E.info
  have hby := E.by_
  have hsrc' := hsrc
  obtain ⟨A, c, rfl, h2, h3, h4, h5⟩ := hsrc
  cases A with
  | none =>
    have hc := h4 rfl
    subst hc
    have hy : ys = [] := List.length_eq_zero_iff.1 (by omega)
    subst hy
    have hr := run_append_owned_none (P := Try.prog) w B t o.type e i0 1 E.und hi _ 0 [] hown
    unfold Oper.wp execOp
    simp only [ho, resolve, invoke, builtin, Sem.run_bind, Sem.run_pure, Result.andThen_ok, List.map_toArray, List.map_cons, List.map_nil, hs, hx, List.length_nil, hr]
    exact h _ w hown (Below.refl _ _)
  | some ad =>
    have hcell : ∀ j u, ys[j]? = some u → w.cell? (ad.add j) = some u := fun j u hu => by obtain ⟨b, off, e', h6⟩ := h5 j u hu; rw [Option.some.inj e', Addr.add_lit]; exact h6
    by_cases hy : ys = []
    · subst hy
      rcases hown.2 with ⟨h7, _⟩ | ⟨g', cap, cur, h7, _, hh, hnc, hm, hsz, htk⟩
      · cases h7
      · simp only [Value.slice.injEq, Option.some.injEq, Addr.mk.injEq] at h7
        obtain ⟨⟨rfl, -⟩, -, rfl⟩ := h7
        have hr := run_append_room (P := Try.prog) w t o.type e i0 E.und hi g 0 0 cur hh ad 0 c [] (by simp) (fun j u hu => by simp at hu) (fun u hu => by simp at hu) (by omega) (by simp)
        unfold Oper.wp execOp
        simp only [ho, resolve, invoke, builtin, Sem.run_bind, Sem.run_pure, Result.andThen_ok, List.map_toArray, List.map_cons, List.map_nil, hs, hx, List.length_nil, hr]
        have hcur : (cur.toList.take (0 * i0.size) ++ ([] : List Value) ++ cur.toList.drop (0 * i0.size + 0)).toArray = cur := by simp
        rw [hcur]
        have hk : ∀ k, (w.setRow g cur).heap[k]? = w.heap[k]? := fun k => by
          by_cases hk : k = g
          · subst hk; rw [setRow_heap w k cur cur e _ hh, hh]
          · exact setRow_other w g k cur hk
        have hb : Below w.heap.size w (w.setRow g cur) := ⟨rfl, rfl, rfl, by simp, fun k _ => hk k⟩
        exact h _ _ (own_below hown hb) hb
    · have hp : 0 < ys.length := by cases ys with | nil => exact absurd rfl hy | cons x y => simp
      obtain ⟨v', w', hr, r1, r2⟩ := run_append_arg_grows (P := Try.prog) w t o.type e i0 z 1 bytes E.und hi hz0 hz1 hz2 E.one (by decide) ⟨g, 0, none⟩ 0 0 [] (by simp) (fun j u hu => by simp at hu) ad ys.length c ys (by omega) hcell (by omega) (by unfold maxLen; omega) (Nat.le_trans (Nat.mul_le_mul (show 0 + ys.length ≤ 1099511627776 by omega) hby) (by decide))
      unfold Oper.wp execOp
      simp only [ho, resolve, invoke, builtin, Sem.run_bind, Sem.run_pure, Result.andThen_ok, List.map_toArray, List.map_cons, List.map_nil, hs, hx, hr]
      refine h v' w' ?_ ⟨r2.os, r2.tape, r2.output, r2.size, fun k hk => r2.block k hk (by simp)⟩
      rw [Nat.zero_add, List.nil_append] at r1
      exact ownsRow_mono r1 hB
theorem wp_append_empty (E : ElemT t e z bytes) {w : World} {ops : Array Oper} {rest : List Oper} {o : Oper} {a : Act} {Q : Exit → Act → World → Prop} (hgd : o.guard = none) (s x : Operand)
    (ho : o.op = .call { callee := .builtin .append, args := #[s, x], argTypes := #[t, t] }) (B g : Nat) (hs : a.eval s = .slice (some ⟨g, 0, none⟩) 0 0) (hown : w.ownsRow B e 1 (.slice (some ⟨g, 0, none⟩) 0 0) 0 [])
    (v2 : Value) (ys : List Value) (hx : a.eval x = v2) (hsrc : VRow w v2 ys) (h1 : ∀ u ∈ ys, u.oneCell' = true) (hn : ys.length ≤ 1099511627776) (hB : B ≤ w.heap.size)
    (h : ∀ v' w', w'.ownsRow B e 1 v' ys.length ys → Below w.heap.size w w' → wpList Try.prog ops Q rest (a.put o.dst v') w') : wpList Try.prog ops Q (o :: rest) a w :=
  wpList_plain hgd fun _ hK => wp_append_emptyK E s x ho B g hs hown v2 ys hx hsrc h1 hn hB fun v' w' h1 h2 => hK _ _ (h v' w' h1 h2)
end
/-- append(out, u) where u lies in a block of its own, inside a region. -/
theorem wp_append_rowG {w : World} {ops : Array Oper} {rest : List Oper} {o : Oper} {a : Act} {Q : Exit → Act → World → Prop} (hgd : o.guard = none) (s x : Operand)
    (ho : o.op = .call { callee := .builtin .append, args := #[s, x], argTypes := #[42, 42] }) (lo mid g : Nat) (v : Value) (m : List (List Int)) (hs : a.eval s = v) (hown : SegM w lo mid v m)
    (u : Value) (r : List Int) (hu : OwnI w mid u r) (hx : a.eval x = .slice (some ⟨g, 0, none⟩) 1 1) (hg : w.heap[g]? = some (.cells #[u] 22 (0, 0))) (hn : m.length + 1 ≤ 1099511627776) (hlo : lo ≤ mid) (hmid : mid ≤ w.heap.size)
    (h : ∀ v' w', OwnM w' lo v' (m ++ [r]) → Below lo w w' → w.grownBy w' v.ownBlock → wpList Try.prog ops Q rest (a.put o.dst v') w') : wpList Try.prog ops Q (o :: rest) a w := by
  obtain ⟨ps, h1, h2, h3, h4⟩ := hown
  have h5 : RowsOwn w lo w.heap.size (ps ++ [(u, r)]) := h4.append (RowsOwn.one (SegI.of hu)) hlo hmid
  refine wpList_plain hgd fun _ hK => wp_append_oneK rowT s x ho lo v m.length (ps.map Prod.fst) hs h2 g u hx hg (by
    obtain ⟨A, c, e, -⟩ := IRow.open hu.row
    rw [e]; rfl) hn (by omega) fun v' w' hown' hgr hb => hK _ _ (h v' w' ⟨ps ++ [(u, r)], by simp [h1], by
      rw [List.map_append, List.length_append]; exact hown', (fun g hg => (hown'.lt g hg).2), (rows_grown h5 h2 hgr).wide (Nat.le_refl _) hgr.size⟩ hb hgr)
theorem copyRows_i (v : Value) (m : List (List Int)) (w : World) (hv : MRow w v m) (hl : m.length + total m ≤ 1099511627775) : Calls Try.prog 140 #[v] w (fun e w' => ∃ A c, e = .returned (.slice A m.length c) ∧ OwnM w' w.heap.size (.slice A m.length c) m ∧ Below w.heap.size w w') := by
  obtain ⟨A, c, rfl, -, -, -, hA⟩ := MRow.open hv
  clear hv
  have HhA := Lib.hid hA; clear hA
  go_enter Try.func140, Try.ntmps140
  go_wp2_with fail
  go_loopw [3, 8] (fun v i wr => ∃ (k : Nat) (D : List (List Int)), i = .int .i64 k ∧ k ≤ m.length ∧ D = m.take k ∧ OwnM wr w.heap.size v D ∧ Below w.heap.size w wr) (fun _ i _ => m.length - (intOf i).toNat)
  case atStart => exact ⟨0, [], rfl, Nat.zero_le _, rfl, OwnM.nil _ _, Below.refl _ _⟩
  case round =>
    obtain ⟨k, D, rfl, hk, hD, hown, hb⟩ := hrel
    by_cases hlt : k < m.length
    · have g0 : (k : Int) < (m.length : Int) := by omega
      obtain ⟨b, off, rfl, h1⟩ := HhA.out k hlt
      obtain ⟨A1, q1, c1, r1⟩ := h1 k hlt
      replace r1 := r1.below hb
      replace c1 := cellB hb c1
      clear h1
      have hml : m[k].length ≤ 1099511627776 := by have := total_mem (List.getElem_mem hlt); omega
      have hn : D ++ [m[k]] = m.take (k + 1) := by rw [hD, ← List.take_succ_eq_append_getElem hlt]
      have hDl : D.length = k := by rw [hD]; simp; omega
      generalize m[k] = r at *
      have Hr1 := Lib.hid r1; clear r1; have Hhn := Lib.hid hn; clear hn; have HhD := Lib.hid hD; clear hD
      go_wp2_with (first
        | (go_at_call 133; ((with_reducible refine (copyInts_i _ r hml _ Hr1.out).mono ?_); rintro e w1 ⟨A2, q2, rfl, own1, hb1⟩; (have hown1 := SegM.below hown hb1; have hs1 := hb.size; have hs2 := hb1.size)))
        | (at_builtin; go_must (refine wp_append_rowM rfl _ _ rfl w.heap.size _ _ D rfl hown1 _ r own1 rfl (by omega) hs1 hs2 ?_; intro v2 w2 hown2 hb2 hgr2)))
      go_roundw
      case rel => exact ⟨k + 1, _, by go_num, by omega, Hhn.out, hown2, (hb.trans (hb1.mono hb.size)).trans hb2⟩
      case measure => simp [intOf] <;> omega
    · obtain rfl : k = m.length := by omega
      have g0 : ¬ (m.length : Int) < (m.length : Int) := by omega
      rw [List.take_length] at hD
      subst hD
      obtain ⟨A2, q2, e2⟩ := MRow.opened hown.row
      subst e2
      have Hhown := Lib.hid hown; clear hown
      go_wp2_with fail
      go_ret
      exact ⟨_, _, rfl, Hhown.out, hb⟩
theorem copyRelation_i (v : Value) (ar : Int) (m : List (List Int)) (w : World) (hv : MRow w v m) (hl : m.length + total m ≤ 1099511627775) : Calls Try.prog 116 #[.agg #[.int .i64 ar, v]] w (RetM ar m w) := by
  have y0 := heapN (heap_alloc_new w (.cells #[.int .i64 ar, v] 44)) (.cells #[.int .i64 0, .slice none 0 0] 44)
  have y1 := heap_new1 w (.cells #[.int .i64 ar, v] 44) (.cells #[.int .i64 0, .slice none 0 0] 44)
  have hB : Below w.heap.size w ((w.alloc (.cells #[.int .i64 ar, v] 44)).alloc (.cells #[.int .i64 0, .slice none 0 0] 44)) := ((Below.refl _ _).alloc (Nat.le_refl _) _).alloc (by simp) _
  replace hv := hv.below hB
  have hsz : ((w.alloc (.cells #[.int .i64 ar, v] 44)).alloc (.cells #[.int .i64 0, .slice none 0 0] 44)).heap.size = w.heap.size + 2 := by simp
  obtain ⟨A, c, rfl⟩ := MRow.opened hv
  have Hhv := Lib.hid hv; clear hv; have Hhsz := Lib.hid hsz; clear hsz
  go_enter Try.func116, Try.ntmps116
  go_wp2_with fail
  generalize ((w.alloc (.cells #[.int .i64 ar, .slice A m.length c] 44)).alloc (.cells #[.int .i64 0, .slice none 0 0] 44)) = w0 at *
  refine wp_region_flow 6 [] [[], [0], [], [2], [3], [1, 4]] [Fact.is (.pointer (some ⟨w.heap.size, 0, none⟩)), Fact.is (.int .i64 ar), Fact.is (.pointer (some ⟨w.heap.size, 1, none⟩)), Fact.is (.slice A m.length c), Fact.mat w0.heap.size m, Fact.rel w0.heap.size ar m] (by kernel_rfl) (by kernel_rfl) (by intro c d v a w h; cases d <;> exact h) (And.intro ?op0_1 (And.intro ?op1_1 (And.intro ?op2_1 (And.intro ?op3_1 (And.intro ?op4_1 (And.intro ?op5_1 trivial)))))) ?fin_1
  case op0_1 => (change flowStep _ _ _ _ _ _ _ _; intro wf vs hbf hf; have t0 := cellAt (blockB hbf y0) 0; have t1 := cellAt (blockB hbf y0) 1; obtain ⟨-⟩ := hf; show wpList _ _ _ _ ⟨_, _⟩ _; go_wp2_with (first | (go_at_call 140; ((with_reducible refine (copyRows_i _ m _ (Hhv.out.below hbf) hl).mono ?_); rintro e w9 ⟨A9, c9, rfl, own, hb1⟩; (replace own := ownM_mono own hbf.size)))); first | exact ⟨rfl, rfl, ⟨_, _, rfl, rfl, rfl⟩, by first | with_reducible exact Below.refl _ _ | assumption | with_reducible exact (Below.refl _ _).drew | with_reducible exact (Below.refl _ _).alloc (Nat.le_refl _) _⟩ | exact ⟨rfl, rfl, ⟨_, _, rfl, rfl, (by show _ = _; rfl)⟩, by first | with_reducible exact Below.refl _ _ | assumption | with_reducible exact (Below.refl _ _).drew | with_reducible exact (Below.refl _ _).alloc (Nat.le_refl _) _⟩ | exact ⟨rfl, rfl, ⟨_, _, rfl, rfl, ⟨_, rfl, Below.size (by assumption), heap_alloc_new _ _⟩⟩, (Below.refl _ _).alloc (Nat.le_refl _) _⟩ | exact ⟨rfl, rfl, ⟨_, _, rfl, rfl, ⟨_, rfl, World.ownsRow_lit _ _ _ (Below.size (by assumption)) (by decide) rfl⟩⟩, (Below.refl _ _).alloc (Nat.le_refl _) _⟩ | exact ⟨rfl, rfl, ⟨_, _, rfl, rfl, ⟨_, _, rfl, by assumption⟩⟩, by first | with_reducible exact Below.refl _ _ | assumption⟩ | exact ⟨rfl, rfl, ⟨_, _, rfl, rfl, ⟨_, _, _, rfl, heap_alloc_new _ _, own_below (by assumption) ((Below.refl _ _).alloc (Nat.le_refl _) _)⟩⟩, (Below.refl _ _).alloc (Nat.le_refl _) _⟩)
  case op1_1 => (change flowStep _ _ _ _ _ _ _ _; intro wf vs hbf hf; have t0 := cellAt (blockB hbf y0) 0; have t1 := cellAt (blockB hbf y0) 1; obtain ⟨e0, -⟩ := hf; replace e0 : vs 0 = .pointer (some ⟨w.heap.size, 0, none⟩) := e0; show wpList _ _ _ _ (Act.put _ (some 3) (vs 0)) _; rw [e0]; go_wp2_with (first | (go_at_call 140; ((with_reducible refine (copyRows_i _ m _ (Hhv.out.below hbf) hl).mono ?_); rintro e w9 ⟨A9, c9, rfl, own, hb1⟩; (replace own := ownM_mono own hbf.size)))); first | exact ⟨rfl, rfl, ⟨_, _, rfl, rfl, rfl⟩, by first | with_reducible exact Below.refl _ _ | assumption | with_reducible exact (Below.refl _ _).drew | with_reducible exact (Below.refl _ _).alloc (Nat.le_refl _) _⟩ | exact ⟨rfl, rfl, ⟨_, _, rfl, rfl, (by show _ = _; rfl)⟩, by first | with_reducible exact Below.refl _ _ | assumption | with_reducible exact (Below.refl _ _).drew | with_reducible exact (Below.refl _ _).alloc (Nat.le_refl _) _⟩ | exact ⟨rfl, rfl, ⟨_, _, rfl, rfl, ⟨_, rfl, Below.size (by assumption), heap_alloc_new _ _⟩⟩, (Below.refl _ _).alloc (Nat.le_refl _) _⟩ | exact ⟨rfl, rfl, ⟨_, _, rfl, rfl, ⟨_, rfl, World.ownsRow_lit _ _ _ (Below.size (by assumption)) (by decide) rfl⟩⟩, (Below.refl _ _).alloc (Nat.le_refl _) _⟩ | exact ⟨rfl, rfl, ⟨_, _, rfl, rfl, ⟨_, _, rfl, by assumption⟩⟩, by first | with_reducible exact Below.refl _ _ | assumption⟩ | exact ⟨rfl, rfl, ⟨_, _, rfl, rfl, ⟨_, _, _, rfl, heap_alloc_new _ _, own_below (by assumption) ((Below.refl _ _).alloc (Nat.le_refl _) _)⟩⟩, (Below.refl _ _).alloc (Nat.le_refl _) _⟩)
  case op2_1 => (change flowStep _ _ _ _ _ _ _ _; intro wf vs hbf hf; have t0 := cellAt (blockB hbf y0) 0; have t1 := cellAt (blockB hbf y0) 1; obtain ⟨-⟩ := hf; show wpList _ _ _ _ ⟨_, _⟩ _; go_wp2_with (first | (go_at_call 140; ((with_reducible refine (copyRows_i _ m _ (Hhv.out.below hbf) hl).mono ?_); rintro e w9 ⟨A9, c9, rfl, own, hb1⟩; (replace own := ownM_mono own hbf.size)))); first | exact ⟨rfl, rfl, ⟨_, _, rfl, rfl, rfl⟩, by first | with_reducible exact Below.refl _ _ | assumption | with_reducible exact (Below.refl _ _).drew | with_reducible exact (Below.refl _ _).alloc (Nat.le_refl _) _⟩ | exact ⟨rfl, rfl, ⟨_, _, rfl, rfl, (by show _ = _; rfl)⟩, by first | with_reducible exact Below.refl _ _ | assumption | with_reducible exact (Below.refl _ _).drew | with_reducible exact (Below.refl _ _).alloc (Nat.le_refl _) _⟩ | exact ⟨rfl, rfl, ⟨_, _, rfl, rfl, ⟨_, rfl, Below.size (by assumption), heap_alloc_new _ _⟩⟩, (Below.refl _ _).alloc (Nat.le_refl _) _⟩ | exact ⟨rfl, rfl, ⟨_, _, rfl, rfl, ⟨_, rfl, World.ownsRow_lit _ _ _ (Below.size (by assumption)) (by decide) rfl⟩⟩, (Below.refl _ _).alloc (Nat.le_refl _) _⟩ | exact ⟨rfl, rfl, ⟨_, _, rfl, rfl, ⟨_, _, rfl, by assumption⟩⟩, by first | with_reducible exact Below.refl _ _ | assumption⟩ | exact ⟨rfl, rfl, ⟨_, _, rfl, rfl, ⟨_, _, _, rfl, heap_alloc_new _ _, own_below (by assumption) ((Below.refl _ _).alloc (Nat.le_refl _) _)⟩⟩, (Below.refl _ _).alloc (Nat.le_refl _) _⟩)
  case op3_1 => (change flowStep _ _ _ _ _ _ _ _; intro wf vs hbf hf; have t0 := cellAt (blockB hbf y0) 0; have t1 := cellAt (blockB hbf y0) 1; obtain ⟨e2, -⟩ := hf; replace e2 : vs 2 = .pointer (some ⟨w.heap.size, 1, none⟩) := e2; show wpList _ _ _ _ (Act.put _ (some 5) (vs 2)) _; rw [e2]; go_wp2_with (first | (go_at_call 140; ((with_reducible refine (copyRows_i _ m _ (Hhv.out.below hbf) hl).mono ?_); rintro e w9 ⟨A9, c9, rfl, own, hb1⟩; (replace own := ownM_mono own hbf.size)))); first | exact ⟨rfl, rfl, ⟨_, _, rfl, rfl, rfl⟩, by first | with_reducible exact Below.refl _ _ | assumption | with_reducible exact (Below.refl _ _).drew | with_reducible exact (Below.refl _ _).alloc (Nat.le_refl _) _⟩ | exact ⟨rfl, rfl, ⟨_, _, rfl, rfl, (by show _ = _; rfl)⟩, by first | with_reducible exact Below.refl _ _ | assumption | with_reducible exact (Below.refl _ _).drew | with_reducible exact (Below.refl _ _).alloc (Nat.le_refl _) _⟩ | exact ⟨rfl, rfl, ⟨_, _, rfl, rfl, ⟨_, rfl, Below.size (by assumption), heap_alloc_new _ _⟩⟩, (Below.refl _ _).alloc (Nat.le_refl _) _⟩ | exact ⟨rfl, rfl, ⟨_, _, rfl, rfl, ⟨_, rfl, World.ownsRow_lit _ _ _ (Below.size (by assumption)) (by decide) rfl⟩⟩, (Below.refl _ _).alloc (Nat.le_refl _) _⟩ | exact ⟨rfl, rfl, ⟨_, _, rfl, rfl, ⟨_, _, rfl, by assumption⟩⟩, by first | with_reducible exact Below.refl _ _ | assumption⟩ | exact ⟨rfl, rfl, ⟨_, _, rfl, rfl, ⟨_, _, _, rfl, heap_alloc_new _ _, own_below (by assumption) ((Below.refl _ _).alloc (Nat.le_refl _) _)⟩⟩, (Below.refl _ _).alloc (Nat.le_refl _) _⟩)
  case op4_1 => (change flowStep _ _ _ _ _ _ _ _; intro wf vs hbf hf; have t0 := cellAt (blockB hbf y0) 0; have t1 := cellAt (blockB hbf y0) 1; obtain ⟨e3, -⟩ := hf; replace e3 : vs 3 = .slice A m.length c := e3; show wpList _ _ _ _ (Act.put _ (some 6) (vs 3)) _; rw [e3]; go_wp2_with (first | (go_at_call 140; ((with_reducible refine (copyRows_i _ m _ (Hhv.out.below hbf) hl).mono ?_); rintro e w9 ⟨A9, c9, rfl, own, hb1⟩; (replace own := ownM_mono own hbf.size)))); first | exact ⟨rfl, rfl, ⟨_, _, rfl, rfl, rfl⟩, by first | with_reducible exact Below.refl _ _ | assumption | with_reducible exact (Below.refl _ _).drew | with_reducible exact (Below.refl _ _).alloc (Nat.le_refl _) _⟩ | exact ⟨rfl, rfl, ⟨_, _, rfl, rfl, (by show _ = _; rfl)⟩, by first | with_reducible exact Below.refl _ _ | assumption | with_reducible exact (Below.refl _ _).drew | with_reducible exact (Below.refl _ _).alloc (Nat.le_refl _) _⟩ | exact ⟨rfl, rfl, ⟨_, _, rfl, rfl, ⟨_, rfl, Below.size (by assumption), heap_alloc_new _ _⟩⟩, (Below.refl _ _).alloc (Nat.le_refl _) _⟩ | exact ⟨rfl, rfl, ⟨_, _, rfl, rfl, ⟨_, rfl, World.ownsRow_lit _ _ _ (Below.size (by assumption)) (by decide) rfl⟩⟩, (Below.refl _ _).alloc (Nat.le_refl _) _⟩ | exact ⟨rfl, rfl, ⟨_, _, rfl, rfl, ⟨_, _, rfl, by assumption⟩⟩, by first | with_reducible exact Below.refl _ _ | assumption⟩ | exact ⟨rfl, rfl, ⟨_, _, rfl, rfl, ⟨_, _, _, rfl, heap_alloc_new _ _, own_below (by assumption) ((Below.refl _ _).alloc (Nat.le_refl _) _)⟩⟩, (Below.refl _ _).alloc (Nat.le_refl _) _⟩)
  case op5_1 => (change flowStep _ _ _ _ _ _ _ _; intro wf vs hbf hf; have t0 := cellAt (blockB hbf y0) 0; have t1 := cellAt (blockB hbf y0) 1; obtain ⟨e1, ⟨A4, c4, e4, o4⟩, -⟩ := hf; replace e1 : vs 1 = .int .i64 ar := e1; show wpList _ _ _ _ (Act.put (Act.put _ (some 4) (vs 1)) (some 7) (vs 4)) _; rw [e1, e4]; go_wp2_with (first | (go_at_call 140; ((with_reducible refine (copyRows_i _ m _ (Hhv.out.below hbf) hl).mono ?_); rintro e w9 ⟨A9, c9, rfl, own, hb1⟩; (replace own := ownM_mono own hbf.size)))); first | exact ⟨rfl, rfl, ⟨_, _, rfl, rfl, rfl⟩, by first | with_reducible exact Below.refl _ _ | assumption | with_reducible exact (Below.refl _ _).drew | with_reducible exact (Below.refl _ _).alloc (Nat.le_refl _) _⟩ | exact ⟨rfl, rfl, ⟨_, _, rfl, rfl, (by show _ = _; rfl)⟩, by first | with_reducible exact Below.refl _ _ | assumption | with_reducible exact (Below.refl _ _).drew | with_reducible exact (Below.refl _ _).alloc (Nat.le_refl _) _⟩ | exact ⟨rfl, rfl, ⟨_, _, rfl, rfl, ⟨_, rfl, Below.size (by assumption), heap_alloc_new _ _⟩⟩, (Below.refl _ _).alloc (Nat.le_refl _) _⟩ | exact ⟨rfl, rfl, ⟨_, _, rfl, rfl, ⟨_, rfl, World.ownsRow_lit _ _ _ (Below.size (by assumption)) (by decide) rfl⟩⟩, (Below.refl _ _).alloc (Nat.le_refl _) _⟩ | exact ⟨rfl, rfl, ⟨_, _, rfl, rfl, ⟨_, _, rfl, by assumption⟩⟩, by first | with_reducible exact Below.refl _ _ | assumption⟩ | exact ⟨rfl, rfl, ⟨_, _, rfl, rfl, ⟨_, _, _, rfl, heap_alloc_new _ _, own_below (by assumption) ((Below.refl _ _).alloc (Nat.le_refl _) _)⟩⟩, (Below.refl _ _).alloc (Nat.le_refl _) _⟩)
  intro wf vs hbf hf; obtain ⟨e0, e1, e2, e3, ⟨A4, c4, e4, o4⟩, ⟨A5, c5, e5, o5⟩, -⟩ := hf; replace e0 : vs 0 = .pointer (some ⟨w.heap.size, 0, none⟩) := e0; replace e1 : vs 1 = .int .i64 ar := e1; replace e2 : vs 2 = .pointer (some ⟨w.heap.size, 1, none⟩) := e2; replace e3 : vs 3 = .slice A m.length c := e3; show wpList _ _ _ _ (Act.put (Act.put (Act.put (Act.put (Act.put (Act.put _ (some 3) (vs 0)) (some 4) (vs 1)) (some 5) (vs 2)) (some 6) (vs 3)) (some 7) (vs 4)) (some 8) (vs 5)) _; rw [e0, e1, e2, e3, e4, e5]; simp only [Act.put, List.setIfInBounds_toArray, List.set_cons_succ, List.set_cons_zero, List.drop_succ_cons, List.drop_zero]
  replace y1 := blockB hbf y1
  refine wp_store_new1 rfl 44 (.tmp 2) (.tmp 8) rfl (w.heap.size + 1) #[.int .i64 ar, .slice A5 m.length c5] rfl rfl 44 _ y1 (by kernel_rfl) rfl (by simp [Value.oneCell']) ?_
  intro w2 y2 hw hs
  refine wpList_nil ?_
  go_wp2_with fail
  have hbs := hbf.size
  have hsz := Hhsz.out
  refine bodyPost_ret (res_rel rfl rfl y2) rfl ⟨_, _, rfl, (SegM.store o5 y1 (by decide) (by decide) hw).wide (by omega) (by omega), ?_⟩
  exact (hB.trans (hbf.mono hB.size)).trans (hw.below (by omega) (by omega))
theorem step_append_empty {t e : TypeId} {z : Value} {bytes : Nat} (E : ElemT t e z bytes) {w : World} {ops : Array Oper} {o : Oper} {a : Act} {K : Act → World → Prop} {Q : Exit → Act → World → Prop} {F : Prop} (hgd : o.guard = none) (s x : Operand)
    (ho : o.op = .call { callee := .builtin .append, args := #[s, x], argTypes := #[t, t] }) (B g : Nat) (hs : a.eval s = .slice (some ⟨g, 0, none⟩) 0 0) (hown : w.ownsRow B e 1 (.slice (some ⟨g, 0, none⟩) 0 0) 0 [])
    (v2 : Value) (ys : List Value) (hx : a.eval x = v2) (hsrc : VRow w v2 ys) (h1 : ∀ u ∈ ys, u.oneCell' = true) (hn : ys.length ≤ 1099511627776) (hB : B ≤ w.heap.size)
    (h : ∀ v' w', w'.ownsRow B e 1 v' ys.length ys → Below w.heap.size w w' → K (a.put o.dst v') w') : if Region.wanted o (yielded ops a.tmps) = true then Oper.wp Try.prog o a w K Q else F := by
  rw [if_pos (by simp [Region.wanted, hgd])]
  exact wp_append_emptyK E s x ho B g hs hown v2 ys hx hsrc h1 hn hB h
theorem step_append_rowM {w : World} {ops : Array Oper} {o : Oper} {a : Act} {K : Act → World → Prop} {Q : Exit → Act → World → Prop} {F : Prop} (hgd : o.guard = none) (s x : Operand)
    (ho : o.op = .call { callee := .builtin .append, args := #[s, x], argTypes := #[42, 42] }) (lo mid : Nat) (v : Value) (m : List (List Int)) (hs : a.eval s = v) (hown : SegM w lo mid v m)
    (u : Value) (r : List Int) (hu : OwnI w mid u r) (hx : a.eval x = .slice (some ⟨w.heap.size, 0, none⟩) 1 1) (hn : m.length + 1 ≤ 1099511627776) (hlo : lo ≤ mid) (hmid : mid ≤ w.heap.size)
    (h : ∀ v' w', OwnM w' lo v' (m ++ [r]) → Below lo w w' → w.grownBy w' v.ownBlock → K (a.put o.dst v') w') : if Region.wanted o (yielded ops a.tmps) = true then Oper.wp Try.prog o a (w.alloc (.cells #[u] 22)) K Q else F := by
  rw [if_pos (by simp [Region.wanted, hgd])]
  have hown' := SegM.alloc hown (.cells #[u] 22)
  obtain ⟨ps, h1, h2, h3, h4⟩ := hown'
  have hu' : OwnI (w.alloc (.cells #[u] 22)) mid u r := World.ownsRow.alloc hu _
  have h5 : RowsOwn (w.alloc (.cells #[u] 22)) lo (w.alloc (.cells #[u] 22)).heap.size (ps ++ [(u, r)]) := h4.append (RowsOwn.one (SegI.of hu')) hlo (by simp; omega)
  have hba : Below lo w (w.alloc (.cells #[u] 22)) := (Below.refl _ _).alloc (by omega) _
  refine wp_append_oneK rowT s x ho lo v m.length (ps.map Prod.fst) hs h2 w.heap.size u hx (heap_alloc_new w _) (by
    obtain ⟨A, c, e, -⟩ := IRow.open hu.row
    rw [e]; rfl) hn (by simp; omega) fun v' w' hown' hgr hb => h v' w' ⟨ps ++ [(u, r)], by simp [h1], by
      rw [List.map_append, List.length_append]; exact hown', (fun g hg => (hown'.lt g hg).2), (rows_grown h5 h2 hgr).wide (Nat.le_refl _) hgr.size⟩ (hba.trans hb) (grown_trans (World.grownBy_alloc w _ _) hgr)
/-- A row laid alone into a block. -/
def Fact.lit1 (B : Nat) (r : List Int) : Fact :=
  ⟨fun v w => ∃ g A c, v = .slice (some ⟨g, 0, none⟩) 1 1 ∧ w.heap[g]? = some (.cells #[.slice A r.length c] 22 (0, 0)) ∧ OwnI w B (.slice A r.length c) r, fun _ _ _ ⟨g, A, c, h1, h2, h3⟩ hb => ⟨g, A, c, h1, blockB hb h2, own_below h3 hb⟩⟩
theorem l5Copy_s (v : Value) (ar : Int) (m : List (List Int)) (w : World) (hv : MRow w v m) (hl : m.length + total m ≤ 1099511627775) : Calls Try.prog 120 #[.agg #[.int .i64 ar, v]] w (RetM ar m w) := by
  have y0 := heapN (heapN (heap_alloc_new w (.cells #[.int .i64 ar, v] 44)) (.cells #[.int .i64 0, .slice none 0 0] 44)) (.cells #[.int .i64 ar, .slice none 0 0] 44)
  have y1 := heapN (heap_new1 w (.cells #[.int .i64 ar, v] 44) (.cells #[.int .i64 0, .slice none 0 0] 44)) (.cells #[.int .i64 ar, .slice none 0 0] 44)
  have y2 := heap_new2 w (.cells #[.int .i64 ar, v] 44) (.cells #[.int .i64 0, .slice none 0 0] 44) (.cells #[.int .i64 ar, .slice none 0 0] 44)
  have hB : Below w.heap.size w (((w.alloc (.cells #[.int .i64 ar, v] 44)).alloc (.cells #[.int .i64 0, .slice none 0 0] 44)).alloc (.cells #[.int .i64 ar, .slice none 0 0] 44)) := (((Below.refl _ _).alloc (Nat.le_refl _) _).alloc (by simp) _).alloc (by simp; omega) _
  obtain ⟨A, c, rfl, -, -, -, hA⟩ := MRow.open hv
  clear hv
  have HhA := Lib.hid hA; clear hA; have Hy0 := Lib.hid y0; clear y0; have Hy1 := Lib.hid y1; clear y1; have Hy2 := Lib.hid y2; clear y2; have HhB := Lib.hid hB; clear hB
  go_enter Try.func120, Try.ntmps120
  go_wp2_with fail
  generalize (((w.alloc (.cells #[.int .i64 ar, .slice A m.length c] 44)).alloc (.cells #[.int .i64 0, .slice none 0 0] 44)).alloc (.cells #[.int .i64 ar, .slice none 0 0] 44)) = w0 at *
  go_loopw [4] (fun i wr => ∃ (k : Nat) (D : List (List Int)) (A' : Option Addr) (q' : Nat), i = .int .i64 k ∧ k ≤ m.length ∧ D = m.take k ∧ wr.heap[w.heap.size]? = some (.cells #[.int .i64 ar, .slice A m.length c] 44 (0, 0)) ∧ wr.heap[w.heap.size + 1]? = some (.cells #[.int .i64 0, .slice none 0 0] 44 (0, 0)) ∧
    wr.heap[w.heap.size + 2]? = some (.cells #[.int .i64 ar, .slice A' D.length q'] 44 (0, 0)) ∧ OwnM wr (w.heap.size + 3) (.slice A' D.length q') D ∧ Below w.heap.size w wr) (fun i _ => m.length - (intOf i).toNat)
  case atStart => exact ⟨0, [], none, 0, rfl, Nat.zero_le _, rfl, Hy0.out, Hy1.out, Hy2.out, OwnM.nil _ _, HhB.out⟩
  case round =>
    obtain ⟨k, D, A', q', rfl, hk, hD, y0, y1, y2, hown, hb⟩ := hrel
    have hl2 := lt_of_heap y2
    have t1 := cellAt y0 1
    by_cases hlt : k < m.length
    · have g0 : (k : Int) < (m.length : Int) := by omega
      obtain ⟨b, off, rfl, h1⟩ := HhA.out k hlt
      obtain ⟨A1, q1, c1, r1⟩ := h1 k hlt
      replace r1 := r1.below hb
      replace c1 := cellB hb c1
      clear h1
      have hml : m[k].length ≤ 1099511627776 := by have := total_mem (List.getElem_mem hlt); omega
      have hn : D ++ [m[k]] = m.take (k + 1) := by rw [hD, ← List.take_succ_eq_append_getElem hlt]
      have hDl : D.length = k := by rw [hD]; simp; omega
      generalize m[k] = r at *
      have Hl2 := Lib.hid hl2
      clear hl2
      have Hr1 := Lib.hid r1; clear r1; have Hhn := Lib.hid hn; clear hn; have HhD := Lib.hid hD; clear hD; have HhDl := Lib.hid hDl; clear hDl; have Hy0 := Lib.hid y0; clear y0; have Hy1 := Lib.hid y1; clear y1; have Hy2 := Lib.hid y2; clear y2; have Hhown := Lib.hid hown; clear hown
      go_wp2_with fail
      have hl2 := Hl2.out
      have hdb : Below wr.heap.size wr (wr.alloc (.cells #[] 3)).drew := ((Below.refl _ _).alloc (Nat.le_refl _) _).drew
      have y0d := blockB hdb Hy0.out
      have y1d := blockB hdb Hy1.out
      have y2d := blockB hdb Hy2.out
      have t0d := cellAt Hy0.out 1
      have u1d := cellAt Hy2.out 1
      have t0a := fun o => cellAt (heapN Hy0.out o) 1
      have u1a := fun o => cellAt (heapN Hy2.out o) 1
      have c1a := fun o => cellN c1 o
      have rd := Hr1.out.below hdb
      have hl0 : (wr.alloc (.cells #[] 3)).drew.ownsRow wr.heap.size 3 1 (.slice (some ⟨wr.heap.size, 0, none⟩) 0 0) 0 [] := own_below (lit_nil wr 3 (Nat.le_refl wr.heap.size)) ((Below.refl _ _).drew)
      have hbd : Below w.heap.size w (wr.alloc (.cells #[] 3)).drew := hb.trans (hdb.mono hb.size)
      have hownd := SegM.below Hhown.out hdb
      have hnl : D.length + 1 ≤ 1099511627776 := by have := HhDl.out; omega
      go_region_law (first
        | (refine step_append_empty intT rfl (.tmp 17) (.tmp 22) rfl wr.heap.size wr.heap.size ?_ hl0 _ (r.map intV) ?_ rd (int_one r) (by simp; omega) hdb.size ?_; (first | rfl | (simp [Act.eval, Act.put])); (first | rfl | (simp [Act.eval, Act.put])); intro v9 w9 own hb1; rw [List.length_map] at own; obtain ⟨A9, c9, e9, -⟩ := IRow.open (OwnI.row own); subst e9; have hs9 := Nat.le_trans hdb.size hb1.size; have y0e := blockB hb1 y0d; have y1e := blockB hb1 y1d; have y2e := blockB hb1 y2d; have u1e := cellAt y2e 1; have u1f := (fun o => cellAt (heapN y2e o) 1); have hb9 := hbd.trans (hb1.mono hbd.size); have hown9 := SegM.below hownd hb1)
        | (refine step_append_rowM rfl (.tmp 16) (.tmp 24) rfl (w.heap.size + 3) wr.heap.size _ D ?_ hown9 _ r own ?_ (by omega) (by omega) (by omega) ?_; (first | rfl | (simp [Act.eval, Act.put])); (first | rfl | (simp [Act.eval, Act.put])); intro v2 w3 hown3 hb3 hgr3; obtain ⟨A3, q3, e3⟩ := MRow.opened (SegM.row hown3); subst e3; have y0g := blockL hb3 (by omega) y0e; have y1g := blockL hb3 (by omega) y1e; have y2g := blockL hb3 (by omega) y2e; have u1g := cellAt y2g 1; have f1g := frozen0 (j := 1) y2g; have hb10 := hb9.trans (hb3.mono (by omega))))
      all_goals
        have hlt3 : w.heap.size + 1 + 1 < w3.heap.size := lt_of_heap y2g
        go_wp2_with fail
        go_roundw
        case rel => exact ⟨k + 1, D ++ [r], A3, q3, by go_num, by omega, Hhn.out, setO (by omega) y0g _, setO (by omega) y1g _, (by rw [show (D ++ [r]).length = D.length + 1 by simp]; exact set1 y2g _), (SegM.setO hown3 y2g (by decide) (by decide) _).wide (Nat.le_refl _) (by simp [World.setCell]), hb10.setCell (p := ⟨w.heap.size + 1 + 1, 1, none⟩) (by show w.heap.size ≤ w.heap.size + 1 + 1; omega) _⟩
        case measure => simp [intOf] <;> omega
    · obtain rfl : k = m.length := by omega
      have g0 : ¬ (m.length : Int) < (m.length : Int) := by omega
      rw [List.take_length] at hD
      subst hD
      have t2 := cellAt y2 0
      have t3 := cellAt y2 1
      have u0 := cellAt y1 0
      have u1 := cellAt y1 1
      have f0 := frozen0 (j := 0) y1
      have f1 := frozen0 (j := 1) y1
      have Hhown := Lib.hid hown; clear hown
      go_wp2_with fail
      have z1 := set0 y1 (.int .i64 ar)
      have h1 := SegM.setO (j := 0) Hhown.out y1 (by decide) (by decide) (.int .i64 ar)
      have h2 := SegM.setO (j := 1) h1 z1 (by decide) (by decide) (.slice A' D.length q')
      refine bodyPost_ret (res_rel rfl rfl (set1 z1 _)) rfl ⟨_, _, rfl, h2.wide (by omega) (by simp [World.setCell]), ?_⟩
      exact (hb.setCell (p := ⟨w.heap.size + 1, 0, none⟩) (Nat.le_succ _) _).setCell (p := ⟨w.heap.size + 1, 1, none⟩) (Nat.le_succ _) _
end Go.Proofs.Ytbajnecahojcfaa
