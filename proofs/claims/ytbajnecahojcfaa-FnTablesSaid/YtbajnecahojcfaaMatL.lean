/- What the laws do with slices of rows: copied, measured, compared, marked, held. -/
import Derived.Test.YtbajnecahojcfaaMat
import Derived.Test.YtbajnecahojcfaaRelP
import Derived.Test.YtbajnecahojcfaaIntL
namespace Go.Proofs.Ytbajnecahojcfaa
open Go.RowKit Go.Sort
set_option maxHeartbeats 1000000
set_option maxRecDepth 100000

theorem MRow.opened {w : World} {v : Value} {m : List (List Int)} (h : MRow w v m) : ∃ A c, v = .slice A m.length c := by
  obtain ⟨A, c, e, -⟩ := h.open
  exact ⟨A, c, e⟩
theorem eqMat_law (a b : Value) (m : List (List Int)) (w : World) (ha : MRow w a m) (hb : MRow w b m) : Calls Try.prog 86 #[a, b] w (RetB (.bool true) w) := by
  have n1 := MRow.len ha
  obtain ⟨A, c, rfl, -, -, -, hA⟩ := MRow.open ha
  obtain ⟨A', c', rfl, -, -, -, hC⟩ := MRow.open hb
  clear ha hb
  have HhA := Lib.hid hA; clear hA; have HhC := Lib.hid hC; clear hC
  go_enter Try.func86, Try.ntmps86
  go_wp2_with fail
  go_loopw [5] (fun i wr => ∃ k : Nat, i = .int .i64 k ∧ k ≤ m.length ∧ Below w.heap.size w wr) (fun i _ => m.length - (intOf i).toNat)
  case atStart => exact ⟨0, rfl, Nat.zero_le _, Below.refl _ _⟩
  case round =>
    obtain ⟨k, rfl, hk, hb⟩ := hrel
    by_cases hlt : k < m.length
    · have g0 : (k : Int) < (m.length : Int) := by omega
      obtain ⟨b, off, rfl, h1⟩ := HhA.out k hlt
      obtain ⟨b', off', rfl, h2⟩ := HhC.out k hlt
      obtain ⟨A1, q1, c1, r1⟩ := h1 k hlt
      obtain ⟨A2, q2, c2, r2⟩ := h2 k hlt
      replace r1 := r1.below hb
      replace r2 := r2.below hb
      replace c1 := cell_regrown (cellB hb c1)
      replace c2 := cell_regrown (cellB hb c2)
      clear h1 h2
      generalize m[k] = r at *
      have Hr1 := Lib.hid r1; clear r1; have Hr2 := Lib.hid r2; clear r2
      go_wp2_with fail
      refine wp_region_below (by kernel_rfl) (by kernel_rfl) ?_; (repeat (quiet_step (first | with_reducible exact regB (eqInt_law _ _ _ _ (Hr1.out.below (below_regrown _ _ _)) (Hr2.out.below (below_regrown _ _ _)))))); refine wpQuiet_nil ?_
      intro w2 hb2
      go_wp2_with fail
      go_roundw
      case rel => exact ⟨k + 1, by go_num, by omega, hb.trans (hb2.mono hb.size)⟩
      case measure => simp [intOf] <;> omega
    · obtain rfl : k = m.length := by omega
      have g0 : ¬ (m.length : Int) < (m.length : Int) := by omega
      go_wp2_with fail
      go_ret
      exact ⟨rfl, hb⟩

theorem grown_set1 (w : World) (g j : Nat) (u : Value) : w.grownBy (w.setCell ⟨g, j, none⟩ u) (some g) := ⟨rfl, rfl, rfl, by simp [World.setCell], fun k _ hk => Below.heap_setCell w ⟨g, j, none⟩ u k (fun e => hk (by rw [e]))⟩
/-- make([][]int, n). -/
theorem rowsOwn_nils (w : World) (lo hi n : Nat) : RowsOwn w lo hi (List.replicate n (.slice none 0 0, [])) := by
  refine ⟨fun p hp => ?_, ?_⟩
  · rw [(List.mem_replicate.1 hp).2]
    exact ⟨World.ownsRow_nil _ _ _ _, fun g hg => by cases hg⟩
  · rw [List.pairwise_replicate]
    exact .inr fun g hg => by cases hg
theorem wp_make_rows {w : World} {ops : Array Oper} {rest : List Oper} {o : Oper} {a : Act} {Q : Exit → Act → World → Prop} (hg : o.guard = none) (l c : Operand) (hop : o.op = Op.makeSlice 42 l c)
    (base : Nat) (kl kc : IntKind) (L C : Int) (n : Nat) (hl : a.eval l = .int kl L) (hc : a.eval c = .int kc C) (hL : L = (n : Int)) (hC : C = (n : Int)) (hn : n ≤ 1099511627776) (hb : base ≤ w.heap.size)
    (hK : ∀ w', OwnM w' base (.slice (some ⟨w.heap.size, 0, none⟩) n n) (List.replicate n []) → Below base w w' → wpList Try.prog ops Q rest (a.put o.dst (.slice (some ⟨w.heap.size, 0, none⟩) n n)) w') :
    wpList Try.prog ops Q (o :: rest) a w := by
  obtain ⟨i0, hi, hz0, hz1, hz2⟩ := info_parts rowT.info
  refine wpList_make_full w hg l c 42 hop base 22 i0 (.slice none 0 0) 1 Try.underlying42 hi hz0 hz1 kl kc L C n hl hc hL hC (by rw [hz2]; omega) (by unfold maxLen; omega) hb ?_
  intro w' hown hgr
  refine hK w' ⟨List.replicate n (.slice none 0 0, []), by simp, ?_, fun g hg => (hown.lt g hg).2, rowsOwn_nils _ _ _ _⟩ ((Below.refl base w).grown hgr hb (fun k hk => by cases hk))
  have e : (madeCells (Value.slice none 0 0).cells (n * 1)).toList = (List.replicate n ((Value.slice none 0 0, []) : Value × List Int)).map Prod.fst := by
    rw [Nat.mul_one]
    show (madeCells #[Value.slice none 0 0] n).toList = _
    rw [toList_madeCells_one, List.map_replicate]
  rw [e] at hown
  rw [List.length_replicate]
  exact hown
theorem pairwise_set {α : Type} {R : α → α → Prop} {l : List α} {j : Nat} {x : α} (h : l.Pairwise R) (h1 : ∀ y ∈ l, R y x) (h2 : ∀ y ∈ l, R x y) : (l.set j x).Pairwise R := by
  rw [List.pairwise_iff_getElem] at h ⊢
  intro i k hi hk hik
  rw [List.length_set] at hi hk
  rw [List.getElem_set, List.getElem_set]
  split
  · split
    · omega
    · exact h2 _ (List.getElem_mem hk)
  · split
    · exact h1 _ (List.getElem_mem hi)
    · exact h i k hi hk hik
theorem SegM.open {w : World} {lo hi : Nat} {v : Value} {m : List (List Int)} (h : SegM w lo hi v m) (hp : 0 < m.length) : ∃ g cap, v = .slice (some ⟨g, 0, none⟩) m.length cap ∧ lo ≤ g ∧ g < hi ∧ g < w.heap.size ∧ m.length ≤ cap ∧ cap ≤ 9223372036854775807 := by
  obtain ⟨ps, h1, h2, h3, h4⟩ := h
  obtain ⟨g, cap, e, h5, h6, h7, h8, -⟩ := own_open h2 (by rw [List.length_map, ← List.length_map (f := Prod.snd), h1]; exact hp)
  exact ⟨g, cap, e, h5, h3 g (by rw [e]; rfl), h6, h7, h8⟩
theorem own_len {w : World} {B size n cap k : Nat} {e : TypeId} {a : Addr} {xs : List Value} (h : w.ownsRow B e size (.slice (some a) n cap) k xs) : n = k := by
  rcases h.2 with ⟨h1, _⟩ | ⟨g, c, cur, h1, _⟩
  · cases h1
  · simp only [Value.slice.injEq] at h1; exact h1.2.1
/-- The cell at i of an owned row of rows; what may be stored there, and what a turn of that row leaves. -/
theorem SegM.at {w : World} {lo hi : Nat} {g n cap : Nat} {m : List (List Int)} (h : SegM w lo hi (.slice (some ⟨g, 0, none⟩) n cap) m) (i : Nat) (hi' : i < m.length) :
    ∃ A c, w.cell? ⟨g, i, none⟩ = some (.slice A m[i].length c) ∧ w.frozen? ⟨g, i, none⟩ = false ∧ SegI w lo hi (.slice A m[i].length c) m[i] ∧
      (∀ w' r, r.length = m[i].length → SegI w' lo hi (.slice A m[i].length c) r → w.grownBy w' (Value.slice A m[i].length c).ownBlock → SegM w' lo hi (.slice (some ⟨g, 0, none⟩) n cap) (m.set i r)) := by
  obtain ⟨ps, rfl, h2, h3, h4⟩ := h
  obtain rfl := own_len h2
  simp only [List.length_map] at hi' h2 h3
  have hseg := h4.1 ps[i] (List.getElem_mem hi')
  obtain ⟨A, c, e, -⟩ := IRow.open hseg.row
  have hc := h2.cellAt i (by omega)
  have hx : (ps.map Prod.fst)[i]? = some ps[i].1 := by simp [hi']
  simp only [List.getElem_map]
  refine ⟨A, c, by rw [hc, hx, e], h2.frozenAt i, e ▸ hseg, fun w' r hr hr' hg => ?_⟩
  rw [← e] at hr' hg
  refine ⟨ps.set i (ps[i].1, r), by rw [List.map_set], ?_, ?_, fun p hp => ?_, ?_⟩
  · have : (ps.set i (ps[i].1, r)).map Prod.fst = ps.map Prod.fst := by
      rw [List.map_set]
      apply List.ext_getElem (by simp)
      intro k h5 h6
      rw [List.getElem_set]
      split
      · rename_i hk; subst hk; simp
      · rfl
    rw [this]
    simp only [List.length_map, List.length_set]
    exact own_grown_ne h2 hg fun k h5 h6 => own_ne_block hseg.1 h2 (by decide) h6 h5
  · exact h3
  · rw [List.mem_iff_getElem] at hp
    obtain ⟨k, hk, rfl⟩ := hp
    rw [List.length_set] at hk
    rw [List.getElem_set]
    split
    · exact hr'
    · rename_i hne
      have h5 := h4.1 ps[k] (List.getElem_mem hk)
      refine ⟨own_grown_ne h5.1 hg fun b h6 h7 => ?_, h5.2⟩
      have h8 := List.pairwise_iff_getElem.1 h4.2
      rcases Nat.lt_or_gt_of_ne hne with h9 | h9
      · exact h8 i k hi' hk h9 b h7 h6
      · exact h8 k i hk hi' h9 b h6 h7
  · rw [List.pairwise_iff_getElem]
    intro a b ha hb hab
    rw [List.length_set] at ha hb
    have h8 := List.pairwise_iff_getElem.1 h4.2 a b ha hb hab
    rw [List.getElem_set, List.getElem_set]
    split
    · rename_i ea; subst ea
      split
      · omega
      · exact h8
    · split
      · rename_i eb; subst eb; exact h8
      · exact h8
/-- A row of a newer block laid at i. -/
theorem SegM.set {w : World} {lo mid : Nat} {g n cap : Nat} {m : List (List Int)} (h : SegM w lo mid (.slice (some ⟨g, 0, none⟩) n cap) m) {u : Value} {r : List Int} (hu : OwnI w mid u r) (hlo : lo ≤ mid) (hmid : mid ≤ w.heap.size) (i : Nat) :
    OwnM (w.setCell ⟨g, i, none⟩ u) lo (.slice (some ⟨g, 0, none⟩) n cap) (m.set i r) := by
  obtain ⟨ps, rfl, h2, h3, h4⟩ := h
  obtain rfl := own_len h2
  have hs : (w.setCell ⟨g, i, none⟩ u).heap.size = w.heap.size := by simp [World.setCell]
  have hg := grown_set1 w g i u
  have hu2 : SegI w lo w.heap.size u r := (SegI.of hu).wide hlo (Nat.le_refl _)
  have keep : ∀ {v l}, SegI w lo w.heap.size v l → SegI (w.setCell ⟨g, i, none⟩ u) lo w.heap.size v l := fun {v l} h5 =>
    ⟨own_grown_ne h5.1 hg fun b h6 h7 => own_ne_block h2 h5.1 (by decide) h7 h6, h5.2⟩
  refine ⟨ps.set i (u, r), by rw [List.map_set], ?_, fun b hb => ?_, fun p hp => ?_, pairwise_set h4.2 (fun y hy b h5 h6 => ?_) (fun y hy b h5 h6 => ?_)⟩
  · have := (h2.stored i u).1
    rw [List.length_set]
    rw [List.map_set]
    exact this
  · rw [hs]; exact (h2.lt b hb).2
  · rw [hs]
    rcases List.mem_or_eq_of_mem_set hp with hp | rfl
    · exact keep ((h4.1 p hp).wide (Nat.le_refl _) hmid)
    · exact keep hu2
  · have e1 := (h4.1 y hy).2 b h5
    have e2 := (hu.lt b h6).1
    omega
  · have e1 := (h4.1 y hy).2 b h6
    have e2 := (hu.lt b h5).1
    omega
theorem fillM_step {m : List (List Int)} {k : Nat} (hk : k < m.length) : (m.take k ++ List.replicate (m.length - k) []).set k m[k] = m.take (k + 1) ++ List.replicate (m.length - (k + 1)) [] := by
  rw [List.set_append_right _ _ (by simp; omega), List.length_take, Nat.min_eq_left (by omega), Nat.sub_self, List.take_succ_eq_append_getElem hk, List.append_assoc]
  congr 1
  rw [show m.length - k = (m.length - (k + 1)) + 1 by omega, List.replicate_succ]
  rfl
theorem fillM_len {m : List (List Int)} {k : Nat} (hk : k ≤ m.length) : (m.take k ++ List.replicate (m.length - k) ([] : List Int)).length = m.length := by simp; omega
theorem toMat_law (a : Value) (m : List (List Int)) (w : World) (ha : MRow w a m) (hl : m.length + total m ≤ 1048576) :
    Calls Try.prog 85 #[a] w (fun e w' => ∃ A c, e = .returned (.slice A m.length c) ∧ OwnM w' w.heap.size (.slice A m.length c) m ∧ Below w.heap.size w w') := by
  obtain ⟨A, c, rfl, -, -, -, hA⟩ := MRow.open ha
  clear ha
  have HhA := Lib.hid hA; clear hA
  go_enter Try.func85, Try.ntmps85
  go_wp2_with (at_make; go_must (refine wp_make_rows rfl _ _ rfl w.heap.size .i64 .i64 _ _ m.length rfl rfl rfl rfl (by omega) (Nat.le_refl _) ?_; intro w1 hown hb1))
  have hown : OwnM w1 w.heap.size (.slice (some ⟨w.heap.size, 0, none⟩) m.length m.length) (m.take 0 ++ List.replicate (m.length - 0) []) := by simpa using hown
  go_loopw [4] (fun i wr => ∃ k : Nat, i = .int .i64 k ∧ k ≤ m.length ∧ OwnM wr w.heap.size (.slice (some ⟨w.heap.size, 0, none⟩) m.length m.length) (m.take k ++ List.replicate (m.length - k) []) ∧ Below w.heap.size w wr ∧ w.heap.size < wr.heap.size) (fun i _ => m.length - (intOf i).toNat)
  case atStart =>
    refine ⟨0, rfl, Nat.zero_le _, hown, hb1, ?_⟩
    obtain ⟨ps, -, h2, -⟩ := hown
    exact (h2.lt _ rfl).2
  case round =>
    clear hown
    obtain ⟨k, rfl, hk, hown, hb, hsz⟩ := hrel
    by_cases hlt : k < m.length
    · have g0 : (k : Int) < (m.length : Int) := by omega
      obtain ⟨b, off, rfl, h1⟩ := HhA.out k hlt
      obtain ⟨A1, q1, c1, r1⟩ := h1 k hlt
      replace r1 := r1.below hb
      replace c1 := cellB hb c1
      clear h1
      have hln := fillM_len hk
      have hml : m[k].length ≤ 1048576 := by have := total_mem (List.getElem_mem hlt); omega
      have hst := fillM_step hlt
      generalize hQ : m.take k ++ List.replicate (m.length - k) [] = Q at *
      obtain ⟨r, hr⟩ : ∃ r, m[k] = r := ⟨_, rfl⟩
      rw [hr] at c1 r1 hml hst
      obtain ⟨A0, q0, c2, f2, -, -⟩ := SegM.at hown k (by omega)
      have Hr1 := Lib.hid r1; clear r1; have Hhst := Lib.hid hst; clear hst; have Hhr := Lib.hid hr; clear hr; have HhQ := Lib.hid hQ; clear hQ
      go_wp2_with (go_at_call 28; ((with_reducible refine (toInt_law _ r _ Hr1.out hml).mono ?_); rintro e w2 ⟨A2, q2, rfl, own2, hb2⟩; (replace c2 := cellB hb2 c2; replace f2 := (hb2.frozen (p := ⟨w.heap.size, k, none⟩) hsz).trans f2; have h3 := SegM.set (SegM.below hown hb2) own2 hb.size hb2.size k)))
      go_roundw
      case rel => exact ⟨k + 1, by go_num, by omega, by rw [← Hhst.out]; exact h3, (hb.trans (hb2.mono hb.size)).setCell (Nat.le_refl _) _, by have := hb2.size; simp [World.setCell]; omega⟩
      case measure => simp [intOf] <;> omega
    · obtain rfl : k = m.length := by omega
      have g0 : ¬ (m.length : Int) < (m.length : Int) := by omega
      rw [List.take_length, Nat.sub_self, List.replicate_zero, List.append_nil] at hown
      have Hhown := Lib.hid hown; clear hown
      go_wp2_with fail
      go_ret
      exact ⟨_, _, rfl, Hhown.out, hb⟩
theorem total_take {m : List (List Int)} {k : Nat} (hk : k < m.length) : total (m.take (k + 1)) = total (m.take k) + m[k].length := by
  rw [List.take_succ_eq_append_getElem hk, total_append]; simp [total]
theorem total_take_le (m : List (List Int)) (k : Nat) : total (m.take k) ≤ total m := by
  have : total (m.take k) + total (m.drop k) = total m := by rw [← total_append, List.take_append_drop]
  omega
theorem SegI.own {w : World} {lo hi : Nat} {v : Value} {l : List Int} (h : SegI w lo hi v l) : OwnI w lo v l := h.1
def szM (m : List (List Int)) (left : Int) : Int := if (m.length + total m : Int) ≤ left then left - (m.length + total m : Int) else -1
theorem szMat_l (a : Value) (m : List (List Int)) (left : Int) (w : World) (ha : MRow w a m) (hl : 0 ≤ left ∧ left ≤ 1048576) :
    Calls Try.prog 84 #[a, .int .i64 left] w (Ret (.int .i64 (szM m left)) w) := by
  have hlen := MRow.len ha
  obtain ⟨A, c, rfl, -, -, -, hA⟩ := MRow.open ha
  clear ha
  obtain ⟨Z, hZ⟩ : ∃ Z, szM m left = Z := ⟨_, rfl⟩
  rw [hZ]
  unfold szM at hZ
  by_cases h0 : (m.length : Int) ≤ left
  rotate_left
  · rw [if_neg (by omega)] at hZ
    subst hZ
    have d1 : decide (left - (m.length : Int) < 0) = true := by rw [decide_eq_true_eq]; omega
    have d2 : decide (left < (m.length : Int)) = true := by rw [decide_eq_true_eq]; omega
    have HhA := Lib.hid hA; clear hA
    go_enter Try.func84, Try.ntmps84
    go_wp2_with fail
    go_ret
    exact ⟨rfl, rfl⟩
  have d1 : decide (left - (m.length : Int) < 0) = false := by rw [decide_eq_false_iff_not]; omega
  have d2 : decide (left < (m.length : Int)) = false := by rw [decide_eq_false_iff_not]; omega
  have HhA := Lib.hid hA; clear hA; have HhZ := Lib.hid hZ; clear hZ
  go_enter Try.func84, Try.ntmps84
  go_wp2_with fail
  clear d1 d2
  go_loop [1, 5] (fun x i => ∃ (k : Nat) (y : Int), i = .int .i64 k ∧ x = .int .i64 y ∧ k ≤ m.length ∧ y = left - (m.length : Int) - (total (m.take k) : Int) ∧ 0 ≤ y) (fun _ i => m.length - (intOf i).toNat)
  case atStart => exact ⟨0, _, rfl, rfl, Nat.zero_le _, by simp [total], by omega⟩
  case round =>
    obtain ⟨k, y, rfl, rfl, hk, hy, hy0⟩ := hrel
    by_cases hlt : k < m.length
    · have g0 : (k : Int) < (m.length : Int) := by omega
      obtain ⟨b, off, rfl, h1⟩ := HhA.out k hlt
      obtain ⟨A1, q1, c1, r1⟩ := h1 k hlt
      clear h1
      have ht := total_take hlt
      have ht2 := total_take_le m (k + 1)
      generalize m[k] = r at *
      have k1 := fun W h => szIntS_l (.slice A1 r.length q1) r y W h (by omega)
      by_cases hc : (r.length : Int) ≤ y
      · rw [if_pos hc] at k1
        have d1 : decide (y - (r.length : Int) < 0) = false := by rw [decide_eq_false_iff_not]; omega
        have d2 : decide (y < (r.length : Int)) = false := by rw [decide_eq_false_iff_not]; omega
        have hy2 : y - (r.length : Int) = left - (m.length : Int) - (total (m.take (k + 1)) : Int) := by omega
        have Hr1 := Lib.hid r1; clear r1; have Hhy := Lib.hid hy; clear hy; have Hk1 := Lib.hid k1; clear k1; have Hht := Lib.hid ht; clear ht; have Hht2 := Lib.hid ht2; clear ht2; have Hhy2 := Lib.hid hy2; clear hy2
        go_wp2_with (go_at_call 138; ((with_reducible refine (Hk1.out _ Hr1.out).mono ?_); rintro e w' ⟨rfl, rfl⟩))
        go_round
        case rel => exact ⟨k + 1, _, by go_num, rfl, by omega, Hhy2.out, by omega⟩
        case measure => simp [intOf] <;> omega
      · rw [if_neg hc] at k1
        have hZ2 := HhZ.out
        rw [if_neg (by omega)] at hZ2
        have HhZ2 := Lib.hid hZ2; clear hZ2; have Hr1 := Lib.hid r1; clear r1; have Hhy := Lib.hid hy; clear hy; have Hk1 := Lib.hid k1; clear k1; have Hht := Lib.hid ht; clear ht; have Hht2 := Lib.hid ht2; clear ht2
        go_wp2_with (go_at_call 138; ((with_reducible refine (Hk1.out _ Hr1.out).mono ?_); rintro e w' ⟨rfl, rfl⟩))
        go_ret
        exact ⟨by rw [← HhZ2.out]; rfl, rfl⟩
    · obtain rfl : k = m.length := by omega
      have g0 : ¬ (m.length : Int) < (m.length : Int) := by omega
      rw [List.take_length] at hy
      have hZ2 := HhZ.out
      rw [if_pos (by omega), show left - ((m.length : Int) + (total m : Int)) = y by omega] at hZ2
      have Hhy := Lib.hid hy; clear hy; have HhZ2 := Lib.hid hZ2; clear hZ2
      go_wp2_with fail
      go_ret
      exact ⟨by rw [← HhZ2.out]; rfl, rfl⟩

/-- The numbers that a marking of rows lays. -/
def mmarks : Nat → List (List Int) → List (List Int)
  | _, [] => []
  | k, r :: m => marks k r.length :: mmarks (k + r.length) m
theorem mmarks_len : ∀ (k : Nat) (m : List (List Int)), (mmarks k m).length = m.length
  | _, [] => rfl
  | k, r :: m => by simp [mmarks, mmarks_len]
theorem mmarks_append : ∀ (k : Nat) (a b : List (List Int)), mmarks k (a ++ b) = mmarks k a ++ mmarks (k + total a) b
  | k, [], b => by simp [mmarks, total]
  | k, r :: a, b => by
    rw [List.cons_append, mmarks, mmarks, mmarks_append, total_cons, List.cons_append, Nat.add_assoc]
theorem mmarks_get {k : Nat} {m : List (List Int)} {i : Nat} (h : i < m.length) (h' : i < (mmarks k m).length) : (mmarks k m)[i] = marks (k + total (m.take i)) m[i].length := by
  have e : m = m.take i ++ m[i] :: m.drop (i + 1) := by rw [← List.drop_eq_getElem_cons h, List.take_append_drop]
  have e2 : mmarks k m = mmarks k (m.take i) ++ (marks (k + total (m.take i)) m[i].length :: mmarks (k + total (m.take i) + m[i].length) (m.drop (i + 1))) := by
    conv => lhs; rw [e]
    rw [mmarks_append]; rfl
  have hl : (mmarks k (m.take i)).length = i := by rw [mmarks_len, List.length_take]; omega
  have : (mmarks k m)[i]? = some (marks (k + total (m.take i)) m[i].length) := by
    rw [e2, List.getElem?_append_right (by omega), hl, Nat.sub_self]; rfl
  rw [List.getElem?_eq_getElem h'] at this
  exact Option.some.inj this
theorem mmarks_step {k : Nat} {m : List (List Int)} {i : Nat} (h : i < m.length) : (mmarks k (m.take i) ++ m.drop i).set i (marks (k + total (m.take i)) m[i].length) = mmarks k (m.take (i + 1)) ++ m.drop (i + 1) := by
  have hl : (mmarks k (m.take i)).length = i := by rw [mmarks_len, List.length_take]; omega
  rw [List.set_append_right _ _ (by omega), hl, Nat.sub_self, List.take_succ_eq_append_getElem h, mmarks_append, List.append_assoc]
  congr 1
  rw [List.drop_eq_getElem_cons h]
  rfl
theorem mm_get {k : Nat} {m : List (List Int)} {i : Nat} (h : i < m.length) (h' : i < (mmarks k (m.take i) ++ m.drop i).length) : (mmarks k (m.take i) ++ m.drop i)[i] = m[i] := by
  have hl : (mmarks k (m.take i)).length = i := by rw [mmarks_len, List.length_take]; omega
  have : (mmarks k (m.take i) ++ m.drop i)[i]? = some m[i] := by
    rw [List.getElem?_append_right (by omega), hl, Nat.sub_self, List.getElem?_drop, Nat.add_zero, List.getElem?_eq_getElem h]
  rw [List.getElem?_eq_getElem h'] at this
  exact Option.some.inj this
theorem mm_len {k : Nat} {m : List (List Int)} {i : Nat} (h : i ≤ m.length) : (mmarks k (m.take i) ++ m.drop i).length = m.length := by
  rw [List.length_append, mmarks_len, List.length_take, List.length_drop]; omega
theorem markMat_l (v : Value) (m : List (List Int)) (k lo hi : Nat) (w : World) (hv : SegM w lo hi v m) (hk : k + total m ≤ 1099511627776) (hm : m.length ≤ 1099511627776) :
    Calls Try.prog 87 #[v, .int .i64 (k : Int)] w (fun e w' => e = .returned (.int .i64 ((k + total m : Nat) : Int)) ∧ SegM w' lo hi v (mmarks k m) ∧ Within lo hi w w') := by
  have hW : Within lo hi w w := Within.of_below (Below.refl _ _)
  by_cases h0 : m = []
  · subst h0
    obtain ⟨A, c, e⟩ := MRow.opened hv.row
    subst e
    have Hhv := Lib.hid hv; clear hv; have HhW := Lib.hid hW; clear hW
    go_enter Try.func87, Try.ntmps87
    go_wp2_with fail
    go_loop [1, 5] (fun x i => x = .int .i64 k ∧ i = .int .i64 0) (fun _ _ => 0)
    case atStart => exact ⟨rfl, rfl⟩
    case round =>
      obtain ⟨rfl, rfl⟩ := hrel
      go_wp2_with fail
      go_ret
      exact ⟨rfl, Hhv.out, HhW.out⟩
  have hp : 0 < m.length := by cases m with | nil => exact absurd rfl h0 | cons a t => simp
  obtain ⟨g, cap, rfl, hlo, hgh, hgs, hle, hcap⟩ := SegM.open hv hp
  go_enter Try.func87, Try.ntmps87
  go_wp2_with fail
  go_loopw [1, 5] (fun x i wr => ∃ j : Nat, x = .int .i64 ((k + total (m.take j) : Nat) : Int) ∧ i = .int .i64 j ∧ j ≤ m.length ∧ SegM wr lo hi (.slice (some ⟨g, 0, none⟩) m.length cap) (mmarks k (m.take j) ++ m.drop j) ∧ Within lo hi w wr) (fun _ i _ => m.length - (intOf i).toNat)
  case atStart => exact ⟨0, by simp [total], rfl, Nat.zero_le _, by simpa [mmarks] using hv, hW⟩
  case round =>
    clear hv hW
    obtain ⟨j, rfl, rfl, hj, hS, hW⟩ := hrel
    by_cases hlt : j < m.length
    · have g0 : (j : Int) < (m.length : Int) := by omega
      have hln := mm_len (k := k) hj
      have hst := mmarks_step (k := k) hlt
      have hgt := mm_get (k := k) hlt (by rw [hln]; exact hlt)
      have ht := total_take hlt
      have ht2 := total_take_le m (j + 1)
      have ht3 : k + total (m.take j) + m[j].length = k + total (m.take (j + 1)) := by omega
      generalize hQ : mmarks k (m.take j) ++ m.drop j = Q at *
      obtain ⟨A1, q1, c1, -, s1, keep⟩ := SegM.at hS j (by omega)
      rw [hgt] at c1 s1 keep
      generalize m[j] = r at *
      generalize hK : k + total (m.take j) = K at *
      have k1 := fun W h => markIntS_l (.slice A1 r.length q1) r K lo W h (by omega) (by omega)
      have HhS := Lib.hid hS; clear hS; have Hkeep := Lib.hid keep; clear keep; have Hhst := Lib.hid hst; clear hst; have Hhgt := Lib.hid hgt; clear hgt; have Hht := Lib.hid ht; clear ht; have Hht2 := Lib.hid ht2; clear ht2; have HhQ := Lib.hid hQ; clear hQ; have HhK := Lib.hid hK; clear hK; have Hk1 := Lib.hid k1; clear k1; have Hht3 := Lib.hid ht3; clear ht3
      go_wp2_with (go_at_call 37; ((with_reducible refine (Hk1.out _ (SegI.own s1)).mono ?_); rintro e w1 ⟨rfl, hown, hg1⟩))
      go_roundw
      case rel => exact ⟨j + 1, by rw [← Hht3.out, Int.natCast_add], by go_num, by omega, by rw [← Hhst.out]; exact Hkeep.out _ _ (marks_len _ _) ⟨hown, And.right s1⟩ hg1, hW.trans (within_of_grown s1 hg1)⟩
      case measure => simp [intOf] <;> omega
    · obtain rfl : j = m.length := by omega
      have g0 : ¬ (m.length : Int) < (m.length : Int) := by omega
      rw [List.drop_length, List.append_nil, List.take_length] at hS
      rw [List.take_length]
      have HhS := Lib.hid hS; clear hS
      go_wp2_with fail
      go_ret
      exact ⟨rfl, HhS.out, hW⟩
theorem heldMat_l (v : Value) (k : Nat) (m : List (List Int)) (w : World) (hv : MRow w v (mmarks k m)) (hk : k + total m ≤ 1099511627776) :
    Calls Try.prog 111 #[v, .int .i64 (k : Int)] w (RetB (.int .i64 ((k + total m : Nat) : Int)) w) := by
  have hn := MRow.len hv
  obtain ⟨A, c, rfl, -, -, -, hA⟩ := MRow.open hv
  rw [mmarks_len] at *
  clear hv
  have HhA := Lib.hid hA; clear hA
  go_enter Try.func111, Try.ntmps111
  go_wp2_with fail
  go_loop [1, 5] (fun x i => ∃ j : Nat, x = .int .i64 ((k + total (m.take j) : Nat) : Int) ∧ i = .int .i64 j ∧ j ≤ m.length) (fun _ i => m.length - (intOf i).toNat)
  case atStart => exact ⟨0, by simp [total], rfl, Nat.zero_le _⟩
  case round =>
    obtain ⟨j, rfl, rfl, hj⟩ := hrel
    by_cases hlt : j < m.length
    · have g0 : (j : Int) < (m.length : Int) := by omega
      obtain ⟨b, off, rfl, h1⟩ := HhA.out j (by rw [mmarks_len]; exact hlt)
      obtain ⟨A1, q1, c1, r1⟩ := h1 j (by rw [mmarks_len]; exact hlt)
      clear h1
      rw [mmarks_get hlt] at c1 r1
      rw [marks_len] at c1 r1
      have ht := total_take hlt
      have ht2 := total_take_le m (j + 1)
      have ht3 : k + total (m.take j) + m[j].length = k + total (m.take (j + 1)) := by omega
      generalize m[j].length = n at *
      generalize hK : k + total (m.take j) = K at *
      have k1 := fun W h => heldIntS_l (.slice A1 n q1) K n W h (by omega) (by omega)
      have d1 : decide (((K + n : Nat) : Int) < 0) = false := by rw [decide_eq_false_iff_not]; omega
      have d2 : decide ((K : Int) + (n : Int) < 0) = false := by rw [decide_eq_false_iff_not]; omega
      have Hr1 := Lib.hid r1; clear r1; have Hht := Lib.hid ht; clear ht; have Hht2 := Lib.hid ht2; clear ht2; have HhK := Lib.hid hK; clear hK; have Hk1 := Lib.hid k1; clear k1; have Hht3 := Lib.hid ht3; clear ht3
      go_wp2_with (go_at_call 38; ((with_reducible refine (Hk1.out _ Hr1.out).mono ?_); rintro e w' ⟨rfl, rfl⟩))
      go_round
      case rel => exact ⟨j + 1, by rw [← Hht3.out, Int.natCast_add], by go_num, by omega⟩
      case measure => simp [intOf] <;> omega
    · obtain rfl : j = m.length := by omega
      have g0 : ¬ (m.length : Int) < (m.length : Int) := by omega
      rw [List.take_length]
      go_wp2_with fail
      go_ret
      exact ⟨rfl, Below.refl _ _⟩
end Go.Proofs.Ytbajnecahojcfaa
