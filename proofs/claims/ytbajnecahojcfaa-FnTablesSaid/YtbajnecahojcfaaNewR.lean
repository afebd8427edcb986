/- NewRelation, both. -/
import Derived.Test.YtbajnecahojcfaaSortS
import Derived.Test.YtbajnecahojcfaaRelV
namespace Go.Proofs.Ytbajnecahojcfaa
open Go.RowKit Go.Sort
set_option maxHeartbeats 4000000
set_option maxRecDepth 100000
theorem mergeI_total : ∀ (n : Nat) (a b : List (List Int)), a.length + b.length ≤ n → total (mergeI a b) ≤ total a + total b := by
  intro n
  induction n with
  | zero => intro a b h; obtain rfl : a = [] := List.length_eq_zero_iff.1 (by omega); rw [mergeI_nil]; omega
  | succ n ih =>
    intro a b h
    match a, b with
    | [], b => rw [mergeI_nil]; omega
    | x :: a, [] => rw [mergeI_nil']; omega
    | x :: a, y :: b =>
      simp only [List.length_cons] at h
      rw [mergeI_cons]
      split
      · have := ih a (y :: b) (by simp only [List.length_cons]; omega); simp only [total_cons] at *; omega
      · split
        · have := ih a b (by omega); simp only [total_cons] at *; omega
        · have := ih (x :: a) b (by simp only [List.length_cons]; omega); simp only [total_cons] at *; omega
theorem sortI_total : ∀ (n : Nat) (m : List (List Int)), m.length ≤ n → total (sortI m) ≤ total m := by
  intro n
  induction n with
  | zero => intro m h; rw [sortI_small (by omega)]; exact Nat.le_refl _
  | succ n ih =>
    intro m h
    by_cases h2 : m.length < 2
    · rw [sortI_small h2]; exact Nat.le_refl _
    · rw [sortI_great h2]
      have a1 := ih (m.take (m.length / 2)) (by simp; omega)
      have b1 := ih (m.drop (m.length / 2)) (by simp; omega)
      have := mergeI_total _ (sortI (m.take (m.length / 2))) (sortI (m.drop (m.length / 2))) (Nat.le_refl _)
      have h3 : total (m.take (m.length / 2)) + total (m.drop (m.length / 2)) = total m := by rw [← total_append, List.take_append_drop]
      omega
theorem okRow_step {ar : Int} {m : List (List Int)} {k : Nat} (hk : k < m.length) (h : ∀ i (hi : i < m.length), i < k → okRow ar m[i] = true) (hx : okRow ar m[k] = true) : ∀ i (hi : i < m.length), i < k + 1 → okRow ar m[i] = true := by
  intro i hi hlt
  rcases Nat.lt_or_ge i k with h' | h'
  · exact h i hi h'
  · have : i = k := by omega
    subst this; exact hx
def RetN (ar : Int) (m : List (List Int)) (w : World) (e : Ending) (w' : World) : Prop := RetMB (newA ar m) (newM ar m) (newOk ar m) w e w'
theorem retN_no {ar : Int} {m : List (List Int)} {w w' : World} {e : Ending} (h : newOk ar m = false) (he : e = .returned (.tuple #[.agg #[.int .i64 0, .slice none 0 0], .bool false])) (hb : Below w.heap.size w w') : RetN ar m w e w' := by
  unfold RetN
  rw [newA_no h, newM_no h, h]
  exact ⟨none, 0, he, OwnM.nil _ _, hb⟩
theorem retN_yes {ar : Int} {m : List (List Int)} {w w' : World} {e : Ending} {A : Option Addr} {c : Nat} (h : newOk ar m = true) (he : e = .returned (.tuple #[.agg #[.int .i64 ar, .slice A (sortI m).length c], .bool true])) (hown : OwnM w' w.heap.size (.slice A (sortI m).length c) (sortI m)) (hb : Below w.heap.size w w') : RetN ar m w e w' := by
  unfold RetN
  rw [newA_yes h, newM_yes h, h]
  exact ⟨A, c, he, hown, hb⟩
theorem NewRelation_i (ar : Int) (v : Value) (m : List (List Int)) (w : World) (hv : MRow w v m) (hl : m.length + total m ≤ 1099511627775) : Calls Try.prog 77 #[.int .i64 ar, v] w (RetN ar m w) := by
  have y0 := heap_alloc_new w (.cells #[.int .i64 0, .slice none 0 0] 44)
  have hB : Below w.heap.size w (w.alloc (.cells #[.int .i64 0, .slice none 0 0] 44)) := (Below.refl _ _).alloc (Nat.le_refl _) _
  have hv0 := hv.below hB
  have hv1 := hv0
  have hlen := MRow.len hv
  obtain ⟨A, c, rfl, -, -, -, hA⟩ := MRow.open hv0
  clear hv hv0
  have HhA := Lib.hid hA; clear hA; have Hhv1 := Lib.hid hv1; clear hv1; have HhB := Lib.hid hB; clear hB
  go_enter Try.func77, Try.ntmps77
  go_wp2_with fail
  go_loop [11] (fun i => ∃ k : Nat, i = .int .i64 k ∧ k ≤ m.length ∧ ∀ j (hj : j < m.length), j < k → okRow ar m[j] = true) (fun i => m.length - (intOf i).toNat)
  case atStart => exact ⟨0, rfl, Nat.zero_le _, fun j _ h => by omega⟩
  case round =>
    obtain ⟨k, rfl, hk, hall⟩ := hrel
    by_cases hlt : k < m.length
    · have g0 : (k : Int) < (m.length : Int) := by omega
      obtain ⟨b, off, rfl, h1⟩ := HhA.out k hlt
      obtain ⟨A1, q1, c1, r1⟩ := h1 k hlt
      clear h1
      by_cases hL : (m[k].length : Int) = ar
      rotate_left
      · have e := newOk_bad (ar := ar) hlt (okRow_len hL)
        generalize m[k] = r at *
        have d1 : ((r.length : Int) != ar) = true := by rw [bne_iff_ne]; exact hL
        have Hr1 := Lib.hid r1; clear r1; have HhL := Lib.hid hL; clear hL; have Hhall := Lib.hid hall; clear hall; have He := Lib.hid e; clear e
        go_wp2_with fail
        refine bodyPost_ret (res_rel_tmp rfl rfl rfl y0) rfl (retN_no He.out rfl HhB.out)
      have d1 : ((m[k].length : Int) != ar) = false := by rw [bne_eq_false_iff_eq]; exact hL
      have k2 := fun W (h : IRow W (.slice A1 m[k].length q1) m[k]) => AreValidValues_i (.slice A1 m[k].length q1) m[k] W h
      cases hq : vrow m[k] with
      | false =>
        have e := newOk_bad (ar := ar) hlt (okRow_val hq)
        rw [hq] at k2
        generalize m[k] = r at *
        have Hr1 := Lib.hid r1; clear r1; have HhL := Lib.hid hL; clear hL; have Hhall := Lib.hid hall; clear hall; have He := Lib.hid e; clear e; have Hhq := Lib.hid hq; clear hq; have Hk2 := Lib.hid k2; clear k2
        go_wp2_with (go_at_call 29; ((with_reducible refine (Hk2.out _ Hr1.out).mono ?_); rintro e w' ⟨rfl, rfl⟩))
        refine bodyPost_ret (res_rel_tmp rfl rfl rfl y0) rfl (retN_no He.out rfl HhB.out)
      | true =>
        rw [hq] at k2
        have hs := okRow_step hlt hall (okRow_iff.2 ⟨hL, hq⟩)
        generalize m[k] = r at *
        have Hr1 := Lib.hid r1; clear r1; have HhL := Lib.hid hL; clear hL; have Hhall := Lib.hid hall; clear hall; have Hhs := Lib.hid hs; clear hs; have Hhq := Lib.hid hq; clear hq; have Hk2 := Lib.hid k2; clear k2
        go_wp2_with (go_at_call 29; ((with_reducible refine (Hk2.out _ Hr1.out).mono ?_); rintro e w' ⟨rfl, rfl⟩))
        go_round
        case rel => exact ⟨k + 1, by go_num, by omega, Hhs.out⟩
        case measure => simp [intOf] <;> omega
    · obtain rfl : k = m.length := by omega
      have g0 : ¬ (m.length : Int) < (m.length : Int) := by omega
      have e := newOk_all (ar := ar) (m := m) (fun i hi => hall i hi hi)
      have ks := fun W (h : MRow W (.slice A m.length c) m) => sorted_i _ m (Nat.le_refl _) hl (.slice A m.length c) W h
      have kv := fun W A' c' (h : MRow W (.slice A' (sortI m).length c') (sortI m)) => IsValidRelation_i (.slice A' (sortI m).length c') ar (sortI m) W h
      cases hZ : relOk ar (sortI m) with
      | false =>
        rw [hZ] at e kv
        have Hhall := Lib.hid hall; clear hall; have He := Lib.hid e; clear e; have Hks := Lib.hid ks; clear ks; have Hkv := Lib.hid kv; clear kv; have HhZ := Lib.hid hZ; clear hZ
        go_wp2_with (first
          | (go_at_call 135; ((with_reducible refine (Hks.out _ Hhv1.out).mono ?_); rintro e w1 ⟨A5, c5, rfl, own, hb⟩; (have y1 := blockB hb y0; clear y0; have hv5 := (SegM.row own).alloc (.cells #[.int .i64 ar, .slice A5 (sortI m).length c5] 44))))
          | (go_at_call 68; ((with_reducible refine (Hkv.out _ _ _ hv5).mono ?_); rintro e w2 ⟨rfl, hb2⟩; (have y2 := blockB hb2 (heapN y1 _); have u0 := cellAt y2 0; have u1 := cellAt y2 1; have f0 := frozen0 (j := 0) y2; have f1 := frozen0 (j := 1) y2))))
        refine bodyPost_ret (res_rel_tmp rfl rfl rfl (set1 (set0 y2 _) _)) rfl (retN_no He.out rfl ?_)
        exact (((below_tr HhB.out hb).alloc (below_tr HhB.out hb).size _).trans (hb2.mono (((below_tr HhB.out hb).alloc (below_tr HhB.out hb).size _).size))).setCell (p := ⟨w.heap.size, 0, none⟩) (Nat.le_refl _) _ |>.setCell (p := ⟨w.heap.size, 1, none⟩) (Nat.le_refl _) _
      | true =>
        rw [hZ] at e kv
        have Hhall := Lib.hid hall; clear hall; have He := Lib.hid e; clear e; have Hks := Lib.hid ks; clear ks; have Hkv := Lib.hid kv; clear kv; have HhZ := Lib.hid hZ; clear hZ
        go_wp2_with (first
          | (go_at_call 135; ((with_reducible refine (Hks.out _ Hhv1.out).mono ?_); rintro e w1 ⟨A5, c5, rfl, own, hb⟩; (have y1 := blockB hb y0; clear y0; have hv5 := (SegM.row own).alloc (.cells #[.int .i64 ar, .slice A5 (sortI m).length c5] 44); have hsz1 := hb.size)))
          | (go_at_call 68; ((with_reducible refine (Hkv.out _ _ _ hv5).mono ?_); rintro e w2 ⟨rfl, hb2⟩; (have y2 := blockB hb2 (heapN y1 _); have y8 := blockB hb2 (heap_alloc_new w1 (.cells #[.int .i64 ar, .slice A5 (sortI m).length c5] 44)); have v0 := cellAt y8 0; have v1 := cellAt y8 1; have u0 := cellAt y2 0; have u1 := cellAt y2 1; have f0 := frozen0 (j := 0) y2; have f1 := frozen0 (j := 1) y2))))
        have o1 := SegM.below (SegM.alloc own _) hb2
        have z1 := set0 y2 (.int .i64 ar)
        have o2 := SegM.setO (j := 0) o1 y2 (by decide) (by decide) (.int .i64 ar)
        have o3 := SegM.setO (j := 1) o2 z1 (by decide) (by decide) (.slice A5 (sortI m).length c5)
        refine bodyPost_ret (res_rel_tmp rfl rfl rfl (set1 z1 _)) rfl (retN_yes He.out rfl (o3.wide (by simp) (by have := hb2.size; simp [World.setCell] at this ⊢; omega)) ?_)
        exact (((below_tr HhB.out hb).alloc (below_tr HhB.out hb).size _).trans (hb2.mono (((below_tr HhB.out hb).alloc (below_tr HhB.out hb).size _).size))).setCell (p := ⟨w.heap.size, 0, none⟩) (Nat.le_refl _) _ |>.setCell (p := ⟨w.heap.size, 1, none⟩) (Nat.le_refl _) _
theorem NewRelation_s (ar : Int) (v : Value) (m : List (List Int)) (w : World) (hv : MRow w v m) (hl : m.length + total m ≤ 1099511627775) : Calls Try.prog 78 #[.int .i64 ar, v] w (RetN ar m w) := by
  have y0 := heap_alloc_new w (.cells #[.int .i64 0, .slice none 0 0] 44)
  have hB : Below w.heap.size w (w.alloc (.cells #[.int .i64 0, .slice none 0 0] 44)) := (Below.refl _ _).alloc (Nat.le_refl _) _
  have hv0 := hv.below hB
  have hv1 := hv0
  have hlen := MRow.len hv
  obtain ⟨A, c, rfl, -, -, -, hA⟩ := MRow.open hv0
  clear hv hv0
  have HhA := Lib.hid hA; clear hA; have Hhv1 := Lib.hid hv1; clear hv1; have HhB := Lib.hid hB; clear hB
  go_enter Try.func78, Try.ntmps78
  go_wp2_with fail
  go_loop [6] (fun i => ∃ k : Nat, i = .int .i64 k ∧ k ≤ m.length ∧ ∀ j (hj : j < m.length), j < k → okRow ar m[j] = true) (fun i => m.length - (intOf i).toNat)
  case atStart => exact ⟨0, rfl, Nat.zero_le _, fun j _ h => by omega⟩
  case round =>
    obtain ⟨k, rfl, hk, hall⟩ := hrel
    by_cases hlt : k < m.length
    · have g0 : (k : Int) < (m.length : Int) := by omega
      obtain ⟨b, off, rfl, h1⟩ := HhA.out k hlt
      obtain ⟨A1, q1, c1, r1⟩ := h1 k hlt
      clear h1
      by_cases hL : (m[k].length : Int) = ar
      rotate_left
      · have e := newOk_bad (ar := ar) hlt (okRow_len hL)
        generalize m[k] = r at *
        have d1 : ((r.length : Int) != ar) = true := by rw [bne_iff_ne]; exact hL
        have Hr1 := Lib.hid r1; clear r1; have HhL := Lib.hid hL; clear hL; have Hhall := Lib.hid hall; clear hall; have He := Lib.hid e; clear e
        go_wp2_with fail
        refine bodyPost_ret (res_rel_tmp rfl rfl rfl y0) rfl (retN_no He.out rfl HhB.out)
      have d1 : ((m[k].length : Int) != ar) = false := by rw [bne_eq_false_iff_eq]; exact hL
      have k2 := fun W (h : IRow W (.slice A1 m[k].length q1) m[k]) => AreValidValues_s (.slice A1 m[k].length q1) m[k] W h
      cases hq : vrow m[k] with
      | false =>
        have e := newOk_bad (ar := ar) hlt (okRow_val hq)
        rw [hq] at k2
        generalize m[k] = r at *
        have Hr1 := Lib.hid r1; clear r1; have HhL := Lib.hid hL; clear hL; have Hhall := Lib.hid hall; clear hall; have He := Lib.hid e; clear e; have Hhq := Lib.hid hq; clear hq; have Hk2 := Lib.hid k2; clear k2
        go_wp2_with (go_at_call 27; ((with_reducible refine (Hk2.out _ Hr1.out).mono ?_); rintro e w' ⟨rfl, rfl⟩))
        refine bodyPost_ret (res_rel_tmp rfl rfl rfl y0) rfl (retN_no He.out rfl HhB.out)
      | true =>
        rw [hq] at k2
        have hs := okRow_step hlt hall (okRow_iff.2 ⟨hL, hq⟩)
        generalize m[k] = r at *
        have Hr1 := Lib.hid r1; clear r1; have HhL := Lib.hid hL; clear hL; have Hhall := Lib.hid hall; clear hall; have Hhs := Lib.hid hs; clear hs; have Hhq := Lib.hid hq; clear hq; have Hk2 := Lib.hid k2; clear k2
        go_wp2_with (go_at_call 27; ((with_reducible refine (Hk2.out _ Hr1.out).mono ?_); rintro e w' ⟨rfl, rfl⟩))
        go_round
        case rel => exact ⟨k + 1, by go_num, by omega, Hhs.out⟩
        case measure => simp [intOf] <;> omega
    · obtain rfl : k = m.length := by omega
      have g0 : ¬ (m.length : Int) < (m.length : Int) := by omega
      have e := newOk_all (ar := ar) (m := m) (fun i hi => hall i hi hi)
      have ks := fun W (h : MRow W (.slice A m.length c) m) => l5Sort_s _ m (Nat.le_refl _) hl (.slice A m.length c) W h
      simp only [sort_same] at ks
      have hst := sortI_total _ m (Nat.le_refl _)
      have hsl := sortI_len _ m (Nat.le_refl _)
      have kc := fun W A' c' (h : MRow W (.slice A' (sortI m).length c') (sortI m)) => l5Copy_s (.slice A' (sortI m).length c') ar (sortI m) W h (by omega)
      have kv := fun W A' c' (h : MRow W (.slice A' (sortI m).length c') (sortI m)) => IsValidRelation_s (.slice A' (sortI m).length c') ar (sortI m) W h
      cases hZ : relOk ar (sortI m) with
      | false =>
        rw [hZ] at e kv
        have Hhall := Lib.hid hall; clear hall; have He := Lib.hid e; clear e; have Hks := Lib.hid ks; clear ks; have Hkv := Lib.hid kv; clear kv; have Hkc := Lib.hid kc; clear kc; have HhZ := Lib.hid hZ; clear hZ; have Hhst := Lib.hid hst; clear hst; have Hhsl := Lib.hid hsl; clear hsl
        go_wp2_with (first
          | (go_at_call 136; ((with_reducible refine (Hks.out _ Hhv1.out).mono ?_); rintro e w1 ⟨A5, c5, rfl, row5, hb⟩; (have y1 := blockB hb y0; clear y0)))
          | (go_at_call 120; ((with_reducible refine (Hkc.out _ _ _ row5).mono ?_); rintro e w3 ⟨A6, c6, rfl, own, hb3⟩; (have y3 := blockB hb3 y1; clear y1; have hv5 := (SegM.row own).alloc (.cells #[.int .i64 ar, .slice A6 (sortI m).length c6] 44))))
          | (go_at_call 67; ((with_reducible refine (Hkv.out _ _ _ hv5).mono ?_); rintro e w2 ⟨rfl, hb2⟩; (have y2 := blockB hb2 (heapN y3 _); have u0 := cellAt y2 0; have u1 := cellAt y2 1; have f0 := frozen0 (j := 0) y2; have f1 := frozen0 (j := 1) y2))))
        have hb13 := below_tr (below_tr HhB.out hb) hb3
        refine bodyPost_ret (res_rel_tmp rfl rfl rfl (set1 (set0 y2 _) _)) rfl (retN_no He.out rfl ?_)
        exact (((hb13).alloc (hb13).size _).trans (hb2.mono (((hb13).alloc (hb13).size _).size))).setCell (p := ⟨w.heap.size, 0, none⟩) (Nat.le_refl _) _ |>.setCell (p := ⟨w.heap.size, 1, none⟩) (Nat.le_refl _) _
      | true =>
        rw [hZ] at e kv
        have Hhall := Lib.hid hall; clear hall; have He := Lib.hid e; clear e; have Hks := Lib.hid ks; clear ks; have Hkv := Lib.hid kv; clear kv; have Hkc := Lib.hid kc; clear kc; have HhZ := Lib.hid hZ; clear hZ; have Hhst := Lib.hid hst; clear hst; have Hhsl := Lib.hid hsl; clear hsl
        go_wp2_with (first
          | (go_at_call 136; ((with_reducible refine (Hks.out _ Hhv1.out).mono ?_); rintro e w1 ⟨A5, c5, rfl, row5, hb⟩; (have y1 := blockB hb y0; clear y0)))
          | (go_at_call 120; ((with_reducible refine (Hkc.out _ _ _ row5).mono ?_); rintro e w3 ⟨A6, c6, rfl, own, hb3⟩; (have y3 := blockB hb3 y1; clear y1; have hv5 := (SegM.row own).alloc (.cells #[.int .i64 ar, .slice A6 (sortI m).length c6] 44); have hsz1 := Nat.le_trans hb.size hb3.size; have hsz3 := hb.size)))
          | (go_at_call 67; ((with_reducible refine (Hkv.out _ _ _ hv5).mono ?_); rintro e w2 ⟨rfl, hb2⟩; (have y2 := blockB hb2 (heapN y3 _); have y8 := blockB hb2 (heap_alloc_new w3 (.cells #[.int .i64 ar, .slice A6 (sortI m).length c6] 44)); have v0 := cellAt y8 0; have v1 := cellAt y8 1; have u0 := cellAt y2 0; have u1 := cellAt y2 1; have f0 := frozen0 (j := 0) y2; have f1 := frozen0 (j := 1) y2))))
        have hb13 := below_tr (below_tr HhB.out hb) hb3
        have o1 := SegM.below (SegM.alloc own _) hb2
        have z1 := set0 y2 (.int .i64 ar)
        have o2 := SegM.setO (j := 0) o1 y2 (by decide) (by decide) (.int .i64 ar)
        have o3 := SegM.setO (j := 1) o2 z1 (by decide) (by decide) (.slice A6 (sortI m).length c6)
        refine bodyPost_ret (res_rel_tmp rfl rfl rfl (set1 z1 _)) rfl (retN_yes He.out rfl (o3.wide (by simp at hsz3; omega) (by have := hb2.size; simp [World.setCell] at this ⊢; omega)) ?_)
        exact (((hb13).alloc (hb13).size _).trans (hb2.mono (((hb13).alloc (hb13).size _).size))).setCell (p := ⟨w.heap.size, 0, none⟩) (Nat.le_refl _) _ |>.setCell (p := ⟨w.heap.size, 1, none⟩) (Nat.le_refl _) _
end Go.Proofs.Ytbajnecahojcfaa
