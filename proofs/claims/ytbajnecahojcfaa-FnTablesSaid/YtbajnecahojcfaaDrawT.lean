/- The draws of rows and relations. -/
import Derived.Test.YtbajnecahojcfaaDrawK
import Derived.Test.YtbajnecahojcfaaNewR
namespace Go.Proofs.Ytbajnecahojcfaa
open Go.RowKit Go.Sort
set_option maxHeartbeats 4000000
set_option maxRecDepth 100000
theorem own_int_pos {w : World} {B : Nat} {A : Option Addr} {c : Nat} {l : List Int} (h : OwnI w B (.slice A l.length c) l) (hp : 0 < l.length) : ∃ q, A = some ⟨q, 0, none⟩ ∧ B ≤ q ∧ q < w.heap.size := by
  obtain ⟨q, cap, e, h1, h2, -⟩ := own_open h (by simpa using hp)
  simp only [Value.slice.injEq] at e
  exact ⟨q, e.1, h1, h2⟩
theorem mem_set0 {r : List Int} {x : Int} {P : Int → Prop} (h : ∀ y ∈ r, P y) (hx : P x) : ∀ y ∈ r.set 0 x, P y := fun y hy => by
  rcases List.mem_or_eq_of_mem_set hy with hy | rfl
  · exact h y hy
  · exact hx
theorem lit3_own (w : World) (a b c : Int) : OwnI (w.alloc (.cells #[.int .i64 a, .int .i64 b, .int .i64 c] 3)) 0 (.slice (some ⟨w.heap.size, 0, none⟩) 3 3) [a, b, c] := World.ownsRow_lit w #[.int .i64 a, .int .i64 b, .int .i64 c] 3 (Nat.zero_le _) (by decide) rfl
theorem lit2_own (w : World) (a b : Int) : OwnI (w.alloc (.cells #[.int .i64 a, .int .i64 b] 3)) 0 (.slice (some ⟨w.heap.size, 0, none⟩) 2 2) [a, b] := World.ownsRow_lit w #[.int .i64 a, .int .i64 b] 2 (Nat.zero_le _) (by decide) rfl
theorem cur_alloc {w : World} {g : Nat} (h : Cur w g) (o : Obj) : Cur (w.alloc o) g := h.below ((Below.refl _ _).alloc (Nat.le_refl _) o)
theorem l4Any_s (g : Nat) (w : World) (hc : Cur w g) : Calls Try.prog 103 #[.pointer (some ⟨g, 0, none⟩)] w (fun e w' => ∃ (r : List Int) (A : Option Addr) (c : Nat), e = .returned (.slice A r.length c) ∧ r.length ≤ 4 ∧ (∀ x ∈ r, -1 ≤ x ∧ x ≤ 100) ∧ OwnI w' w.heap.size (.slice A r.length c) r ∧ Cur w' g ∧ w.grownBy w' (some g)) := by
  have hlt := hc.lt
  go_enter Try.func103, Try.ntmps103
  go_wp2_with (first
    | (go_at_call 102; ((with_reducible refine (l1Below_s g 5 (by omega) _ hc).mono ?_); rintro e w1 ⟨x, rfl, hx, hc1, hg1⟩; (have hx5 : x ≤ 4 := (by omega))))
    | (go_at_call 101; ((with_reducible refine (l4Row_i g x 100 ⟨hx.1, by omega⟩ (by omega) _ hc1).mono ?_); rintro e w2 ⟨r, A, c, rfl, hrl, hrb, hown, hc2, hg2⟩; (have hG := Lib.hid (grown_trans hg1 hg2); have hs1 := hg1.size; have hown2 := Lib.hid (own_mono hown hs1); have Hrb := Lib.hid hrb; clear hown hrb)))
    | (go_at_call 104; ((with_reducible refine (l1Once_s g 8 (by omega) _ hc2).mono ?_); rintro e w3 ⟨bb, rfl, hc3, hg3⟩; (obtain ⟨q, rfl, hq1, hq2⟩ := own_int_pos hown2.out (by omega); have hp : 0 < r.length := (by omega); have hcp := cur_alloc hc3 (.cells #[.int .i64 (-1), .int .i64 100, .int .i64 99] 3); have hg3s := hg3.size; have hg3a := World.grownBy_alloc w3 (.cells #[.int .i64 (-1), .int .i64 100, .int .i64 99] 3) (some g); have own3 := Lib.hid (ownR_grown hown2.out hg3 hlt))))
    | (go_at_call 134; ((with_reducible refine (l1PickInt_s g (.slice (some ⟨w3.heap.size, 0, none⟩) 3 3) 0 [-1, 100, 99] (by simp) (by simp) _ hcp (lit3_own _ _ _ _)).mono ?_); rintro e w4 ⟨y, rfl, hy, hc4, hg4⟩; (have own4 := ownR_grown (ownR_grown own3.out hg3a hlt) hg4 hlt; have c4 := ownI_cell own4 0 hp; have f4 := own4.frozenAt 0; have Hown4 := Lib.hid own4; clear own4; have hG4 := Lib.hid (grown_trans (grown_trans (grown_trans hG.out hg3) hg3a) hg4)))))
  · go_ret
    refine ⟨r.set 0 y, some ⟨q, 0, none⟩, c, by rw [List.length_set]; rfl, by rw [List.length_set]; omega, mem_set0 (fun z hz => by have := Hrb.out z hz; omega) (by simp at hy; omega), ?_, hc4.set (by omega) _, grown_new hG4.out hq1 _⟩
    unfold OwnI
    rw [List.length_set]
    exact ownI_set Hown4.out 0 y
  · go_ret
    exact ⟨r, _, c, rfl, by omega, fun z hz => by have := Hrb.out z hz; omega, own3.out, hc3, grown_trans hG.out hg3⟩
  · go_ret
    exact ⟨r, _, c, rfl, by omega, fun z hz => by have := Hrb.out z hz; omega, hown2.out, hc2, hG.out⟩
theorem new_rel (ar : Int) (m : List (List Int)) : relOk (newA ar m) (newM ar m) = true ∧ (newM ar m).length ≤ m.length := by
  cases h : newOk ar m with
  | true =>
    rw [newA_yes h, newM_yes h]
    exact ⟨newOk_rel h, sortI_len _ m (Nat.le_refl _)⟩
  | false =>
    rw [newA_no h, newM_no h]
    exact ⟨by decide, Nat.zero_le _⟩
theorem mem_rows {m : List (List Int)} {r : List Int} {B : Nat} (h : ∀ x ∈ m, x.length ≤ B) (hr : r.length ≤ B) : ∀ x ∈ m ++ [r], x.length ≤ B := fun x hx => by
  rcases List.mem_append.1 hx with hx | hx
  · exact h x hx
  · rw [List.mem_singleton.1 hx]; exact hr
theorem ownM_lit (w : World) : OwnM (w.alloc (.cells #[] 22)) w.heap.size (.slice (some ⟨w.heap.size, 0, none⟩) 0 0) [] := ⟨[], rfl, lit_nil w 22 (Nat.le_refl _), fun g hg => (World.ownsRow.lt (lit_nil w 22 (Nat.le_refl w.heap.size)) g hg).2, RowsOwn.nil _ _ _⟩
/-- A relation that a draw hands back. -/
def RelG (P : Int → List (List Int) → Prop) (g : Nat) (w : World) (e : Ending) (w' : World) : Prop := ∃ (a : Int) (m : List (List Int)) (A : Option Addr) (c : Nat), e = .returned (.agg #[.int .i64 a, .slice A m.length c]) ∧ P a m ∧ OwnM w' w.heap.size (.slice A m.length c) m ∧ Cur w' g ∧ w.grownBy w' (some g)
theorem relG_of {P : Int → List (List Int) → Prop} {g : Nat} {w w' : World} {e : Ending} {a : Int} {m : List (List Int)} {A : Option Addr} {c : Nat} (he : e = .returned (.agg #[.int .i64 a, .slice A m.length c])) (hP : P a m) (hown : OwnM w' w.heap.size (.slice A m.length c) m) (hc : Cur w' g) (hG : w.grownBy w' (some g)) : RelG P g w e w' := ⟨a, m, A, c, he, hP, hown, hc, hG⟩
theorem l5Rel_s (g : Nat) (ar most val : Int) (ha : 0 ≤ ar ∧ ar ≤ 6) (hm : 0 ≤ most ∧ most ≤ 100) (hv : 1 ≤ val ∧ val ≤ 100) (w : World) (hc : Cur w g) : Calls Try.prog 139 #[.pointer (some ⟨g, 0, none⟩), .int .i64 ar, .int .i64 most, .int .i64 val] w (RelG (fun a m => relOk a m = true ∧ (m.length : Int) ≤ most) g w) := by
  have hlt := hc.lt
  have y0 := heapN (heap_alloc_new w (.cells #[.int .i64 0, .slice none 0 0] 44)) (.cells #[] 22)
  have hB : Below w.heap.size w ((w.alloc (.cells #[.int .i64 0, .slice none 0 0] 44)).alloc (.cells #[] 22)) := ((Below.refl _ _).alloc (Nat.le_refl _) _).alloc (by simp) _
  have hG := grown_of_below hB (some g)
  have hown := ownM_lit (w.alloc (.cells #[.int .i64 0, .slice none 0 0] 44))
  replace hc := hc.below hB
  have hs1 : (w.alloc (.cells #[.int .i64 0, .slice none 0 0] 44)).heap.size = w.heap.size + 1 := by simp
  rw [hs1] at hown
  obtain ⟨hm0, hm1⟩ := hm
  have Hhc := Lib.hid hc; clear hc; have HhG := Lib.hid hG; clear hG; have Hhown := Lib.hid hown; clear hown; have HhB := Lib.hid hB; clear hB; have Hhs1 := Lib.hid hs1; clear hs1; have Hy0 := Lib.hid y0; clear y0
  go_enter Try.func139, Try.ntmps139
  go_wp2_with (go_at_call 102; ((with_reducible refine (l1Below_s g (most + 1) (by omega) _ Hhc.out).mono ?_); rintro e w1 ⟨x, rfl, hx, hc1, hg1⟩; (have hx5 : 0 ≤ x ∧ x ≤ most := (by omega); have hG1 := Lib.hid (grown_trans HhG.out hg1); have own1 := Lib.hid (ownM_draw Hhown.out hg1 (by omega)); have y1 := Lib.hid (blockG hg1 (by omega) Hy0.out))))
  clear hx
  go_loopw [9, 10] (fun v n wr => ∃ (D : List (List Int)) (A : Option Addr) (q : Nat) (z : Int), v = .slice A D.length q ∧ n = .int .i64 z ∧ 0 ≤ z ∧ (D.length : Int) + z ≤ most ∧ (∀ r ∈ D, r.length ≤ 6) ∧ wr.heap[w.heap.size]? = some (.cells #[.int .i64 0, .slice none 0 0] 44 (0, 0)) ∧ OwnM wr (w.heap.size + 1) (.slice A D.length q) D ∧ Cur wr g ∧ w.grownBy wr (some g)) (fun _ n _ => (intOf n).toNat)
  case atStart => exact ⟨[], some ⟨w.heap.size + 1, 0, none⟩, 0, x, rfl, rfl, hx5.1, by simp; omega, fun r hr => by simp at hr, y1.out, own1.out, hc1, hG1.out⟩
  case round =>
    obtain ⟨D, A, q, z, rfl, rfl, hz, hDz, hDl, yr, hown, hc, hG⟩ := hrel
    have hsz := hG.size
    have hly := lt_of_heap yr
    have hz100 : z ≤ 100 := by omega
    by_cases hp : 0 < z
    · have Hhown := Lib.hid hown; clear hown; have HhG := Lib.hid hG; clear hG; have HhDl := Lib.hid hDl; clear hDl; have Hyr := Lib.hid yr; clear yr; have HhDz := Lib.hid hDz; clear hDz
      go_wp2_with (first
        | (go_at_call 101; ((with_reducible refine (l4Row_i g ar val ⟨ha.1, by omega⟩ ⟨hv.1, by omega⟩ _ hc).mono ?_); rintro e w2 ⟨r, A2, c2, rfl, hrl, hrb, hown2, hc2, hg2⟩; (have hownD := segM_draw Hhown.out hg2 (by omega); have hs2 := hg2.size; have hG2 := grown_trans HhG.out hg2; have y2 := blockG hg2 (by omega) Hyr.out; clear hrb)))
        | (at_builtin; go_must (refine wp_append_rowM rfl _ _ rfl (w.heap.size + 1) wr.heap.size _ D rfl hownD _ r hown2 rfl (by have := HhDz.out; omega) (by omega) (by omega) ?_; intro v5 w5 hown5 hb5 hgr5; obtain ⟨A5, q5, e5⟩ := MRow.opened (SegM.row hown5); subst e5)))
      go_roundw
      case rel => exact ⟨D ++ [r], A5, q5, z - 1, by rw [List.length_append]; rfl, by go_num, by omega, by have := HhDz.out; simp; omega, mem_rows HhDl.out (by omega), blockL hb5 (by omega) y2, hown5, Cur.low hc2 hb5 (by omega), grown_low hG2 hb5 (by omega)⟩
      case measure => simp [intOf] <;> omega
    · have hMr := SegM.row hown
      have ht := total_le hDl
      have hln := new_rel ar D
      have k4 := fun W h => NewRelation_s ar (.slice A D.length q) D W h (by omega)
      have Hhown := Lib.hid hown; clear hown; have HhG := Lib.hid hG; clear hG; have HhDl := Lib.hid hDl; clear hDl; have Hyr := Lib.hid yr; clear yr; have HhDz := Lib.hid hDz; clear hDz; have HhMr := Lib.hid hMr; clear hMr; have Hk4 := Lib.hid k4; clear k4; have Hhln := Lib.hid hln; clear hln
      go_wp2_with (go_at_call 78; ((with_reducible refine (Hk4.out _ HhMr.out).mono ?_); rintro e w5 ⟨A7, c7, rfl, own7, hb5⟩; (have o2 := blockB hb5 Hyr.out; have o3 := heap_alloc_new w5 (.cells #[.int .i64 (newA ar D), .slice A7 (newM ar D).length c7] 44); have o2a := heapN o2 (.cells #[.int .i64 (newA ar D), .slice A7 (newM ar D).length c7] 44); have f0 := frozen0 (j := 0) o2a; have f1 := frozen0 (j := 1) o2a; have g0 := cellAt o2a 0; have g1 := cellAt o2a 1; have v0 := cellAt o3 0; have v1 := cellAt o3 1; clear hly hsz)))
      have hb5s := hb5.size
      have own8 := SegM.alloc own7 (.cells #[.int .i64 (newA ar D), .slice A7 (newM ar D).length c7] 44)
      have z1 := set0 o2a (.int .i64 (newA ar D))
      have oa := SegM.setO (j := 0) own8 o2a (by decide) (by decide) (.int .i64 (newA ar D))
      have ob := SegM.setO (j := 1) oa z1 (by decide) (by decide) (.slice A7 (newM ar D).length c7)
      have hGz := grown_trans HhG.out (grown_of_below hb5 (some g))
      have hGa := grown_trans hGz (World.grownBy_alloc w5 (.cells #[.int .i64 (newA ar D), .slice A7 (newM ar D).length c7] 44) (some g))
      have hca := cur_alloc (hc.below hb5) (.cells #[.int .i64 (newA ar D), .slice A7 (newM ar D).length c7] 44)
      refine bodyPost_ret (res_rel rfl rfl (set1 z1 _)) rfl (relG_of rfl ⟨Hhln.out.1, by have := Hhln.out.2; have := HhDz.out; omega⟩ (ob.wide (by have := HhG.out.size; omega) (by simp [World.setCell])) ((hca.set (by omega) _).set (by omega) _) (grown_new (grown_new hGa (Nat.le_refl _) _) (Nat.le_refl _) _))
end Go.Proofs.Ytbajnecahojcfaa
