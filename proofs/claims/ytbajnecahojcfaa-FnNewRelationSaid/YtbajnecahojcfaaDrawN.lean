/- The draw of rows for a new relation. -/
import Derived.Test.YtbajnecahojcfaaDrawT
namespace Go.Proofs.Ytbajnecahojcfaa
open Go.RowKit Go.Sort
set_option maxHeartbeats 4000000
set_option maxRecDepth 100000
def RetNR (w : World) (e : Ending) (w' : World) : Prop := ∃ (n : Int) (m : List (List Int)) (A : Option Addr) (c : Nat), e = .returned (.tuple #[.int .i64 n, .slice A m.length c]) ∧ (-1 ≤ n ∧ n ≤ 6) ∧ m.length ≤ 8 ∧ (∀ r ∈ m, r.length ≤ 4) ∧ OwnM w' w.heap.size (.slice A m.length c) m ∧ Below w.heap.size w w'
theorem retNR_of {w w' : World} {e : Ending} {n : Int} {m : List (List Int)} {A : Option Addr} {c N : Nat} (hN : m.length = N) (he : e = .returned (.tuple #[.int .i64 n, .slice A N c])) (h1 : -1 ≤ n ∧ n ≤ 6) (h2 : N ≤ 8) (h3 : ∀ r ∈ m, r.length ≤ 4) (h4 : OwnM w' w.heap.size (.slice A N c) m) (h5 : Below w.heap.size w w') : RetNR w e w' := by
  subst hN
  exact ⟨n, m, A, c, he, h1, h2, h3, h4, h5⟩
theorem lit3_cut (w : World) (k : Nat) (hk : k ≤ 3) (a b c : Int) : OwnI (w.alloc (.cells #[.int .i64 a, .int .i64 b, .int .i64 c] 3)) w.heap.size (.slice (some ⟨w.heap.size, 0, none⟩) k 3) ([a, b, c].take k) := by
  refine ⟨by simp [hk], .inr ⟨w.heap.size, 3, #[.int .i64 a, .int .i64 b, .int .i64 c], by simp [hk], Nat.le_refl _, heap_alloc_new _ _, by simp [hk], by decide, rfl, ?_⟩⟩
  rw [Nat.mul_one]
  match k, hk with
  | 0, _ => rfl
  | 1, _ => rfl
  | 2, _ => rfl
  | 3, _ => rfl
theorem len_snoc (D : List (List Int)) (r : List Int) : (D ++ [r]).length = D.length + 1 := by simp
theorem mem_rowsB {m : List (List Int)} {r : List Int} {B : Nat} (h : ∀ x ∈ m, x.length ≤ B) (hr : r.length ≤ B) : ∀ x ∈ m ++ [r], x.length ≤ B := mem_rows h hr
theorem DrawNewRelation_s (v : Value) (bs : List UInt8) (w : World) (hl : bs.length ≤ 1048576) (hv : SlB w.heap.size w v bs) : Calls Try.prog 76 #[v] w (RetNR w) := by
  go_enter Try.func76, Try.ntmps76
  go_wp2_with (first
    | (go_at_call 100; ((with_reducible refine (l1New_s _ bs _ hl hv).mono ?_); rintro e w1 ⟨g, rfl, hgw, hc, hb1⟩; (have hB := Lib.hid hb1; clear hb1)))
    | (go_at_call 102; ((with_reducible refine (l1Below_s g 4 (by omega) _ hc).mono ?_); rintro e w2 ⟨x, rfl, hx, hc2, hg2⟩; (have hx3 : 0 ≤ x ∧ x ≤ 3 := (by omega); have hB2 := Lib.hid (hB.out.trans (below_of_grown hg2 hgw hB.out.size)); have hca := cur_alloc hc2 (.cells #[] 22); have hBa := Lib.hid (hB2.out.alloc hB2.out.size (.cells #[] 22)); have owna := Lib.hid (ownM_lit w2); have hgl := hc2.lt; clear hx hg2)))
    | (go_at_call 102; ((with_reducible refine (l1Below_s g 8 (by omega) _ hca).mono ?_); rintro e w3 ⟨y, rfl, hy, hc3, hg3⟩; (have hy7 : 0 ≤ y ∧ y ≤ 7 := (by omega); have hB3 := Lib.hid (hBa.out.trans (below_of_grown hg3 hgw hBa.out.size)); have own3 := Lib.hid (ownM_draw owna.out hg3 hgl); have hs3 : w2.heap.size ≤ w3.heap.size := Nat.le_trans (by simp) hg3.size; clear hy hg3))))
  obtain ⟨k, rfl⟩ := Int.eq_ofNat_of_zero_le hx3.1
  have hk3 : k ≤ 3 := by omega
  clear hca hx3
  go_loopw [6, 7] (fun u n wr => ∃ (D : List (List Int)) (A : Option Addr) (q : Nat) (z : Int), u = .slice A D.length q ∧ n = .int .i64 z ∧ 0 ≤ z ∧ (D.length : Int) + z ≤ 7 ∧ (∀ r ∈ D, r.length ≤ 4) ∧ OwnM wr w2.heap.size (.slice A D.length q) D ∧ Cur wr g ∧ Below w.heap.size w wr ∧ w2.heap.size ≤ wr.heap.size) (fun _ n _ => (intOf n).toNat)
  case atStart => exact ⟨[], some ⟨w2.heap.size, 0, none⟩, 0, y, rfl, rfl, hy7.1, by simp; omega, fun r hr => by simp at hr, own3.out, hc3, hB3.out, hs3⟩
  case round =>
    obtain ⟨D, A, q, z, rfl, rfl, hz, hDz, hDl, hown, hc, hBr, hs2⟩ := hrel
    have hz7 : z ≤ 7 := by omega
    have hgr := hc.lt
    have hw2 := hB2.out.size
    have hwr := hBr.size
    have hD7 : D.length ≤ 7 := by omega
    by_cases hp : 0 < z
    · have Hhown := Lib.hid hown; clear hown; have HhDl := Lib.hid hDl; clear hDl; have HhDz := Lib.hid hDz; clear hDz; have HhBr := Lib.hid hBr; clear hBr
      go_wp2_with (first
        | (go_at_call 101; ((with_reducible refine (l4Row_i g k 3 (by omega) (by omega) _ hc).mono ?_); rintro e w4 ⟨r, A2, c2, rfl, hrl, hrb, own4, hc4, hg4⟩; (have ownD := SegM.wide (segM_draw Hhown.out hg4 hgl) (Nat.le_refl _) (Nat.le_refl wr.heap.size); have hs4 := hg4.size; have hB4 := HhBr.out.trans (below_of_grown hg4 hgw HhBr.out.size); clear hrb)))
        | (at_builtin; go_must (refine wp_append_rowM rfl _ _ rfl w2.heap.size wr.heap.size _ D rfl ownD _ r own4 rfl (by omega) (by omega) (by omega) ?_; intro v5 w5 hown5 hb5 hgr5; obtain ⟨A5, q5, e5⟩ := MRow.opened (SegM.row hown5); subst e5)))
      go_roundw
      case rel => exact ⟨D ++ [r], A5, q5, z - 1, by rw [List.length_append]; rfl, by go_num, by omega, by have := HhDz.out; simp; omega, mem_rowsB HhDl.out (by omega), hown5, Cur.low hc4 hb5 hgl, hB4.trans (hb5.mono hw2), Nat.le_trans hs2 (Nat.le_trans hs4 (by have := hb5.size; omega))⟩
      case measure => simp [intOf] <;> omega
    · have hm4 : (k : Int) % 4 = (k : Int) := by omega
      have hk0 : (0 : Int) ≤ (k : Int) := by omega
      have hkc : (k : Int) ≤ 3 := by omega
      have Hown := Lib.hid hown
      have HDl := Lib.hid hDl
      have HB := Lib.hid hBr
      clear hown hDl hDz hBr
      go_wp2_with (first
        | (go_at_call 102; ((with_reducible refine (l1Below_s g 12 (by omega) _ hc).mono ?_); rintro e w4 ⟨j, rfl, hj, hc4, hg4⟩; (have own4 := Lib.hid (ownM_draw Hown.out hg4 hgl); have hB4 := Lib.hid (HB.out.trans (below_of_grown hg4 hgw HB.out.size)); have hs4 := Nat.le_trans hs2 hg4.size; have hw4 := Nat.le_trans hwr hg4.size; clear hj hg4)))
        | (go_at_call 101; ((with_reducible refine (l4Row_i g ((k : Int) + 1) 3 (by omega) (by omega) _ hc4).mono ?_); rintro e w5 ⟨r, A2, c2, rfl, hrl, hrb, own5, hc5, hg5⟩; (have ownD := SegM.wide (segM_draw own4.out hg5 hgl) (Nat.le_refl _) (Nat.le_refl w4.heap.size); have hs5 := hg5.size; have hB5 := hB4.out.trans (below_of_grown hg5 hgw hB4.out.size); clear hrb)))
        | (go_at_call 134; ((with_reducible refine (l1PickInt_s g (.slice (some ⟨w4.heap.size, 0, none⟩) 2 2) 0 [-1, 6] (by simp) (by simp) _ (cur_alloc hc4 _) (lit2_own _ _ _)).mono ?_); rintro e w7 ⟨p, rfl, hp7, hc7, hg7⟩; (have own7 := Lib.hid (ownM_draw (SegM.wide (SegM.alloc own4.out (.cells #[.int .i64 (-1), .int .i64 6] 3)) (Nat.le_refl _) (by simp)) hg7 hgl); have hB7 := Lib.hid ((hB4.out.alloc hB4.out.size (.cells #[.int .i64 (-1), .int .i64 6] 3)).trans (below_of_grown hg7 hgw (by have := hB4.out.size; simp; omega))))))
        | (at_builtin; go_must (first
          | (refine wp_append_rowM rfl _ _ rfl w2.heap.size w4.heap.size _ D rfl ownD _ r own5 rfl (by omega) (by omega) (by omega) ?_; intro v6 w6 hown6 hb6 hgr6; obtain ⟨A6, q6, e6⟩ := MRow.opened (SegM.row hown6); subst e6)
          | (refine wp_append_rowM rfl _ _ rfl w2.heap.size w4.heap.size _ D rfl (SegM.alloc own4.out (.cells #[.int .i64 100, .int .i64 0, .int .i64 0] 3)) _ ([100, 0, 0].take k) (lit3_cut w4 k hk3 100 0 0) (by first | rfl | simp [Act.eval]) (by omega) (by omega) (by simp) ?_; intro v6 w6 hown6 hb6 hgr6; obtain ⟨A6, q6, e6⟩ := MRow.opened (SegM.row hown6); subst e6))))
      · go_ret2
        exact retNR_of (m := D ++ [r]) (by simp) rfl (by omega) (by omega) (mem_rowsB HDl.out (by omega)) (SegM.wide (len_snoc D r ▸ hown6) hw2 (Nat.le_refl _)) (hB5.trans (hb6.mono hw2))
      · go_ret2
        have hBa4 := hB4.out.alloc hB4.out.size (.cells #[.int .i64 100, .int .i64 0, .int .i64 0] 3)
        exact retNR_of (m := D ++ [[100, 0, 0].take k]) (by simp) rfl (by omega) (by omega) (mem_rowsB HDl.out (by simp; omega)) (SegM.wide (len_snoc D ([100, 0, 0].take k) ▸ hown6) hw2 (Nat.le_refl _)) (hBa4.trans (hb6.mono hw2))
      · go_ret2
        exact retNR_of (m := D) rfl rfl (by simp at hp7; omega) (by omega) HDl.out (SegM.wide own7.out hw2 (Nat.le_refl _)) hB7.out
      · go_ret2
        exact retNR_of (m := D) rfl rfl (by omega) (by omega) HDl.out (SegM.wide own4.out hw2 (Nat.le_refl _)) hB4.out
end Go.Proofs.Ytbajnecahojcfaa
