/- Databases marked by the laws. -/
import Derived.Test.YtbajnecahojcfaaDbO
import Derived.Test.YtbajnecahojcfaaDecimal
namespace Go.Proofs.Ytbajnecahojcfaa
open Go.RowKit Go.Sort
set_option maxHeartbeats 4000000
set_option maxRecDepth 100000
theorem markText_l (m0 : Nat) (hm0 : m0 ≤ 9223372036854775807) (w : World) : Calls Try.prog 150 #[.int .i64 (m0 : Int)] w (fun e w' => ∃ S : List UInt8, e = .returned (.string ⟨S.toArray⟩) ∧ Below w.heap.size w w') := by
  by_cases hz : m0 = 0
  · subst hz
    go_enter Try.func150, Try.ntmps150
    go_wp2_with fail
    go_ret
    exact ⟨[109, 48], rfl, Below.refl _ _⟩
  have hln := digs_len20 (n := m0) (by omega)
  have d9 : ¬ (m0 : Int) ≤ 0 := by omega
  have d8 : ¬ m0 = 0 := hz
  go_enter Try.func150, Try.ntmps150
  go_wp2_with fail
  clear d9 d8
  go_loopw [0, 3] (fun a v wr => ∃ (m : Nat) (bs : List UInt8), m ≤ m0 ∧ a = (.int .i64 (m : Int)) ∧ v = .string ⟨bs.toArray⟩ ∧ bs.length ≤ 20 ∧ rem10 m ++ bs = digs m0 ∧ Below w.heap.size w wr) (fun a _ _ => (intOf a).toNat)
  case atStart => exact ⟨m0, [], Nat.le_refl _, rfl, rfl, by simp, by rw [rem10, if_neg (by omega), List.append_nil], Below.refl _ _⟩
  case round =>
    obtain ⟨m, bs, h2, rfl, rfl, hbl, hv, hb⟩ := hrel
    by_cases h0 : m = 0
    · subst h0
      have Hhv := Lib.hid hv; clear hv
      go_wp2_with fail
      go_ret
      exact ⟨109 :: bs, congrArg Ending.returned (str_app [109] _), hb⟩
    · have hbl2 := rem_len hv h0 hln
      have H2 := Lib.hid (rem_step hv h0)
      have Hhv := Lib.hid hv; clear hv
      have d7 : (0 : Int) < (m : Int) := by omega
      have d6 : 0 < m := by omega
      have q0 : 0 ≤ (m : Int) % 10 := by omega
      have q1 : (m : Int) % 10 ≤ 9 := by omega
      have own1 := World.ownsRow_lit (e := 5) (base := w.heap.size) (size := 1) wr #[.int .u8 (48 + (m : Int) % 10)] 1 hb.size (by decide) rfl
      rw [show #[Value.int .u8 (48 + (m : Int) % 10)].toList = [dch m].map byteV by simp [byteV, dch_val] <;> omega] at own1
      go_wp2_with ((with_reducible show wpList _ _ _ _ _ _); refine wp_bytes_string own1 rfl _ rfl rfl ?_)
      go_roundw
      case rel => exact ⟨m / 10, dch m :: bs, by omega, by go_num, str_app [dch m] bs, by simp; omega, H2.out, hb.alloc hb.size _⟩
      case measure => simp [intOf] <;> omega
/-- The table at i, and what its marking leaves. -/
theorem SegT.mark {w : World} {lo hi g n cap : Nat} {T : List Tab} (h : SegT w lo hi (.slice (some ⟨g, 0, none⟩) n cap) T) (i : Nat) (hi' : i < T.length) :
    ∃ A c l0 l1, lo ≤ g ∧ g < hi ∧ g < l0 ∧ l1 ≤ hi ∧ w.cell? ⟨g, i * 3, none⟩ = some (.string ⟨T[i].1.toArray⟩) ∧ w.cell? ⟨g, i * 3 + 1, none⟩ = some (.int .i64 T[i].2.1) ∧ w.cell? ⟨g, i * 3 + 2, none⟩ = some (.slice A T[i].2.2.length c) ∧ (∀ j, w.frozen? ⟨g, j, none⟩ = false) ∧
      (∀ (N : List UInt8) (a : Int), SegM ((w.setCell ⟨g, i * 3, none⟩ (.string ⟨N.toArray⟩)).setCell ⟨g, i * 3 + 1, none⟩ (.int .i64 a)) l0 l1 (.slice A T[i].2.2.length c) T[i].2.2) ∧
      (∀ (N : List UInt8) (a : Int) (w3 : World) (m' : List (List Int)), m'.length = T[i].2.2.length → SegM w3 l0 l1 (.slice A T[i].2.2.length c) m' → Within l0 l1 ((w.setCell ⟨g, i * 3, none⟩ (.string ⟨N.toArray⟩)).setCell ⟨g, i * 3 + 1, none⟩ (.int .i64 a)) w3 →
        SegT w3 lo hi (.slice (some ⟨g, 0, none⟩) n cap) (T.set i (N, a, m'))) := by
  obtain ⟨g2, cap2, cs, L, e, h1, h2, y, a1, a2, a3, a4, a5, h3⟩ := h
  simp only [Value.slice.injEq, Option.some.injEq, Addr.mk.injEq, and_true] at e
  obtain ⟨rfl, rfl, rfl⟩ := e
  obtain ⟨c0, c1, A, c, c2, hm⟩ := h3 i hi'
  have hL0 := L_mono a4 i
  have keep : ∀ {N : List UInt8} {a : Int} {lo hi : Nat} {v m}, SegM w lo hi v m → SegM ((w.setCell ⟨g, i * 3, none⟩ (.string ⟨N.toArray⟩)).setCell ⟨g, i * 3 + 1, none⟩ (.int .i64 a)) lo hi v m := fun {N a lo hi v m} h =>
    SegM.setO (SegM.setO h y (by decide) (by decide) _) (heap_setCell_same w g (i * 3) cs _ (.string ⟨N.toArray⟩) y) (by decide) (by decide) _
  refine ⟨A, c, L i, L (i + 1), a1, a2, by omega, a5 _, c0, c1, c2, fun j => frozen0 y, fun N a => keep hm, fun N a w3 m' hm' hs hw => ?_⟩
  have y1 := heap_setCell_same w g (i * 3) cs _ (.string ⟨N.toArray⟩) y
  have y2 := heap_setCell_same _ g (i * 3 + 1) _ _ (.int .i64 a) y1
  have y3 := blockW hw (by omega) y2
  have d0 : i * 3 < cs.size := by
    rw [cellAt y] at c0; exact (Array.getElem?_eq_some_iff.1 c0).1
  have d1 : i * 3 + 1 < cs.size := by
    rw [cellAt y] at c1; exact (Array.getElem?_eq_some_iff.1 c1).1
  refine ⟨g, cap, _, L, by rw [List.length_set], by rw [List.length_set]; exact h1, h2, y3, a1, a2, a3, a4, a5, fun j hj => ?_⟩
  rw [List.length_set] at hj
  by_cases hij : i = j
  · subst hij
    rw [List.getElem_set_self]
    refine ⟨?_, ?_, A, c, ?_, ?_⟩
    · rw [cellAt y3, Array.getElem?_setIfInBounds_ne (by omega), Array.getElem?_setIfInBounds_self_of_lt d0]
    · rw [cellAt y3, Array.getElem?_setIfInBounds_self_of_lt (by rw [Array.size_setIfInBounds]; omega)]
    · rw [cellAt y3, Array.getElem?_setIfInBounds_ne (by omega), Array.getElem?_setIfInBounds_ne (by omega), ← cellAt y, c2, hm']
    · show SegM w3 (L i) (L (i + 1)) (.slice A m'.length c) m'
      rw [hm']; exact hs
  · rw [List.getElem_set_ne hij]
    obtain ⟨e0, e1, A2, c', e2, hm2⟩ := h3 j hj
    have hdis : L (j + 1) ≤ L i ∨ L (i + 1) ≤ L j := by
      have mono : ∀ a b, a ≤ b → L a ≤ L b := fun a b hab => by
        induction hab with
        | refl => exact Nat.le_refl _
        | step _ ih => exact Nat.le_trans ih (a4 _)
      rcases Nat.lt_or_gt_of_ne hij with h | h
      · exact .inr (mono _ _ h)
      · exact .inl (mono _ _ h)
    refine ⟨?_, ?_, A2, c', ?_, (keep hm2).within hw hdis⟩
    · rw [cellAt y3, Array.getElem?_setIfInBounds_ne (by omega), Array.getElem?_setIfInBounds_ne (by omega), ← cellAt y, e0]
    · rw [cellAt y3, Array.getElem?_setIfInBounds_ne (by omega), Array.getElem?_setIfInBounds_ne (by omega), ← cellAt y, e1]
    · rw [cellAt y3, Array.getElem?_setIfInBounds_ne (by omega), Array.getElem?_setIfInBounds_ne (by omega), ← cellAt y, e2]
theorem Within.set {lo hi : Nat} {w w' : World} (h : Within lo hi w w') {g j : Nat} (h1 : lo ≤ g) (h2 : g < hi) (u : Value) : Within lo hi w (w'.setCell ⟨g, j, none⟩ u) := h.trans ((within_set w' g j u).wide h1 h2)
/-- What marking adds to the count. -/
def mkz (T : List Tab) : Nat := (T.map fun t => 2 + total t.2.2).sum
theorem mkz_take {T : List Tab} {k : Nat} (h : k < T.length) : mkz (T.take (k + 1)) = mkz (T.take k) + (2 + total T[k].2.2) := by
  unfold mkz
  rw [List.take_succ_eq_append_getElem h, List.map_append, List.sum_append]; simp
theorem mkz_take_le (T : List Tab) (k : Nat) : mkz (T.take k) ≤ mkz T := by
  have : mkz (T.take k) + mkz (T.drop k) = mkz T := by
    unfold mkz
    rw [← List.sum_append, ← List.map_append, List.take_append_drop]
  omega
theorem mkz_le : ∀ (T : List Tab), mkz T ≤ 2 * T.length + tsz T
  | [] => Nat.le_refl _
  | t :: T => by
    have e1 : mkz (t :: T) = 2 + total t.2.2 + mkz T := by simp [mkz]
    have e2 : tsz (t :: T) = tsz1 t + tsz T := by simp [tsz]
    have := mkz_le T
    unfold tsz1 at e2
    rw [e1, e2, List.length_cons]; omega
theorem markTabs_l (v : Value) (T : List Tab) (k0 lo hi : Nat) (w : World) (hv : SegT w lo hi v T) (hk : k0 + mkz T ≤ 1099511627776) (hT : T.length + tsz T ≤ 1048576) (hhi : hi ≤ w.heap.size) :
    Calls Try.prog 123 #[v, .int .i64 (k0 : Int)] w (fun e w' => e = .returned (.int .i64 ((k0 + mkz T : Nat) : Int)) ∧ Within lo hi w w') := by
  have hW : Within lo hi w w := Within.of_below (Below.refl _ _)
  obtain ⟨g, cap, cs, L, rfl, -⟩ := id hv
  go_enter Try.func123, Try.ntmps123
  go_wp2_with fail
  go_loopw [1, 5] (fun x i wr => ∃ (k : Nat) (S : List Tab), i = .int .i64 k ∧ x = .int .i64 ((k0 + mkz (T.take k) : Nat) : Int) ∧ k ≤ T.length ∧ SegT wr lo hi (.slice (some ⟨g, 0, none⟩) T.length cap) S ∧ S.length = T.length ∧ (∀ j, k ≤ j → S[j]? = T[j]?) ∧ Within lo hi w wr) (fun _ i _ => T.length - (intOf i).toNat)
  case atStart => exact ⟨0, T, rfl, by simp [mkz], Nat.zero_le _, hv, rfl, fun j _ => rfl, hW⟩
  case round =>
    clear hv hW
    obtain ⟨k, S, rfl, rfl, hkl, hs, hSl, hST, hw⟩ := hrel
    have hws := hw.size
    by_cases hlt : k < T.length
    · have g0 : (k : Int) < (T.length : Int) := by omega
      have hkS : k < S.length := by omega
      have hSk : S[k] = T[k] := by
        have := hST k (Nat.le_refl _)
        rw [List.getElem?_eq_getElem hkS, List.getElem?_eq_getElem hlt] at this
        exact Option.some.inj this
      have ht1 := mkz_take hlt
      have ht2 := mkz_take_le T (k + 1)
      have hsz := tsz_mem (List.getElem_mem hlt)
      unfold tsz1 at hsz
      obtain ⟨y, hy⟩ : ∃ y : Nat, k0 + mkz (T.take k) = y := ⟨_, rfl⟩
      have k1 := fun W => markText_l y (by omega) W
      rw [hy]
      obtain ⟨m, hm⟩ : ∃ m, T[k].2.2 = m := ⟨_, rfl⟩
      rw [hm] at ht1 hsz
      have r1 : y + 2 + total m ≤ 1099511627776 := by omega
      have r2 : m.length ≤ 1099511627776 := by omega
      have hx : y + 2 + total m = k0 + mkz (T.take (k + 1)) := by omega
      have Hhs := Lib.hid hs; clear hs; have HhST := Lib.hid hST; clear hST; have Hhw := Lib.hid hw; clear hw; have HhSk := Lib.hid hSk; clear hSk; have Hht1 := Lib.hid ht1; clear ht1; have Hht2 := Lib.hid ht2; clear ht2; have Hhsz := Lib.hid hsz; clear hsz; have Hhy := Lib.hid hy; clear hy; have Hk1 := Lib.hid k1; clear k1; have Hhm := Lib.hid hm; clear hm; have Hhws := Lib.hid hws; clear hws; have HhSl := Lib.hid hSl; clear hSl; have Hhx := Lib.hid hx; clear hx
      go_wp2_with (first
        | (go_at_call 150; ((with_reducible refine (Hk1.out _).mono ?_); rintro e w1 ⟨N, rfl, hb1⟩; (obtain ⟨A1, q1, l0, l1, p1, p2, p3, p4, c0, c1, c2, ff, fm, fc⟩ := SegT.mark (Hhs.out.below hb1) k hkS; rw [HhSk.out, Hhm.out] at c2 fm fc; rw [HhSk.out] at c0 c1; have f0 := ff (k * 3); have f1 := ff (k * 3 + 1); have k2 := fun a h1 h2 => markMat_law (.slice A1 m.length q1) m a l0 l1 _ (fm N ((y : Int) + 1)) h1 h2; have Hfc := Lib.hid fc; clear fc; have Hk2 := Lib.hid k2; clear k2; have Hfm := Lib.hid fm; clear fm; have Hp3 := Lib.hid p3; clear p3; have Hp4 := Lib.hid p4; clear p4; have Hp1 := Lib.hid p1; clear p1; have Hp2 := Lib.hid p2; clear p2; have Hff := Lib.hid ff; clear ff; have Hhb1 := Lib.hid hb1; clear hb1)))
        | (go_at_call 87; ((with_reducible refine (Hk2.out _ (by omega) (by omega)).mono ?_); rintro e w2 ⟨rfl, hm2, hw2⟩)))
      have hwA := Within.trans Hhw.out (Within.of_below Hhb1.out : Within lo hi wr w1)
      have hwB := (hwA.set (j := k * 3) Hp1.out Hp2.out (.string ⟨N.toArray⟩)).set (j := k * 3 + 1) Hp1.out Hp2.out (.int .i64 ((y : Int) + 1))
      have hwC := hwB.trans (hw2.wide (Nat.le_of_lt (Nat.lt_of_le_of_lt Hp1.out Hp3.out)) Hp4.out)
      go_roundw
      case rel => exact ⟨k + 1, _, by go_num, by rw [← Hhx.out]; go_num, by omega, Hfc.out N _ _ _ (mmarks_len _ _) hm2 hw2, by rw [List.length_set]; exact HhSl.out, fun j hj => by rw [List.getElem?_set_ne (by omega)]; exact HhST.out j (by omega), hwC⟩
      case measure => simp [intOf] <;> omega
    · obtain rfl : k = T.length := by omega
      have g0 : ¬ (T.length : Int) < (T.length : Int) := by omega
      rw [List.take_length]
      have Hhs := Lib.hid hs; clear hs; have HhSl := Lib.hid hSl; clear hSl; have HhST := Lib.hid hST; clear hST; have Hhw := Lib.hid hw; clear hw; have Hhws := Lib.hid hws; clear hws
      go_wp2_with fail
      go_ret
      exact ⟨rfl, Hhw.out⟩
theorem markDb_law (v : Value) (T : List Tab) (k : Int) (lo hi : Nat) (w : World) (hv : SegT w lo hi v T) (hk : 0 ≤ k ∧ k + mkz T ≤ 1099511627776) (hT : T.length + tsz T ≤ 1048576) (hhi : hi ≤ w.heap.size) :
    Calls Try.prog 63 #[.agg #[v], .int .i64 k] w (fun e w' => e = .returned (.int .i64 (k + mkz T)) ∧ Within lo hi w w') := by
  obtain ⟨n, rfl⟩ := Int.eq_ofNat_of_zero_le hk.1
  have k1 := markTabs_l v T n lo hi _ (hv.alloc (.cells #[v] 52)) (by omega) hT (Nat.le_trans hhi (by simp))
  have hg : Within lo hi w (w.alloc (.cells #[v] 52)) := Within.of_below ((Below.refl _ _).alloc (Nat.le_refl _) _)
  obtain ⟨A, c, e⟩ := TRow.opened hv.row
  subst e
  have Hk1 := Lib.hid k1; clear k1; have Hhv := Lib.hid hv; clear hv; have Hhg := Lib.hid hg; clear hg
  go_enter Try.func63, Try.ntmps63
  go_wp2_with (go_at_call 123; ((with_reducible refine (Hk1.out).mono ?_); rintro e w1 ⟨rfl, hg1⟩))
  go_ret
  exact ⟨ret_int (by omega), Hhg.out.trans hg1⟩
end Go.Proofs.Ytbajnecahojcfaa
