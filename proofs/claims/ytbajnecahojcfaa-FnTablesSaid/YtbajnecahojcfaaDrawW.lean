/- The draw of any database. -/
import Derived.Test.YtbajnecahojcfaaDrawQ
namespace Go.Proofs.Ytbajnecahojcfaa
open Go.RowKit Go.Sort
set_option maxHeartbeats 4000000
set_option maxRecDepth 100000
theorem DRow.take {w : World} {lo n c : Nat} {A : Option Addr} {T : List Tab} (h : DRow w lo (.slice A n c) T) (k : Nat) (hk : k ≤ T.length) : DRow w lo (.slice A k c) (T.take k) := by
  obtain ⟨A9, c9, e9, h2, h3, h4, h5⟩ := h
  simp only [Value.slice.injEq] at e9
  obtain ⟨rfl, rfl, rfl⟩ := e9
  have hl : (T.take k).length = k := by rw [List.length_take]; omega
  refine ⟨A, c, by rw [hl], by omega, h3, h4, fun i hi => ?_⟩
  rw [hl] at hi
  have := h5 i (by omega)
  rwa [List.getElem_take]
/-- A database of any kind that a draw hands back. -/
def DbH (g : Nat) (w : World) (e : Ending) (w' : World) : Prop := ∃ (T : List Tab) (A : Option Addr) (c : Nat), e = .returned (.agg #[.slice A T.length c]) ∧ T.length ≤ 6 ∧ (∀ t ∈ T, TabG t) ∧ DRow w' w.heap.size (.slice A T.length c) T ∧ Cur w' g ∧ w.grownBy w' (some g)
theorem dbH_of {g lo n : Nat} {w w' : World} {e : Ending} {T : List Tab} {A : Option Addr} {c : Nat} (hn : n = T.length) (he : e = .returned (.agg #[.slice A n c])) (h1 : T.length ≤ 6) (h2 : ∀ t ∈ T, TabG t) (h3 : DRow w' lo (.slice A n c) T) (hl : w.heap.size ≤ lo) (hc : Cur w' g) (hG : w.grownBy w' (some g)) : DbH g w e w' := by
  subst hn
  exact ⟨T, A, c, he, h1, h2, h3.mono hl, hc, hG⟩
theorem OwnD.setRel {w : World} {lo lr g n cap : Nat} {T : List Tab} (h : OwnD w lo lr (.slice (some ⟨g, 0, none⟩) n cap) T) (k : Nat) (hk : k < T.length) (ar : Int) {m : List (List Int)} {u : Value} (hu : SegM w lr w.heap.size u m) {cs : Array Value} {fr : Nat × Nat} (y : w.heap[g]? = some (.cells cs 60 fr)) :
    OwnD ((w.setCell ⟨g, k * 3 + 1, none⟩ (.int .i64 ar)).setCell ⟨g, k * 3 + 2, none⟩ u) lo lr (.slice (some ⟨g, 0, none⟩) n cap) (T.set k (T[k].1, ar, m)) := by
  have h1 := OwnD.setAr h k hk ar
  have h2 := OwnD.setRows h1 k (by rw [List.length_set]; exact hk) (segM_setT hu y (by decide) (.int .i64 ar))
  rw [List.set_set] at h2
  simpa using h2
def namesD : List (List UInt8) := [[], [82], [97, 98, 99, 100, 101], [97], [122]]
theorem namesD_at : ∀ k (h : k < namesD.length), (#[.string ⟨#[]⟩, .string ⟨#[82]⟩, .string ⟨#[97, 98, 99, 100, 101]⟩, .string ⟨#[97]⟩, .string ⟨#[122]⟩] : Array Value)[k]? = some (.string ⟨namesD[k].toArray⟩)
  | 0, _ => rfl
  | 1, _ => rfl
  | 2, _ => rfl
  | 3, _ => rfl
  | 4, _ => rfl
  | k + 5, h => absurd h (by simp [namesD])
theorem namesD_len : ∀ x ∈ namesD, x.length ≤ 5 := by decide
theorem l6Any_s (g : Nat) (w : World) (hc : Cur w g) : Calls Try.prog 112 #[.pointer (some ⟨g, 0, none⟩)] w (DbH g w) := by
  have hlt := hc.lt
  have y0 := heap_alloc_new w (.cells #[.slice none 0 0] 52)
  have hG := World.grownBy_alloc w (.cells #[.slice none 0 0] 52) (some g)
  replace hc := cur_alloc hc (.cells #[.slice none 0 0] 52)
  have hsz0 : (w.alloc (.cells #[.slice none 0 0] 52)).heap.size = w.heap.size + 1 := by simp
  have Hhc := Lib.hid hc; clear hc; have HhG := Lib.hid hG; clear hG; have Hy0 := Lib.hid y0; clear y0; have Hhsz0 := Lib.hid hsz0; clear hsz0
  go_enter Try.func112, Try.ntmps112
  go_wp2_with (go_at_call 146; ((with_reducible refine (l6Db_s g _ Hhc.out).mono ?_); rintro e w1 ⟨T, A, c, rfl, hT5, hTg, own, hc1, hg1⟩; (have hG1 := Lib.hid (grown_trans HhG.out hg1); have z0 := Lib.hid (blockG hg1 (by omega) Hy0.out); have Hown := Lib.hid own; have hs1 := hG1.out.size; clear hg1 own)))
  have own := Hown.out
  rw [hT5, Hhsz0.out] at own
  have hl0 := lt_of_heap z0.out
  obtain ⟨g2, q2, e2, hq5, hqm, hg2l, hg2u, cs, yg, hcs⟩ := OwnD.shape own (by omega)
  rw [hT5] at e2 hcs hq5
  simp only [Value.slice.injEq, true_and] at e2
  obtain ⟨rfl, rfl⟩ := e2
  have x4 := heap_alloc_new w1 (.cells #[.slice (some ⟨g2, 0, none⟩) 5 c] 52)
  have x0 := heapN z0.out (.cells #[.slice (some ⟨g2, 0, none⟩) 5 c] 52)
  have xg := heapN yg (.cells #[.slice (some ⟨g2, 0, none⟩) 5 c] 52)
  have xo := own.alloc (.cells #[.slice (some ⟨g2, 0, none⟩) 5 c] 52)
  have xc := cur_alloc hc1 (.cells #[.slice (some ⟨g2, 0, none⟩) 5 c] 52)
  have xG := grown_trans hG1.out (World.grownBy_alloc w1 (.cells #[.slice (some ⟨g2, 0, none⟩) 5 c] 52) (some g))
  generalize (w1.alloc (.cells #[.slice (some ⟨g2, 0, none⟩) 5 c] 52)) = w2 at *
  generalize w1.heap.size = P at *
  clear own Hown yg z0 hG1 hc1
  have Hx0 := Lib.hid x0; clear x0; have Hxg := Lib.hid xg; clear xg; have Hxo := Lib.hid xo; clear xo; have Hxc := Lib.hid xc; clear xc; have HxG := Lib.hid xG; clear xG; have Hx4 := Lib.hid x4; clear x4; have HhTg := Lib.hid hTg; clear hTg
  go_wp2_with (first
    | (go_at_call 102; ((with_reducible refine (l1Below_s g 5 (by omega) _ Hxc.out).mono ?_); rintro e w3 ⟨z, rfl, hz, hc3, hg3⟩; (obtain ⟨k, rfl⟩ := Int.eq_ofNat_of_zero_le hz.1; have hk5 : k < 5 := (by omega); clear hz)))
    | (go_at_call 102; ((with_reducible refine (l1Below_s g 14 (by omega) _ hc3).mono ?_); rintro e w4 ⟨j, rfl, hj, hc4, hg4⟩; (have hg34 := grown_trans hg3 hg4; have v4 := blockG hg34 (by omega) Hx4.out; have v0 := Lib.hid (blockG hg34 (by omega) Hx0.out); have vg := blockG hg34 (by omega) Hxg.out; have vo := Lib.hid (OwnD.draw Hxo.out hg34 (by omega) (by omega)); have vG := Lib.hid (grown_trans HxG.out hg34); have v4c := cellAt v4 0; have v4f := frozen0 (j := 0) v4; have v0f := frozen0 (j := 0) v0.out; have v0c := cellAt v0.out 0; clear hg3 hg4 hg34 hj))))
  · -- a name
    have hdb : Below w4.heap.size w4 w4.drew := (Below.refl _ _).drew
    have hda : Below w4.heap.size w4 (w4.alloc (.cells #[.string ⟨#[]⟩, .string ⟨#[82]⟩, .string ⟨#[97, 98, 99, 100, 101]⟩, .string ⟨#[97]⟩, .string ⟨#[122]⟩] 9)).drew := ((Below.refl _ _).alloc (Nat.le_refl _) _).drew
    have d4c := cellAt (blockB hdb v4) 0
    have a4 := blockB hda v4
    have a4c := cellAt a4 0
    have a0 := Lib.hid (blockB hda v0.out)
    have ag := Lib.hid (blockB hda vg)
    have ao := Lib.hid (OwnD.below vo.out hda)
    have aG := Lib.hid (grown_trans vG.out (grown_of_below hda (some g)))
    have hca : Cur (w4.alloc (.cells #[.string ⟨#[]⟩, .string ⟨#[82]⟩, .string ⟨#[97, 98, 99, 100, 101]⟩, .string ⟨#[97]⟩, .string ⟨#[122]⟩] 9)).drew g := hc4.below hda
    have hsa : w4.heap.size < (w4.alloc (.cells #[.string ⟨#[]⟩, .string ⟨#[82]⟩, .string ⟨#[97, 98, 99, 100, 101]⟩, .string ⟨#[97]⟩, .string ⟨#[122]⟩] 9)).drew.heap.size := by show w4.heap.size < (w4.alloc (.cells #[.string ⟨#[]⟩, .string ⟨#[82]⟩, .string ⟨#[97, 98, 99, 100, 101]⟩, .string ⟨#[97]⟩, .string ⟨#[122]⟩] 9)).heap.size; simp
    have hgl := hc4.lt
    have hcell : ∀ i (hi : i < namesD.length), (w4.alloc (.cells #[.string ⟨#[]⟩, .string ⟨#[82]⟩, .string ⟨#[97, 98, 99, 100, 101]⟩, .string ⟨#[97]⟩, .string ⟨#[122]⟩] 9)).drew.cell? ⟨w4.heap.size, i, none⟩ = some (.string ⟨namesD[i].toArray⟩) := fun i hi => (cellAt (show (w4.alloc (.cells #[.string ⟨#[]⟩, .string ⟨#[82]⟩, .string ⟨#[97, 98, 99, 100, 101]⟩, .string ⟨#[97]⟩, .string ⟨#[122]⟩] 9)).drew.heap[w4.heap.size]? = some (.cells #[.string ⟨#[]⟩, .string ⟨#[82]⟩, .string ⟨#[97, 98, 99, 100, 101]⟩, .string ⟨#[97]⟩, .string ⟨#[122]⟩] 9 (0, 0)) from heap_alloc_new _ _) i).trans (namesD_at i hi)
    have hne4 : w4.heap.size ≠ g := by omega
    have hgg : g2 ≠ g := by omega
    have hk5' : (k : Int) < 5 := by omega
    have hk0' : 0 ≤ (k : Int) := by omega
    have kp : Calls Try.prog 113 #[.pointer (some ⟨g, 0, none⟩), .slice (some ⟨w4.heap.size, 0, none⟩) 5 5] (w4.alloc (.cells #[.string ⟨#[]⟩, .string ⟨#[82]⟩, .string ⟨#[97, 98, 99, 100, 101]⟩, .string ⟨#[97]⟩, .string ⟨#[122]⟩] 9)).drew (fun e w' => ∃ x : List UInt8, e = .returned (.string ⟨x.toArray⟩) ∧ x ∈ namesD ∧ Cur w' g ∧ (w4.alloc (.cells #[.string ⟨#[]⟩, .string ⟨#[82]⟩, .string ⟨#[97, 98, 99, 100, 101]⟩, .string ⟨#[97]⟩, .string ⟨#[122]⟩] 9)).drew.grownBy w' (some g)) := l1Pick_s g w4.heap.size 5 namesD (by decide) (by decide) (by decide) _ hca hne4 hsa hcell
    have Hhcell := Lib.hid hcell; clear hcell; have Hkp := Lib.hid kp; clear kp
    go_region_law (go_simp; (go_at_call 113; ((with_reducible refine (Hkp.out).mono ?_); rintro e w5 ⟨N, rfl, hN, hc5, hg5⟩; (have b4 := blockG hg5 (by omega) a4; have b4c := cellAt b4 0; have b0 := Lib.hid (blockG hg5 (by omega) a0.out); have bg := blockG hg5 hgg ag.out; have bf := frozen0 (j := k * 3) bg; have bc := (cellAt bg (k * 3)).trans (Array.getElem?_eq_getElem (show k * 3 < cs.size by omega)); have bo := Lib.hid (OwnD.draw ao.out hg5 (by omega) (by omega)); have bG := Lib.hid (grown_trans aG.out hg5); clear hg5))))
    all_goals
      have hkT : k < T.length := by omega
      have hoT := Lib.hid (OwnD.setName bo.out k hkT N)
      have h0s := setO (g := g2) (j := k * 3) (show w.heap.size ≠ g2 by omega) b0.out (.string ⟨N.toArray⟩)
      have h4s := setO (g := g2) (j := k * 3) (show P ≠ g2 by omega) b4 (.string ⟨N.toArray⟩)
      have h0f := frozen0 (j := 0) h0s
      have h0c := cellAt h0s 0
      have h4c := cellAt h4s 0
      go_wp2_with fail
      refine bodyPost_ret (res_db rfl rfl (setS1 h0s _)) rfl (dbH_of (n := 5) (T := T.set k (N, T[k].2)) (by rw [List.length_set, hT5]) rfl (by rw [List.length_set]; omega) ?_ (OwnD.drow (OwnD.setO hoT.out h0s (by decide) _) (Nat.le_refl _)) (by omega) ((hc5.set (by omega) _).set (by omega) _) (grown_new (grown_new bG.out (by omega) _) (Nat.le_refl _) _))
      intro t ht
      rcases List.mem_or_eq_of_mem_set ht with ht | rfl
      · exact HhTg.out t ht
      · exact ⟨namesD_len N hN, (HhTg.out _ (List.getElem_mem hkT)).2⟩
  · -- a relation
    have hdb : Below w4.heap.size w4 w4.drew := (Below.refl _ _).drew
    have d4 := blockB hdb v4
    have d4c := cellAt d4 0
    have d0 := Lib.hid (blockB hdb v0.out)
    have dg := Lib.hid (blockB hdb vg)
    have do_ := Lib.hid (OwnD.below vo.out hdb)
    have dG := Lib.hid (grown_trans vG.out (grown_of_below hdb (some g)))
    have hcd : Cur w4.drew g := hc4.below hdb
    have hgg : g2 ≠ g := by omega
    have hk5' : (k : Int) < 5 := by omega
    have hk0' : 0 ≤ (k : Int) := by omega
    have hsd : w.heap.size + 1 ≤ w4.drew.heap.size := by have := vG.out.size; have := hc4.lt; have h := lt_of_heap v4; show w.heap.size + 1 ≤ w4.heap.size; omega
    go_region_law (go_simp; (go_at_call 114; ((with_reducible refine (l5Any_s g _ hcd).mono ?_); rintro e w5 ⟨a, m, A9, c9, rfl, hany, own9, hc5, hg5⟩; (have b4 := blockG hg5 (by omega) d4; have b4c := cellAt b4 0; have b0 := Lib.hid (blockG hg5 (by omega) d0.out); have bg := blockG hg5 hgg dg.out; have bf1 := frozen0 (j := k * 3 + 1) bg; have bc1 := (cellAt bg (k * 3 + 1)).trans (Array.getElem?_eq_getElem (show k * 3 + 1 < cs.size by omega)); have bf2 := frozen0 (j := k * 3 + 2) bg; have bc2 := (cellAt bg (k * 3 + 2)).trans (Array.getElem?_eq_getElem (show k * 3 + 2 < cs.size by omega)); have bf3 := frozen0 (j := k * 3 + 1 + 1) bg; have bc3 : w5.cell? ⟨g2, k * 3 + 1 + 1, none⟩ = _ := bc2; have bo := Lib.hid (OwnD.draw do_.out hg5 (by omega) (by omega)); have bG := Lib.hid (grown_trans dG.out hg5); have hr9 := Lib.hid (SegM.wide own9 hsd (Nat.le_refl _)); have Hany := Lib.hid hany; clear hg5 hany own9))))
    all_goals
      have hkT : k < T.length := by omega
      have hoT := Lib.hid (OwnD.setRel bo.out k hkT a hr9.out bg)
      have h0s := setO (g := g2) (j := k * 3 + 2) (show w.heap.size ≠ g2 by omega) (setO (g := g2) (j := k * 3 + 1) (show w.heap.size ≠ g2 by omega) b0.out (.int .i64 a)) (.slice A9 m.length c9)
      have h4s := setO (g := g2) (j := k * 3 + 2) (show P ≠ g2 by omega) (setO (g := g2) (j := k * 3 + 1) (show P ≠ g2 by omega) b4 (.int .i64 a)) (.slice A9 m.length c9)
      have h0f := frozen0 (j := 0) h0s
      have h0c := cellAt h0s 0
      have h4c := cellAt h4s 0
      go_wp2_with fail
      refine bodyPost_ret (res_db rfl rfl (setS1 h0s _)) rfl (dbH_of (n := 5) (T := T.set k (T[k].1, a, m)) (by rw [List.length_set, hT5]) rfl (by rw [List.length_set]; omega) ?_ (OwnD.drow (OwnD.setO hoT.out h0s (by decide) _) (Nat.le_refl _)) (by omega) (((hc5.set (by omega) _).set (by omega) _).set (by omega) _) (grown_new (grown_new (grown_new bG.out (by omega) _) (by omega) _) (Nat.le_refl _) _))
      intro t ht
      rcases List.mem_or_eq_of_mem_set ht with ht | rfl
      · exact HhTg.out t ht
      · exact ⟨(HhTg.out _ (List.getElem_mem hkT)).1, by have := Hany.out.2.1; show m.length ≤ 9; omega, Hany.out.2.2⟩
  · -- a table twice
    have hkT : k < T.length := by omega
    have vq := vo.out
    rw [← hT5] at vq
    obtain ⟨b', off', e', c0, c1, A1, q1, c2, hm⟩ := DRow.at (OwnD.drow vq (Nat.le_refl _)) k hkT
    simp only [Option.some.injEq, Addr.mk.injEq, and_true] at e'
    obtain ⟨rfl, rfl⟩ := e'
    have hTk := HhTg.out _ (List.getElem_mem hkT)
    obtain ⟨t, ht⟩ : ∃ t, T[k] = t := ⟨_, rfl⟩
    rw [ht] at c0 c1 c2 hm hTk
    obtain ⟨M, a, m⟩ := t
    simp only [Nat.zero_add] at c0 c1 c2 hm
    replace c0 : w4.cell? ⟨g2, k * 3, none⟩ = some (.string ⟨M.toArray⟩) := c0
    have hdb : Below w4.heap.size w4 w4.drew := (Below.refl _ _).drew
    have hda : Below w4.heap.size w4 (w4.alloc (.cells #[.string ⟨M.toArray⟩, .int .i64 a, .slice A1 m.length q1] 60)).drew := ((Below.refl _ _).alloc (Nat.le_refl _) _).drew
    have d4c := cellAt (blockB hdb v4) 0
    have f0 := cellB hdb c0
    have f1 := cellB hdb c1
    have f2 := cellB hdb c2
    have a4 := blockB hda v4
    have a4c := cellAt a4 0
    have a0 := Lib.hid (blockB hda v0.out)
    have ao := Lib.hid (OwnD.below vo.out hda)
    have aG := Lib.hid (grown_trans vG.out (grown_of_below hda (some g)))
    have hca : Cur (w4.alloc (.cells #[.string ⟨M.toArray⟩, .int .i64 a, .slice A1 m.length q1] 60)).drew g := hc4.below hda
    have hk5' : (k : Int) < 5 := by omega
    have hk0' : 0 ≤ (k : Int) := by omega
    have srca := Lib.hid (SrcD.one (w := (w4.alloc (.cells #[.string ⟨M.toArray⟩, .int .i64 a, .slice A1 m.length q1] 60)).drew) (lr := w.heap.size + 1) (g := w4.heap.size) (cap := 1) (t := (M, a, m)) (heap_alloc_new w4 _) (SegM.wide (SegM.below hm hda) (Nat.le_refl _) hda.size))
    have hbase : w.heap.size + 1 ≤ (w4.alloc (.cells #[.string ⟨M.toArray⟩, .int .i64 a, .slice A1 m.length q1] 60)).drew.heap.size := by have := hda.size; have := lt_of_heap v4; omega
    have hn6 : T.length + [(M, a, m)].length ≤ 1099511627776 := by simp [hT5]
    clear ht
    have Hhm := Lib.hid hm; clear hm; have Hvq := Lib.hid vq; clear vq; have HhTk := Lib.hid hTk; clear hTk; have Hhn6 := Lib.hid hn6; clear hn6
    go_region_law (refine step_append_tab rfl (.tmp 33) (.tmp 39) rfl (w.heap.size + 1) (w.heap.size + 1) (.slice (some ⟨g2, 0, none⟩) 5 c) T ?_ ao.out (.slice (some ⟨w4.heap.size, 0, none⟩) 1 1) [(M, a, m)] ?_ srca.out Hhn6.out hbase ?_; (first | rfl | (simp [Act.eval, Act.put])); (first | rfl | (simp [Act.eval, Act.put])); intro v5 w5 own5 hgr5 hb5; obtain ⟨A6, q6, e6, -⟩ := OwnD.opened own5; rw [show (T ++ [(M, a, m)]).length = 6 by simp [hT5]] at e6; subst e6; have b4 := OwnD.kept ao.out hgr5 a4 (by decide); have b4c := cellAt b4 0; have b4f := frozen0 (j := 0) b4; have b0 := blockL (k := w.heap.size) hb5 (by omega) a0.out; have bcur := Cur.low hca hb5 (by omega); have bG := grown_low aG.out hb5 (by omega))
    all_goals
      have h0s := setO (g := P) (j := 0) (show w.heap.size ≠ P by omega) b0 (.slice A6 6 q6)
      have h0f := frozen0 (j := 0) h0s
      have h0c := cellAt h0s 0
      go_wp2_with fail
      refine bodyPost_ret (res_db rfl rfl (setS1 h0s _)) rfl (dbH_of (n := 6) (T := T ++ [(M, a, m)]) (by simp [hT5]) rfl (by simp [hT5]) (tabs_push HhTg.out HhTk.out) (OwnD.drow (OwnD.setO (OwnD.setO own5 b4 (by decide) _) h0s (by decide) _) (Nat.le_refl _)) (by omega) ((bcur.set (by omega) _).set (by omega) _) (grown_new (grown_new bG (by omega) _) (Nat.le_refl _) _))
  · refine bodyPost_ret (res_db rfl rfl (setS1 (setO (g := P) (j := 0) (show w.heap.size ≠ P by omega) v0.out _) _)) rfl (dbH_of (n := k) (T := T.take k) (by rw [List.length_take]; omega) rfl (by rw [List.length_take]; omega) (fun t ht => HhTg.out t (List.mem_of_mem_take ht)) (DRow.take (OwnD.drow (OwnD.setO (OwnD.setO vo.out v4 (by decide) _) (setO (g := P) (j := 0) (show w.heap.size ≠ P by omega) v0.out _) (by decide) _) (Nat.le_refl _)) k (by omega)) (by omega) ((hc4.set (by omega) _).set (by omega) _) (grown_new (grown_new vG.out (by omega) _) (Nat.le_refl _) _))
  · refine bodyPost_ret (res_db rfl rfl (setS1 v0.out _)) rfl (dbH_of (n := 5) (T := T) hT5.symm rfl (by omega) HhTg.out (OwnD.drow (OwnD.setO vo.out v0.out (by decide) _) (Nat.le_refl _)) (by omega) (hc4.set (by omega) _) (grown_new vG.out (Nat.le_refl _) _))
end Go.Proofs.Ytbajnecahojcfaa
