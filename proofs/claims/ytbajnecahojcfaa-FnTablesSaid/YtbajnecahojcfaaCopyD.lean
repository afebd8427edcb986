/- Copies of databases, both. -/
import Derived.Test.YtbajnecahojcfaaOwnD
import Derived.Test.YtbajnecahojcfaaLkp
namespace Go.Proofs.Ytbajnecahojcfaa
open Go.RowKit Go.Sort
set_option maxHeartbeats 4000000
set_option maxRecDepth 100000
def RetD (T : List Tab) (w : World) (e : Ending) (w' : World) : Prop := ∃ (A : Option Addr) (c : Nat), e = .returned (.agg #[.slice A T.length c]) ∧ OwnD w' w.heap.size w.heap.size (.slice A T.length c) T ∧ Below w.heap.size w w'
theorem take_snoc {T : List Tab} {k : Nat} (h : k < T.length) : T.take k ++ [T[k]] = T.take (k + 1) := (List.take_succ_eq_append_getElem h).symm
theorem copyDatabase_i (v : Value) (T : List Tab) (hl : T.length + tsz T ≤ 1048576) (w : World) (hv : TRow w v T) : Calls Try.prog 115 #[.agg #[v]] w (RetD T w) := by
  have y0 := heapN (heapN (heap_alloc_new w (.cells #[v] 52)) (.cells #[.slice none 0 0] 52)) (.cells #[.slice none 0 0] 52)
  have y1 := heapN (heap_new1 w (.cells #[v] 52) (.cells #[.slice none 0 0] 52)) (.cells #[.slice none 0 0] 52)
  have y2 := heap_new2 w (.cells #[v] 52) (.cells #[.slice none 0 0] 52) (.cells #[.slice none 0 0] 52)
  have hB : Below w.heap.size w (((w.alloc (.cells #[v] 52)).alloc (.cells #[.slice none 0 0] 52)).alloc (.cells #[.slice none 0 0] 52)) := (((Below.refl _ _).alloc (Nat.le_refl _) _).alloc (by simp) _).alloc (by simp; omega) _
  obtain ⟨A, c, rfl⟩ := TRow.opened hv
  have Hhv := Lib.hid hv; clear hv; have Hy0 := Lib.hid y0; clear y0; have Hy1 := Lib.hid y1; clear y1; have Hy2 := Lib.hid y2; clear y2; have HhB := Lib.hid hB; clear hB
  go_enter Try.func115, Try.ntmps115
  go_wp2_with fail
  generalize (((w.alloc (.cells #[.slice A T.length c] 52)).alloc (.cells #[.slice none 0 0] 52)).alloc (.cells #[.slice none 0 0] 52)) = w0 at *
  go_loopw [9] (fun i wr => ∃ (k : Nat) (D : List Tab) (A' : Option Addr) (q' : Nat), i = .int .i64 k ∧ k ≤ T.length ∧ D = T.take k ∧ wr.heap[w.heap.size]? = some (.cells #[.slice A T.length c] 52 (0, 0)) ∧ wr.heap[w.heap.size + 1]? = some (.cells #[.slice none 0 0] 52 (0, 0)) ∧
    wr.heap[w.heap.size + 2]? = some (.cells #[.slice A' D.length q'] 52 (0, 0)) ∧ OwnD wr (w.heap.size + 3) w.heap.size (.slice A' D.length q') D ∧ Below w.heap.size w wr) (fun i _ => T.length - (intOf i).toNat)
  case atStart => exact ⟨0, [], none, 0, rfl, Nat.zero_le _, rfl, Hy0.out, Hy1.out, Hy2.out, OwnD.nil _ _ _, HhB.out⟩
  case round =>
    obtain ⟨k, D, A', q', rfl, hk, hD, y0, y1, y2, hown, hb⟩ := hrel
    have hl2 := lt_of_heap y2
    by_cases hlt : k < T.length
    · have g0 : (k : Int) < (T.length : Int) := by omega
      obtain ⟨b, off, rfl, c0, c1, A1, q1, c2, hm⟩ := TRow.at (Hhv.out.below hb) k hlt
      have hsz := tsz_mem (List.getElem_mem hlt)
      have hn : D ++ [T[k]] = T.take (k + 1) := by rw [hD]; exact take_snoc hlt
      have hDl : D.length = k := by rw [hD]; simp; omega
      obtain ⟨t, ht⟩ : ∃ t, T[k] = t := ⟨_, rfl⟩
      rw [ht] at c0 c1 c2 hm hsz hn
      obtain ⟨M, ar, m⟩ := t
      unfold tsz1 at hsz
      simp only at c0 c1 c2 hm hsz hn
      replace c0 : wr.cell? ⟨b, off + k * 3, none⟩ = some (.string ⟨M.toArray⟩) := c0
      have hml : m.length + total m ≤ 1099511627775 := by omega
      have e0 := cellAt (heap_alloc_new wr (.cells #[.string ⟨M.toArray⟩, .int .i64 ar, .slice A1 m.length q1] 60)) 0
      have e1 := cellAt (heap_alloc_new wr (.cells #[.string ⟨M.toArray⟩, .int .i64 ar, .slice A1 m.length q1] 60)) 1
      have e2 := cellAt (heap_alloc_new wr (.cells #[.string ⟨M.toArray⟩, .int .i64 ar, .slice A1 m.length q1] 60)) 2
      have k3 := fun W h => copyRelation_i (.slice A1 m.length q1) ar m W h hml
      have Hl2 := Lib.hid hl2
      clear hl2 hk
      have Hhm := Lib.hid hm; clear hm; have Hht := Lib.hid ht; clear ht; have Hhsz := Lib.hid hsz; clear hsz; have Hhn := Lib.hid hn; clear hn; have HhD := Lib.hid hD; clear hD; have HhDl := Lib.hid hDl; clear hDl; have Hy0 := Lib.hid y0; clear y0; have Hy1 := Lib.hid y1; clear y1; have Hy2 := Lib.hid y2; clear y2; have Hhown := Lib.hid hown; clear hown; have Hk3 := Lib.hid k3; clear k3; have Hhml := Lib.hid hml; clear hml
      go_wp2_with fail
      have hl2 := Hl2.out
      have hdb : Below wr.heap.size wr (wr.alloc (.cells #[.string ⟨M.toArray⟩, .int .i64 ar, .slice A1 m.length q1] 60)).drew := ((Below.refl _ _).alloc (Nat.le_refl _) _).drew
      have y0d := blockB hdb Hy0.out
      have y1d := blockB hdb Hy1.out
      have y2d := blockB hdb Hy2.out
      have u0d := cellAt y2d 0
      have x0d : (wr.alloc (.cells #[.string ⟨M.toArray⟩, .int .i64 ar, .slice A1 m.length q1] 60)).drew.heap[wr.heap.size]? = some (.cells #[.string ⟨M.toArray⟩, .int .i64 ar, .slice A1 m.length q1] 60 (0, 0)) := heap_alloc_new wr _
      have e0d := cellAt x0d 0
      have e1d := cellAt x0d 1
      have e2d := cellAt x0d 2
      have hbd : Below w.heap.size w (wr.alloc (.cells #[.string ⟨M.toArray⟩, .int .i64 ar, .slice A1 m.length q1] 60)).drew := hb.trans (hdb.mono hb.size)
      have hownd := OwnD.below Hhown.out hdb
      have hmd := Hhm.out.below hdb
      have hnl : D.length + 1 ≤ 1099511627776 := by have := HhDl.out; omega
      have hszd := hdb.size
      go_region_law (first
        | (go_simp; (go_at_call 116; ((with_reducible refine (Hk3.out _ hmd).mono ?_); rintro e w9 ⟨A9, c9, rfl, own9, hb9⟩; (have hs9 : wr.heap.size ≤ w9.heap.size := Nat.le_trans hszd hb9.size; have y0e := blockB hb9 y0d; have y1e := blockB hb9 y1d; have y2e := blockB hb9 y2d; have u0e := cellAt y2e 0; have u0f := (fun o => cellAt (heapN y2e o) 0); have x0e := blockB hb9 x0d; have e0e := cellAt x0e 0; have e0f := (fun o => cellAt (heapN x0e o) 0); have hbe := hbd.trans (hb9.mono hbd.size); have owne := (OwnD.below hownd hb9)))))
        | (refine step_append_tab rfl (.tmp 14) (.tmp 21) rfl (w.heap.size + 3) w.heap.size _ D ?_ (owne.alloc (.cells #[.string ⟨M.toArray⟩, .int .i64 ar, .slice A9 m.length c9] 60)) (.slice (some ⟨w9.heap.size, 0, none⟩) 1 1) [(M, ar, m)] ?_ (SrcD.one (t := (M, ar, m)) (heap_alloc_new w9 _) (SegM.wide (SegM.alloc own9 _) (by omega) (by simp))) (by simpa using hnl) (by simp; omega) ?_; (first | rfl | (simp [Act.eval, Act.put])); (first | rfl | (simp [Act.eval, Act.put])); intro v2 w3 own3 hgr3 hb3; obtain ⟨A3, q3, e3, -⟩ := OwnD.opened own3; subst e3; have y0g := blockL hb3 (by omega) (heapN y0e _); have y1g := blockL hb3 (by omega) (heapN y1e _); have y2g := blockL hb3 (by omega) (heapN y2e _); have u0g := cellAt y2g 0; have f0g := frozen0 (j := 0) y2g; have hbg := (hbe.alloc hbe.size (.cells #[.string ⟨M.toArray⟩, .int .i64 ar, .slice A9 m.length c9] 60)).trans (hb3.mono (by omega))))
      all_goals
        have hlt3 : w.heap.size + 2 < w3.heap.size := lt_of_heap y2g
        go_wp2_with fail
        go_roundw
        case rel => exact ⟨k + 1, D ++ [(M, ar, m)], A3, q3, by go_num, by omega, Hhn.out, setO (by omega) y0g _, setO (by omega) y1g _, (by rw [show (D ++ [(M, ar, m)]).length = D.length + 1 by simp]; exact setS1 y2g _), OwnD.setO own3 y2g (by decide) _, hbg.setCell (p := ⟨w.heap.size + 2, 0, none⟩) (by show w.heap.size ≤ w.heap.size + 2; omega) _⟩
        case measure => simp [intOf] <;> omega
    · obtain rfl : k = T.length := by omega
      have g0 : ¬ (T.length : Int) < (T.length : Int) := by omega
      rw [List.take_length] at hD
      subst hD
      have u0 := cellAt y1 0
      have f0 := frozen0 (j := 0) y1
      have t2 := cellAt y2 0
      have Hhown := Lib.hid hown; clear hown
      go_wp2_with fail
      have hsz := hb.size
      refine bodyPost_ret (res_db rfl rfl (setS1 y1 _)) rfl ⟨_, _, rfl, (OwnD.setO Hhown.out y1 (by decide) _).mono (by omega) (Nat.le_refl _), ?_⟩
      exact hb.setCell (p := ⟨w.heap.size + 1, 0, none⟩) (Nat.le_succ _) _
end Go.Proofs.Ytbajnecahojcfaa
