/- The reference's copy of a database. -/
import Derived.Test.YtbajnecahojcfaaCopyD
namespace Go.Proofs.Ytbajnecahojcfaa
open Go.RowKit Go.Sort
set_option maxHeartbeats 4000000
set_option maxRecDepth 100000
theorem l6Copy_s (v : Value) (T : List Tab) (hl : T.length + tsz T ≤ 1048576) (w : World) (hv : TRow w v T) : Calls Try.prog 117 #[.agg #[v]] w (RetD T w) := by
  have y0 := heapN (heapN (heap_alloc_new w (.cells #[v] 52)) (.cells #[.slice none 0 0] 52)) (.cells #[.slice none 0 0] 52)
  have y1 := heapN (heap_new1 w (.cells #[v] 52) (.cells #[.slice none 0 0] 52)) (.cells #[.slice none 0 0] 52)
  have y2 := heap_new2 w (.cells #[v] 52) (.cells #[.slice none 0 0] 52) (.cells #[.slice none 0 0] 52)
  have hB : Below w.heap.size w (((w.alloc (.cells #[v] 52)).alloc (.cells #[.slice none 0 0] 52)).alloc (.cells #[.slice none 0 0] 52)) := (((Below.refl _ _).alloc (Nat.le_refl _) _).alloc (by simp) _).alloc (by simp; omega) _
  have hlen := hv.len
  obtain ⟨A, c, rfl⟩ := TRow.opened hv
  have Hhv := Lib.hid hv; clear hv; have Hy0 := Lib.hid y0; clear y0; have Hy1 := Lib.hid y1; clear y1; have Hy2 := Lib.hid y2; clear y2; have HhB := Lib.hid hB; clear hB
  go_enter Try.func117, Try.ntmps117
  go_wp2_with fail
  generalize (((w.alloc (.cells #[.slice A T.length c] 52)).alloc (.cells #[.slice none 0 0] 52)).alloc (.cells #[.slice none 0 0] 52)) = w0 at *
  go_loopw [4] (fun i wr => ∃ (k : Nat) (D : List Tab) (A' : Option Addr) (q' : Nat), i = .int .i64 k ∧ k ≤ T.length ∧ D = T.take k ∧ wr.heap[w.heap.size]? = some (.cells #[.slice A T.length c] 52 (0, 0)) ∧ wr.heap[w.heap.size + 1]? = some (.cells #[.slice none 0 0] 52 (0, 0)) ∧
    wr.heap[w.heap.size + 2]? = some (.cells #[.slice A' D.length q'] 52 (0, 0)) ∧ OwnD wr (w.heap.size + 3) w.heap.size (.slice A' D.length q') D ∧ Below w.heap.size w wr) (fun i _ => T.length - (intOf i).toNat)
  case atStart => exact ⟨0, [], none, 0, rfl, Nat.zero_le _, rfl, Hy0.out, Hy1.out, Hy2.out, OwnD.nil _ _ _, HhB.out⟩
  case round =>
    obtain ⟨k, D, A', q', rfl, hk, hD, y0, y1, y2, hown, hb⟩ := hrel
    have hl2 := lt_of_heap y2
    have t0 := cellAt y0 0
    by_cases hlt : k < T.length
    · have g0 : (k : Int) < (T.length : Int) := by omega
      obtain ⟨b, off, rfl, c0, c1, A1, q1, c2, hm⟩ := TRow.at (Hhv.out.below hb) k hlt
      have hsz := tsz_mem (List.getElem_mem hlt)
      have hn : D ++ [T[k]] = T.take (k + 1) := by rw [hD]; exact take_snoc hlt
      have hDl : D.length = k := by rw [hD]; simp; omega
      obtain ⟨t, ht⟩ : ∃ t, T[k] = t := ⟨_, rfl⟩
      rw [ht] at c0 c1 c2 hm hsz hn
      obtain ⟨M, ar, m⟩ := t
      unfold tsz1 at hsz
      simp only at c0 c1 c2 hm hsz hn
      replace c0 : wr.cell? ⟨b, off + k * 3, none⟩ = some (.string ⟨M.toArray⟩) := c0
      have hml : m.length + total m ≤ 1099511627775 := by omega
      have k3 := fun W h => l5Copy_s (.slice A1 m.length q1) ar m W h hml
      have Hl2 := Lib.hid hl2
      clear hl2 hk
      have Hhm := Lib.hid hm; clear hm; have Hht := Lib.hid ht; clear ht; have Hhsz := Lib.hid hsz; clear hsz; have Hhn := Lib.hid hn; clear hn; have HhD := Lib.hid hD; clear hD; have HhDl := Lib.hid hDl; clear hDl; have Hy0 := Lib.hid y0; clear y0; have Hy1 := Lib.hid y1; clear y1; have Hy2 := Lib.hid y2; clear y2; have Hhown := Lib.hid hown; clear hown; have Hk3 := Lib.hid k3; clear k3; have Hhml := Lib.hid hml; clear hml; have Hc0 := Lib.hid c0; clear c0
      go_wp2_with (go_at_call 120; ((with_reducible refine (Hk3.out _ Hhm.out).mono ?_); rintro e w1 ⟨A9, c9, rfl, own9, hb9⟩; (have x0 := blockB hb9 Hy0.out; have x1 := blockB hb9 Hy1.out; have x2 := blockB hb9 Hy2.out; have d0 := cellB hb9 Hc0.out; have hown1 := OwnD.below Hhown.out hb9; have hb1 := hb.trans (hb9.mono hb.size); have hs9 : wr.heap.size ≤ w1.heap.size := hb9.size)))
      have hl2 := Hl2.out
      have z5 := heap_alloc_new w1 (.cells #[.int .i64 ar, .slice A9 m.length c9] 44)
      have x0 := heapN x0 (.cells #[.int .i64 ar, .slice A9 m.length c9] 44)
      have x1 := heapN x1 (.cells #[.int .i64 ar, .slice A9 m.length c9] 44)
      have x2 := heapN x2 (.cells #[.int .i64 ar, .slice A9 m.length c9] 44)
      have d0 := cellN d0 (.cells #[.int .i64 ar, .slice A9 m.length c9] 44)
      have hown1 := hown1.alloc (.cells #[.int .i64 ar, .slice A9 m.length c9] 44)
      have hb1 := hb1.alloc hb1.size (.cells #[.int .i64 ar, .slice A9 m.length c9] 44)
      have own9 := SegM.wide (SegM.alloc own9 (.cells #[.int .i64 ar, .slice A9 m.length c9] 44)) (Nat.le_refl _) (show w1.heap.size ≤ (w1.alloc (.cells #[.int .i64 ar, .slice A9 m.length c9] 44)).heap.size by simp)
      have hs1 : w1.heap.size ≤ (w1.alloc (.cells #[.int .i64 ar, .slice A9 m.length c9] 44)).heap.size := by simp
      generalize (w1.alloc (.cells #[.int .i64 ar, .slice A9 m.length c9] 44)) = w5 at *
      have hdb : Below w5.heap.size w5 w5.drew := (Below.refl _ _).drew
      have hda : Below w5.heap.size w5 (w5.alloc (.cells #[.string ⟨M.toArray⟩, .int .i64 ar, .slice A9 m.length c9] 60)).drew := ((Below.refl _ _).alloc (Nat.le_refl _) _).drew
      have p0 := cellAt (blockB hdb x0) 0
      have p2 := cellAt (blockB hdb x2) 0
      have p5 := cellAt (blockB hdb z5) 0
      have p6 := cellAt (blockB hdb z5) 1
      have pd := cellB hdb d0
      have y0a := blockB hda x0
      have y1a := blockB hda x1
      have y2a := blockB hda x2
      have u2 := cellAt y2a 0
      have owna := OwnD.below hown1 hda
      have hba := hb1.trans (hda.mono hb1.size)
      have srca : SrcD (w5.alloc (.cells #[.string ⟨M.toArray⟩, .int .i64 ar, .slice A9 m.length c9] 60)).drew w.heap.size (.slice (some ⟨w5.heap.size, 0, none⟩) 1 1) [(M, ar, m)] := SrcD.one (t := (M, ar, m)) (heap_alloc_new w5 _) (SegM.wide (SegM.below own9 hda) (by omega) hda.size)
      have hnl : D.length + 1 ≤ 1099511627776 := by have := HhDl.out; omega
      have hsa := hda.size
      have hcond : w.heap.size + 3 ≤ (w5.alloc (.cells #[.string ⟨M.toArray⟩, .int .i64 ar, .slice A9 m.length c9] 60)).drew.heap.size := by omega
      have Hx0 := Lib.hid x0; clear x0; have Hx1 := Lib.hid x1; clear x1; have Hx2 := Lib.hid x2; clear x2; have Hz5 := Lib.hid z5; clear z5; have Hd0 := Lib.hid d0; clear d0; have Hhown1 := Lib.hid hown1; clear hown1; have Hown9 := Lib.hid own9; clear own9; have Hhb1 := Lib.hid hb1; clear hb1; have Hy0a := Lib.hid y0a; clear y0a; have Hy1a := Lib.hid y1a; clear y1a; have Hy2a := Lib.hid y2a; clear y2a; have Howna := Lib.hid owna; clear owna; have Hhba := Lib.hid hba; clear hba; have Hsrca := Lib.hid srca; clear srca
      go_region_law (refine step_append_tab rfl (.tmp 22) (.tmp 31) rfl (w.heap.size + 3) w.heap.size _ D ?_ Howna.out (.slice (some ⟨w5.heap.size, 0, none⟩) 1 1) [(M, ar, m)] ?_ Hsrca.out (by simpa using hnl) hcond ?_; (first | rfl | (simp [Act.eval, Act.put])); (first | rfl | (simp [Act.eval, Act.put])); intro v2 w3 own3 hgr3 hb3; obtain ⟨A3, q3, e3, -⟩ := OwnD.opened own3; subst e3; have y0g := blockL hb3 (by omega) Hy0a.out; have y1g := blockL hb3 (by omega) Hy1a.out; have y2g := blockL hb3 (by omega) Hy2a.out; have u0g := cellAt y2g 0; have f0g := frozen0 (j := 0) y2g; have hbg := Hhba.out.trans (hb3.mono (by omega)))
      all_goals
        have hlt3 : w.heap.size + 2 < w3.heap.size := lt_of_heap y2g
        go_wp2_with fail
        go_roundw
        case rel => exact ⟨k + 1, D ++ [(M, ar, m)], A3, q3, by go_num, by omega, Hhn.out, setO (by omega) y0g _, setO (by omega) y1g _, (by rw [show (D ++ [(M, ar, m)]).length = D.length + 1 by simp]; exact setS1 y2g _), OwnD.setO own3 y2g (by decide) _, hbg.setCell (p := ⟨w.heap.size + 2, 0, none⟩) (by show w.heap.size ≤ w.heap.size + 2; omega) _⟩
        case measure => simp [intOf] <;> omega
    · obtain rfl : k = T.length := by omega
      have g0 : ¬ (T.length : Int) < (T.length : Int) := by omega
      rw [List.take_length] at hD
      subst hD
      have u0 := cellAt y1 0
      have f0 := frozen0 (j := 0) y1
      have t2 := cellAt y2 0
      have Hhown := Lib.hid hown; clear hown
      go_wp2_with fail
      have hsz := hb.size
      refine bodyPost_ret (res_db rfl rfl (setS1 y1 _)) rfl ⟨_, _, rfl, (OwnD.setO Hhown.out y1 (by decide) _).mono (by omega) (Nat.le_refl _), ?_⟩
      exact hb.setCell (p := ⟨w.heap.size + 1, 0, none⟩) (Nat.le_succ _) _
end Go.Proofs.Ytbajnecahojcfaa
