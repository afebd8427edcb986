/- The reference's SetRelation. (Written by mksets.py.) -/
import Derived.Test.YtbajnecahojcfaaCopyE
import Derived.Test.YtbajnecahojcfaaTabQ
namespace Go.Proofs.Ytbajnecahojcfaa
open Go.RowKit Go.Sort
set_option maxHeartbeats 4000000
set_option maxRecDepth 100000
theorem res_db_tmp {fn : Func} {t u : Tmp} (h : fn.results = #[.cell t 52, .tmp u]) {tmps : Array Value} {k : Nat} (ht : tmps[t]? = some (.pointer (some ⟨k, 0, none⟩))) {x : Value} (hu : tmps[u]? = some x) {w : World} {a : Value} (y : w.heap[k]? = some (.cells #[a] 52 (0, 0))) :
    (results fn tmps).run Try.prog w = .ok (.tuple #[.agg #[a], x]) w := by
  have r0 := cellAt y 0
  simp at r0
  simp [results, h, go_sem, ht, hu, r0]
/-- A database of any kind, and an answer. -/
def RetX (b : Bool) (w : World) (e : Ending) (w' : World) : Prop := ∃ (A : Option Addr) (n c : Nat), e = .returned (.tuple #[.agg #[.slice A n c], .bool b]) ∧ Below w.heap.size w w'
theorem retX_of {b b' : Bool} {w w' : World} {e : Ending} {A : Option Addr} {n c : Nat} (hb : b' = b) (he : e = .returned (.tuple #[.agg #[.slice A n c], .bool b'])) (h : Below w.heap.size w w') : RetX b w e w' := ⟨A, n, c, by rw [he, hb], h⟩
theorem heap_new3 (w : World) (o p q r : Obj) : ((((w.alloc o).alloc p).alloc q).alloc r).heap[w.heap.size + 3]? = some r := by
  have := heap_alloc_new (((w.alloc o).alloc p).alloc q) r
  rwa [size_alloc, size_alloc, size_alloc] at this
theorem drop_cons {T : List Tab} {k : Nat} (h : k < T.length) : T.drop k = T[k] :: T.drop (k + 1) := List.drop_eq_getElem_cons h
theorem segM_up {w w' : World} {lo : Nat} {v : Value} {m : List (List Int)} (h : SegM w lo w.heap.size v m) (hb : Below w.heap.size w w') : SegM w' lo w'.heap.size v m := SegM.wide (SegM.below h hb) (Nat.le_refl _) hb.size

theorem SetRelation_s (v u : Value) (T : List Tab) (N : List UInt8) (ar : Int) (m : List (List Int)) (hT : T.length + tsz T ≤ 1000000) (hN : N.length + m.length + total m ≤ 1000) (w : World) (hv : DRow w 0 v T) (hu : SegM w 0 w.heap.size u m) :
    Calls Try.prog 53 #[.agg #[v], .string ⟨N.toArray⟩, .agg #[.int .i64 ar, u]] w (RetX (setOk (N, ar, m) T) w) := by
  rw [← setOk_ref (N, ar, m) T]
  have hlen := hv.row.len
  obtain ⟨A, c, rfl⟩ := DRow.opened hv
  obtain ⟨Au, cu, rfl⟩ := MRow.opened hu.row
  have y0 := heapN (heapN (heapN (heap_alloc_new w (.cells #[.slice A T.length c] 52)) (.cells #[.int .i64 ar, .slice Au m.length cu] 44)) (.cells #[.slice none 0 0] 52)) (.cells #[.slice none 0 0] 52)
  have y1 := heapN (heapN (heap_new1 w (.cells #[.slice A T.length c] 52) (.cells #[.int .i64 ar, .slice Au m.length cu] 44)) (.cells #[.slice none 0 0] 52)) (.cells #[.slice none 0 0] 52)
  have y2 := heapN (heap_new2 w (.cells #[.slice A T.length c] 52) (.cells #[.int .i64 ar, .slice Au m.length cu] 44) (.cells #[.slice none 0 0] 52)) (.cells #[.slice none 0 0] 52)
  have y3 := heap_new3 w (.cells #[.slice A T.length c] 52) (.cells #[.int .i64 ar, .slice Au m.length cu] 44) (.cells #[.slice none 0 0] 52) (.cells #[.slice none 0 0] 52)
  have hB : Below w.heap.size w ((((w.alloc (.cells #[.slice A T.length c] 52)).alloc (.cells #[.int .i64 ar, .slice Au m.length cu] 44)).alloc (.cells #[.slice none 0 0] 52)).alloc (.cells #[.slice none 0 0] 52)) := ((((Below.refl _ _).alloc (Nat.le_refl _) _).alloc (by simp) _).alloc (by simp; omega) _).alloc (by simp; omega) _
  have hnm : N.length ≤ 1048576 := by omega
  have hmem : ∀ t ∈ T, t.1.length ≤ 1048576 := fun t ht => by have := tsz_mem ht; unfold tsz1 at this; omega
  have Hhv := Lib.hid hv; clear hv; have Hhu := Lib.hid hu; clear hu; have Hy0 := Lib.hid y0; clear y0; have Hy1 := Lib.hid y1; clear y1; have Hy2 := Lib.hid y2; clear y2; have Hy3 := Lib.hid y3; clear y3; have HhB := Lib.hid hB; clear hB; have Hhmem := Lib.hid hmem; clear hmem
  go_enter Try.func53, Try.ntmps53
  go_wp2_with fail
  generalize ((((w.alloc (.cells #[.slice A T.length c] 52)).alloc (.cells #[.int .i64 ar, .slice Au m.length cu] 44)).alloc (.cells #[.slice none 0 0] 52)).alloc (.cells #[.slice none 0 0] 52)) = w0 at *
  go_loopw [9, 10] (fun pp i wr => ∃ (k : Nat) (p : Bool) (D : List Tab) (A' : Option Addr) (q' : Nat), pp = .bool p ∧ i = .int .i64 k ∧ k ≤ T.length ∧ (D.length ≤ k + 1 ∧ (p = false → D.length ≤ k)) ∧ D ++ refT (N, ar, m) p (T.drop k) = refT (N, ar, m) false T ∧ wr.heap[w.heap.size]? = some (.cells #[.slice A T.length c] 52 (0, 0)) ∧ wr.heap[w.heap.size + 1]? = some (.cells #[.int .i64 ar, .slice Au m.length cu] 44 (0, 0)) ∧ wr.heap[w.heap.size + 2]? = some (.cells #[.slice none 0 0] 52 (0, 0)) ∧
    wr.heap[w.heap.size + 3]? = some (.cells #[.slice A' D.length q'] 52 (0, 0)) ∧ OwnD wr (w.heap.size + 4) 0 (.slice A' D.length q') D ∧ Below w.heap.size w wr) (fun _ i _ => T.length - (intOf i).toNat)
  case atStart => exact ⟨0, false, [], none, 0, rfl, rfl, Nat.zero_le _, ⟨Nat.zero_le _, fun _ => Nat.zero_le _⟩, rfl, Hy0.out, Hy1.out, Hy2.out, Hy3.out, OwnD.nil _ _ _, HhB.out⟩
  case round =>
    obtain ⟨k, p, D, A', q', rfl, rfl, hk, ⟨hDk, hDp⟩, hD, y0, y1, y2, y3, hown, hb⟩ := hrel
    have hl3 := lt_of_heap y3
    have t0 := cellAt y0 0
    by_cases hlt : k < T.length
    · have g0 : (k : Int) < (T.length : Int) := by omega
      have hk6 : k ≤ 1000000 := by omega
      obtain ⟨b, off, rfl, c0, c1, A1, q1, c2, hm⟩ := DRow.at (Hhv.out.below hb) k hlt
      have hu1 := segM_up Hhu.out hb
      rw [drop_cons hlt] at hD
      obtain ⟨t, ht⟩ : ∃ t, T[k] = t := ⟨_, rfl⟩
      rw [ht] at c0 c1 c2 hm hD
      obtain ⟨M, a1, m1⟩ := t
      simp only at c0 c1 c2 hm
      replace c0 : wr.cell? ⟨b, off + k * 3, none⟩ = some (.string ⟨M.toArray⟩) := c0
      have x11 := heap_alloc_new wr (.cells #[.string ⟨M.toArray⟩, .int .i64 a1, .slice A1 m1.length q1] 60)
      have hba := hb.alloc hb.size (.cells #[.string ⟨M.toArray⟩, .int .i64 a1, .slice A1 m1.length q1] 60)
      have hsA : wr.heap.size ≤ (wr.alloc (.cells #[.string ⟨M.toArray⟩, .int .i64 a1, .slice A1 m1.length q1] 60)).heap.size := by simp
      have hma := SegM.wide (SegM.alloc hm (.cells #[.string ⟨M.toArray⟩, .int .i64 a1, .slice A1 m1.length q1] 60)) (Nat.le_refl _) hsA
      have hua := SegM.wide (SegM.alloc hu1 (.cells #[.string ⟨M.toArray⟩, .int .i64 a1, .slice A1 m1.length q1] 60)) (Nat.le_refl _) hsA
      have hownA := hown.alloc (.cells #[.string ⟨M.toArray⟩, .int .i64 a1, .slice A1 m1.length q1] 60)
      have z0 := heapN y0 (.cells #[.string ⟨M.toArray⟩, .int .i64 a1, .slice A1 m1.length q1] 60)
      have z1 := heapN y1 (.cells #[.string ⟨M.toArray⟩, .int .i64 a1, .slice A1 m1.length q1] 60)
      have z2 := heapN y2 (.cells #[.string ⟨M.toArray⟩, .int .i64 a1, .slice A1 m1.length q1] 60)
      have z3 := heapN y3 (.cells #[.string ⟨M.toArray⟩, .int .i64 a1, .slice A1 m1.length q1] 60)
      have e0 := cellAt x11 0
      have e1 := cellAt x11 1
      have e2 := cellAt x11 2
      have u0 := cellAt z3 0
      have r0 := cellAt z1 0
      have r1 := cellAt z1 1
      have u0a := fun o => cellAt (heapN z3 o) 0
      have f3 := frozen0 (j := 0) z3
      have hnl : D.length + 1 ≤ 1099511627776 := by omega
      have hnl2 : D.length + 1 + 1 ≤ 1099511627776 := by omega
      have hlo : w.heap.size + 4 ≤ wr.heap.size := by omega
      have hloA : w.heap.size + 4 ≤ (wr.alloc (.cells #[.string ⟨M.toArray⟩, .int .i64 a1, .slice A1 m1.length q1] 60)).heap.size := by omega
      have hkD : k + 1 ≤ T.length ∧ D.length ≤ k + 1 ∧ (p = false → D.length ≤ k) := ⟨by omega, hDk, hDp⟩
      clear ht hlt hk hDk hDp
      have Hlen := Lib.hid hkD
      clear hkD
      cases p with
      | false =>
        by_cases hMN : M < N
        · have hstep : (D ++ [(M, a1, m1)]) ++ refT (N, ar, m) false (T.drop (k + 1)) = refT (N, ar, m) false T := by
            rw [← hD, List.append_assoc, refT, if_pos hMN]; rfl
          have dL : Op.bytesLess M N = true := by rw [bytesLess_ltD, decide_eq_true_eq]; exact hMN
          have gq := geq_str dL
          have hne : (M == N) = false := by rw [beq_eq_false_iff_ne]; rintro rfl; exact List.lt_irrefl _ hMN
          have nq := neq_str hne
          have Hstep := Lib.hid hstep
          clear hstep hD hMN
          have Hhb := Lib.hid hb; clear hb; have Hhm := Lib.hid hm; clear hm; have Hhu1 := Lib.hid hu1; clear hu1; have Hy0 := Lib.hid y0; clear y0; have Hy1 := Lib.hid y1; clear y1; have Hy2 := Lib.hid y2; clear y2; have Hy3 := Lib.hid y3; clear y3; have Hhown := Lib.hid hown; clear hown; have Hx11 := Lib.hid x11; clear x11; have Hhba := Lib.hid hba; clear hba; have Hhma := Lib.hid hma; clear hma; have Hhua := Lib.hid hua; clear hua; have HhownA := Lib.hid hownA; clear hownA; have Hz0 := Lib.hid z0; clear z0; have Hz1 := Lib.hid z1; clear z1; have Hz2 := Lib.hid z2; clear z2; have Hz3 := Lib.hid z3; clear z3; have Hhnl := Lib.hid hnl; clear hnl; have Hhnl2 := Lib.hid hnl2; clear hnl2; have Hhlo := Lib.hid hlo; clear hlo; have HhloA := Lib.hid hloA; clear hloA; have HhsA := Lib.hid hsA; clear hsA; have Hhl3 := Lib.hid hl3; clear hl3
          go_wp2_with (at_builtin; go_must (refine wp_append_tab rfl _ _ rfl (w.heap.size + 4) 0 _ (D) rfl HhownA.out (M, a1, m1) (.slice A1 m1.length q1) Hhma.out (by first | rfl | exact congrArg (fun g => Value.slice (some ⟨g, 0, none⟩) 1 1) (size_alloc ..).symm | (simp [Act.eval, World.setCell]; done)) Hhnl.out HhloA.out ?_; intro v3 w3 own3 hgr3 hb3; obtain ⟨A3, q3, e3, -⟩ := OwnD.opened own3; rw [List.length_append, List.length_singleton] at e3; subst e3; have z03 := blockL (k := w.heap.size) hb3 (by have := Hhlo.out; omega) Hz0.out; have z13 := blockL (k := w.heap.size + 1) hb3 (by have := Hhlo.out; omega) Hz1.out; have z23 := blockL (k := w.heap.size + 2) hb3 (by have := Hhlo.out; omega) Hz2.out; have z33 := blockL (k := w.heap.size + 3) hb3 (by have := Hhlo.out; omega) Hz3.out; have f33 := frozen0 (j := 0) z33; have u33 := cellAt z33 0; have hbf := Hhba.out.trans (hb3.mono (by have := Hhlo.out; omega))))
          have hl3 := Hhl3.out
          have hlt3 : w.heap.size + 3 < w3.heap.size := lt_of_heap z33
          go_roundw
          case rel => exact ⟨k + 1, false, D ++ [(M, a1, m1)], A3, q3, rfl, by go_num, by have := Hlen.out; omega, ⟨by have := Hlen.out; have h2 := this.2.2 rfl; simp; omega, fun h => by have := Hlen.out.2.2 rfl; simp; omega⟩, Hstep.out, setO (by omega) z03 _, setO (by omega) z13 _, setO (by omega) z23 _, (by rw [List.length_append, List.length_singleton]; exact setS1 z33 _), (by rw [List.length_append, List.length_singleton]; exact OwnD.setO own3 z33 (by decide) _), hbf.setCell (p := ⟨w.heap.size + 3, 0, none⟩) (by show w.heap.size ≤ w.heap.size + 3; omega) _⟩
          case measure => have := Hlen.out; simp [intOf] <;> omega
        · have dL : Op.bytesLess M N = false := by rw [bytesLess_ltD, decide_eq_false_iff_not]; exact hMN
          have gq := geq_str dL
          by_cases hE : M = N
          · have hstep : (D ++ [(N, ar, m)]) ++ refT (N, ar, m) true (T.drop (k + 1)) = refT (N, ar, m) false T := by
              rw [← hD, List.append_assoc, refT, if_neg hMN, if_pos hE]; rfl
            have hne : (M == N) = true := by rw [beq_iff_eq]; exact hE
            have nq := neq_str hne
            have Hstep := Lib.hid hstep
            clear hstep hD hMN hE
            have Hhb := Lib.hid hb; clear hb; have Hhm := Lib.hid hm; clear hm; have Hhu1 := Lib.hid hu1; clear hu1; have Hy0 := Lib.hid y0; clear y0; have Hy1 := Lib.hid y1; clear y1; have Hy2 := Lib.hid y2; clear y2; have Hy3 := Lib.hid y3; clear y3; have Hhown := Lib.hid hown; clear hown; have Hx11 := Lib.hid x11; clear x11; have Hhba := Lib.hid hba; clear hba; have Hhma := Lib.hid hma; clear hma; have Hhua := Lib.hid hua; clear hua; have HhownA := Lib.hid hownA; clear hownA; have Hz0 := Lib.hid z0; clear z0; have Hz1 := Lib.hid z1; clear z1; have Hz2 := Lib.hid z2; clear z2; have Hz3 := Lib.hid z3; clear z3; have Hhnl := Lib.hid hnl; clear hnl; have Hhnl2 := Lib.hid hnl2; clear hnl2; have Hhlo := Lib.hid hlo; clear hlo; have HhloA := Lib.hid hloA; clear hloA; have HhsA := Lib.hid hsA; clear hsA; have Hhl3 := Lib.hid hl3; clear hl3
            go_wp2_with (at_builtin; go_must (refine wp_append_tab rfl _ _ rfl (w.heap.size + 4) 0 _ (D) rfl HhownA.out (N, ar, m) (.slice Au m.length cu) Hhua.out (by first | rfl | exact congrArg (fun g => Value.slice (some ⟨g, 0, none⟩) 1 1) (size_alloc ..).symm | (simp [Act.eval, World.setCell]; done)) Hhnl.out HhloA.out ?_; intro v3 w3 own3 hgr3 hb3; obtain ⟨A3, q3, e3, -⟩ := OwnD.opened own3; rw [List.length_append, List.length_singleton] at e3; subst e3; have z03 := blockL (k := w.heap.size) hb3 (by have := Hhlo.out; omega) Hz0.out; have z13 := blockL (k := w.heap.size + 1) hb3 (by have := Hhlo.out; omega) Hz1.out; have z23 := blockL (k := w.heap.size + 2) hb3 (by have := Hhlo.out; omega) Hz2.out; have z33 := blockL (k := w.heap.size + 3) hb3 (by have := Hhlo.out; omega) Hz3.out; have f33 := frozen0 (j := 0) z33; have u33 := cellAt z33 0; have hbf := Hhba.out.trans (hb3.mono (by have := Hhlo.out; omega)); have hl3 := Hhl3.out; have x113 := OwnD.newer Hhown.out (Nat.le_refl _) hgr3 Hx11.out; have e03 := (fun u => cellAt (setO (g := w.heap.size + 3) (j := 0) (show wr.heap.size ≠ w.heap.size + 3 by omega) x113 u) 0); have e13 := (fun u => cellAt (setO (g := w.heap.size + 3) (j := 0) (show wr.heap.size ≠ w.heap.size + 3 by omega) x113 u) 1); have e23 := (fun u => cellAt (setO (g := w.heap.size + 3) (j := 0) (show wr.heap.size ≠ w.heap.size + 3 by omega) x113 u) 2)))
            have hl3 := Hhl3.out
            have hlt3 : w.heap.size + 3 < w3.heap.size := lt_of_heap z33
            go_roundw
            case rel => exact ⟨k + 1, true, D ++ [(N, ar, m)], A3, q3, rfl, by go_num, by have := Hlen.out; omega, ⟨by have := Hlen.out; have h2 := this.2.2 rfl; simp; omega, fun h => by cases h⟩, Hstep.out, setO (by omega) z03 _, setO (by omega) z13 _, setO (by omega) z23 _, (by rw [List.length_append, List.length_singleton]; exact setS1 z33 _), (by rw [List.length_append, List.length_singleton]; exact OwnD.setO own3 z33 (by decide) _), hbf.setCell (p := ⟨w.heap.size + 3, 0, none⟩) (by show w.heap.size ≤ w.heap.size + 3; omega) _⟩
            case measure => have := Hlen.out; simp [intOf] <;> omega
          · have hstep : (D ++ [(N, ar, m)] ++ [(M, a1, m1)]) ++ refT (N, ar, m) true (T.drop (k + 1)) = refT (N, ar, m) false T := by
              rw [← hD, List.append_assoc, List.append_assoc, refT, if_neg hMN, if_neg hE]; rfl
            have hne : (M == N) = false := by rw [beq_eq_false_iff_ne]; exact hE
            have nq := neq_str hne
            have Hstep := Lib.hid hstep
            clear hstep hD hMN hE
            have Hhb := Lib.hid hb; clear hb; have Hhm := Lib.hid hm; clear hm; have Hhu1 := Lib.hid hu1; clear hu1; have Hy0 := Lib.hid y0; clear y0; have Hy1 := Lib.hid y1; clear y1; have Hy2 := Lib.hid y2; clear y2; have Hy3 := Lib.hid y3; clear y3; have Hhown := Lib.hid hown; clear hown; have Hx11 := Lib.hid x11; clear x11; have Hhba := Lib.hid hba; clear hba; have Hhma := Lib.hid hma; clear hma; have Hhua := Lib.hid hua; clear hua; have HhownA := Lib.hid hownA; clear hownA; have Hz0 := Lib.hid z0; clear z0; have Hz1 := Lib.hid z1; clear z1; have Hz2 := Lib.hid z2; clear z2; have Hz3 := Lib.hid z3; clear z3; have Hhnl := Lib.hid hnl; clear hnl; have Hhnl2 := Lib.hid hnl2; clear hnl2; have Hhlo := Lib.hid hlo; clear hlo; have HhloA := Lib.hid hloA; clear hloA; have HhsA := Lib.hid hsA; clear hsA; have Hhl3 := Lib.hid hl3; clear hl3
            go_wp2_with (at_builtin; go_must (first | (refine wp_append_tab rfl _ _ rfl (w.heap.size + 4) 0 _ (D) rfl HhownA.out (N, ar, m) (.slice Au m.length cu) Hhua.out (by first | rfl | exact congrArg (fun g => Value.slice (some ⟨g, 0, none⟩) 1 1) (size_alloc ..).symm | (simp [Act.eval, World.setCell]; done)) Hhnl.out HhloA.out ?_; intro v3 w3 own3 hgr3 hb3; obtain ⟨A3, q3, e3, -⟩ := OwnD.opened own3; rw [List.length_append, List.length_singleton] at e3; subst e3; have z03 := blockL (k := w.heap.size) hb3 (by have := Hhlo.out; omega) Hz0.out; have z13 := blockL (k := w.heap.size + 1) hb3 (by have := Hhlo.out; omega) Hz1.out; have z23 := blockL (k := w.heap.size + 2) hb3 (by have := Hhlo.out; omega) Hz2.out; have z33 := blockL (k := w.heap.size + 3) hb3 (by have := Hhlo.out; omega) Hz3.out; have f33 := frozen0 (j := 0) z33; have u33 := cellAt z33 0; have hbf := Hhba.out.trans (hb3.mono (by have := Hhlo.out; omega)); have hl3 := Hhl3.out; have x113 := OwnD.newer Hhown.out (Nat.le_refl _) hgr3 Hx11.out; have e03 := (fun u => cellAt (setO (g := w.heap.size + 3) (j := 0) (show wr.heap.size ≠ w.heap.size + 3 by omega) x113 u) 0); have e13 := (fun u => cellAt (setO (g := w.heap.size + 3) (j := 0) (show wr.heap.size ≠ w.heap.size + 3 by omega) x113 u) 1); have e23 := (fun u => cellAt (setO (g := w.heap.size + 3) (j := 0) (show wr.heap.size ≠ w.heap.size + 3 by omega) x113 u) 2); have u3s := (fun u => cellAt (setS1 z33 u) 0); have u3t := (fun u o => cellAt (heapN (setS1 z33 u) o) 0); have hm3 := Lib.hid (SegM.grownD Hhma.out HhownA.out hgr3); have Hown3 := Lib.hid own3; clear own3; have Hz3 := Lib.hid z33; have Hbf := Lib.hid hbf; have hsz3 : w.heap.size + 4 ≤ w3.heap.size := (by have := hb3.size; have := HhloA.out; omega)) | (refine wp_append_tab rfl _ _ rfl (w.heap.size + 4) 0 _ (D ++ [(N, ar, m)]) rfl (OwnD.setO Hown3.out Hz3.out (by decide) _) (M, a1, m1) (.slice A1 m1.length q1) (segM_setT hm3.out Hz3.out (by decide) _) (by first | rfl | exact congrArg (fun g => Value.slice (some ⟨g, 0, none⟩) 1 1) (size_alloc ..).symm | (simp [Act.eval, World.setCell]; done)) (by have := Hhnl2.out; simp; omega) (by simp [World.setCell]; omega) ?_; intro v4 w4 own4 hgr4 hb4; obtain ⟨A4, q4, e4, -⟩ := OwnD.opened own4; rw [List.length_append, List.length_append, List.length_singleton, List.length_singleton] at e4; subst e4; have z04 := blockL (k := w.heap.size) hb4 (by have := Hhlo.out; omega) (setO (by omega) z03 _); have z14 := blockL (k := w.heap.size + 1) hb4 (by have := Hhlo.out; omega) (setO (by omega) z13 _); have z24 := blockL (k := w.heap.size + 2) hb4 (by have := Hhlo.out; omega) (setO (by omega) z23 _); have z34 := blockL (k := w.heap.size + 3) hb4 (by have := Hhlo.out; omega) (setS1 Hz3.out _); have f34 := frozen0 (j := 0) z34; have u34 := cellAt z34 0; have hbf4 := (Hbf.out.setCell (p := ⟨w.heap.size + 3, 0, none⟩) (by show w.heap.size ≤ w.heap.size + 3; omega) _).trans (hb4.mono (by omega)))))
            have hlt4 : w.heap.size + 3 < w4.heap.size := lt_of_heap z34
            go_roundw
            case rel => exact ⟨k + 1, true, D ++ [(N, ar, m)] ++ [(M, a1, m1)], A4, q4, rfl, by go_num, by have := Hlen.out; omega, ⟨by have := Hlen.out.2.2 rfl; simp; omega, fun h => by cases h⟩, Hstep.out, setO (by omega) z04 _, setO (by omega) z14 _, setO (by omega) z24 _, (by rw [List.length_append, List.length_append, List.length_singleton, List.length_singleton]; exact setS1 z34 _), (by rw [List.length_append, List.length_append, List.length_singleton, List.length_singleton]; exact OwnD.setO own4 z34 (by decide) _), hbf4.setCell (p := ⟨w.heap.size + 3, 0, none⟩) (by show w.heap.size ≤ w.heap.size + 3; omega) _⟩
            case measure => have := Hlen.out; simp [intOf] <;> omega
      | true =>
        by_cases hE : M = N
        · have hstep : D ++ refT (N, ar, m) true (T.drop (k + 1)) = refT (N, ar, m) false T := by
            rw [← hD, refT, if_pos hE]
          have hne : (M == N) = true := by rw [beq_iff_eq]; exact hE
          have nq := neq_str hne
          have Hstep := Lib.hid hstep
          clear hstep hD hE
          have Hhb := Lib.hid hb; clear hb; have Hhm := Lib.hid hm; clear hm; have Hhu1 := Lib.hid hu1; clear hu1; have Hy0 := Lib.hid y0; clear y0; have Hy1 := Lib.hid y1; clear y1; have Hy2 := Lib.hid y2; clear y2; have Hy3 := Lib.hid y3; clear y3; have Hhown := Lib.hid hown; clear hown; have Hx11 := Lib.hid x11; clear x11; have Hhba := Lib.hid hba; clear hba; have Hhma := Lib.hid hma; clear hma; have Hhua := Lib.hid hua; clear hua; have HhownA := Lib.hid hownA; clear hownA; have Hz0 := Lib.hid z0; clear z0; have Hz1 := Lib.hid z1; clear z1; have Hz2 := Lib.hid z2; clear z2; have Hz3 := Lib.hid z3; clear z3; have Hhnl := Lib.hid hnl; clear hnl; have Hhnl2 := Lib.hid hnl2; clear hnl2; have Hhlo := Lib.hid hlo; clear hlo; have HhloA := Lib.hid hloA; clear hloA; have HhsA := Lib.hid hsA; clear hsA; have Hhl3 := Lib.hid hl3; clear hl3
          go_wp2_with fail
          go_roundw
          case rel => exact ⟨k + 1, true, D, A', q', rfl, by go_num, by have := Hlen.out; omega, ⟨by have := Hlen.out; omega, fun h => by cases h⟩, Hstep.out, Hz0.out, Hz1.out, Hz2.out, Hz3.out, HhownA.out, Hhba.out⟩
          case measure => have := Hlen.out; simp [intOf] <;> omega
        · have hstep : (D ++ [(M, a1, m1)]) ++ refT (N, ar, m) true (T.drop (k + 1)) = refT (N, ar, m) false T := by
            rw [← hD, List.append_assoc, refT, if_neg hE]; rfl
          have hne : (M == N) = false := by rw [beq_eq_false_iff_ne]; exact hE
          have nq := neq_str hne
          have Hstep := Lib.hid hstep
          clear hstep hD hE
          have Hhb := Lib.hid hb; clear hb; have Hhm := Lib.hid hm; clear hm; have Hhu1 := Lib.hid hu1; clear hu1; have Hy0 := Lib.hid y0; clear y0; have Hy1 := Lib.hid y1; clear y1; have Hy2 := Lib.hid y2; clear y2; have Hy3 := Lib.hid y3; clear y3; have Hhown := Lib.hid hown; clear hown; have Hx11 := Lib.hid x11; clear x11; have Hhba := Lib.hid hba; clear hba; have Hhma := Lib.hid hma; clear hma; have Hhua := Lib.hid hua; clear hua; have HhownA := Lib.hid hownA; clear hownA; have Hz0 := Lib.hid z0; clear z0; have Hz1 := Lib.hid z1; clear z1; have Hz2 := Lib.hid z2; clear z2; have Hz3 := Lib.hid z3; clear z3; have Hhnl := Lib.hid hnl; clear hnl; have Hhnl2 := Lib.hid hnl2; clear hnl2; have Hhlo := Lib.hid hlo; clear hlo; have HhloA := Lib.hid hloA; clear hloA; have HhsA := Lib.hid hsA; clear hsA; have Hhl3 := Lib.hid hl3; clear hl3
          go_wp2_with (at_builtin; go_must (refine wp_append_tab rfl _ _ rfl (w.heap.size + 4) 0 _ (D) rfl HhownA.out (M, a1, m1) (.slice A1 m1.length q1) Hhma.out (by first | rfl | exact congrArg (fun g => Value.slice (some ⟨g, 0, none⟩) 1 1) (size_alloc ..).symm | (simp [Act.eval, World.setCell]; done)) Hhnl.out HhloA.out ?_; intro v3 w3 own3 hgr3 hb3; obtain ⟨A3, q3, e3, -⟩ := OwnD.opened own3; rw [List.length_append, List.length_singleton] at e3; subst e3; have z03 := blockL (k := w.heap.size) hb3 (by have := Hhlo.out; omega) Hz0.out; have z13 := blockL (k := w.heap.size + 1) hb3 (by have := Hhlo.out; omega) Hz1.out; have z23 := blockL (k := w.heap.size + 2) hb3 (by have := Hhlo.out; omega) Hz2.out; have z33 := blockL (k := w.heap.size + 3) hb3 (by have := Hhlo.out; omega) Hz3.out; have f33 := frozen0 (j := 0) z33; have u33 := cellAt z33 0; have hbf := Hhba.out.trans (hb3.mono (by have := Hhlo.out; omega))))
          have hl3 := Hhl3.out
          have hlt3 : w.heap.size + 3 < w3.heap.size := lt_of_heap z33
          go_roundw
          case rel => exact ⟨k + 1, true, D ++ [(M, a1, m1)], A3, q3, rfl, by go_num, by have := Hlen.out; omega, ⟨by have := Hlen.out; have h2 := this; simp; omega, fun h => by cases h⟩, Hstep.out, setO (by omega) z03 _, setO (by omega) z13 _, setO (by omega) z23 _, (by rw [List.length_append, List.length_singleton]; exact setS1 z33 _), (by rw [List.length_append, List.length_singleton]; exact OwnD.setO own3 z33 (by decide) _), hbf.setCell (p := ⟨w.heap.size + 3, 0, none⟩) (by show w.heap.size ≤ w.heap.size + 3; omega) _⟩
          case measure => have := Hlen.out; simp [intOf] <;> omega
    · obtain rfl : k = T.length := by omega
      have g0 : ¬ (T.length : Int) < (T.length : Int) := by omega
      rw [List.drop_length] at hD
      have hXl := refT_len (N, ar, m) false T
      have hXz := refT_tsz (N, ar, m) false T
      have hXm := refT_sub (N, ar, m) false T
      simp only [Bool.false_eq_true, if_false] at hXl hXz
      have hXs : tsz1 (N, ar, m) ≤ 1000 := by unfold tsz1; show N.length + (m.length + total m) ≤ 1000; omega
      have hXn : ∀ t ∈ refT (N, ar, m) false T, t.1.length ≤ 1048576 := fun t ht => by
        rcases hXm t ht with rfl | h
        · exact hnm
        · exact Hhmem.out t h
      have hXt : (refT (N, ar, m) false T).length + tsz (refT (N, ar, m) false T) ≤ 1048576 := by omega
      have hu1 := segM_up Hhu.out hb
      have hvT : TRow w (.slice A T.length c) T := Hhv.out.row
      have k1 := fun W h => IsValidDatabase_s (.slice A T.length c) T Hhmem.out W h
      have k3 := fun W h => l6Copy_s (.slice A T.length c) T (by omega) W h
      have k2 := fun v W h => IsValidDatabase_s v (refT (N, ar, m) false T) hXn W h
      have k4 := fun v W h => l6Copy_s v (refT (N, ar, m) false T) hXt W h
      have t3c := cellAt y3 0
      clear hXl hXz hXm hXs hXn hXt hlt
      generalize refT (N, ar, m) false T = X at *
      cases p with
      | true =>
        have hDX : D = X := by rw [← hD]; simp [refT]
        subst hDX
        clear hD hDk hDp
        have E0 := Lib.hid y0
        have E2 := Lib.hid y2
        have E3 := Lib.hid y3
        have Eb := Lib.hid hb
        have Eo := Lib.hid hown
        have Ev := Lib.hid (hvT.below hb)
        clear y0 y1 y2 y3 hb hown hvT
        have Hhu1 := Lib.hid hu1; clear hu1; have Hhl3 := Lib.hid hl3; clear hl3
        have Es0 := cellAt E0.out 0
        have Es3 := cellAt E3.out 0
        cases hd : dbOk T with
        | false =>
          rw [hd] at k1
          have Hk1 := Lib.hid k1; clear k1; have Hk2 := Lib.hid k2; clear k2; have Hk3 := Lib.hid k3; clear k3; have Hk4 := Lib.hid k4; clear k4; have Hhd := Lib.hid hd; clear hd
          go_wp2_with (first | (go_at_call 83; ((with_reducible refine (Hk1.out _ Ev.out).mono ?_); rintro e w5 ⟨rfl, hb5⟩; (have F0 := Lib.hid (blockB hb5 E0.out); have F2 := Lib.hid (blockB hb5 E2.out); have F3 := Lib.hid (blockB hb5 E3.out); have Fb := Lib.hid (Eb.out.trans (hb5.mono Eb.out.size)); have Fo := Lib.hid (OwnD.below Eo.out hb5); have Fv := Lib.hid (Ev.out.below hb5); have Fs0 := cellAt F0.out 0; have Fs3 := cellAt F3.out 0))) | (go_at_call 117; ((with_reducible refine (Hk3.out _ Fv.out).mono ?_); rintro e w7 ⟨A7, c7, rfl, own7, hb7⟩; (have J2 := blockB hb7 F2.out; have Jb := Fb.out.trans (hb7.mono Fb.out.size); have Js := cellAt J2 0; have Jf := frozen0 (j := 0) J2))))
          refine bodyPost_ret (res_db_tmp rfl rfl rfl (setS1 J2 _)) rfl (retX_of (b' := false) (by rw [Hhd.out]; rfl) rfl (Jb.setCell (p := ⟨w.heap.size + 2, 0, none⟩) (by show w.heap.size ≤ w.heap.size + 2; omega) _))
        | true =>
          rw [hd] at k1
          cases hx : dbOk D with
          | false =>
            rw [hx] at k2
            have Hk1 := Lib.hid k1; clear k1; have Hk2 := Lib.hid k2; clear k2; have Hk3 := Lib.hid k3; clear k3; have Hk4 := Lib.hid k4; clear k4; have Hhd := Lib.hid hd; clear hd; have Hhx := Lib.hid hx; clear hx
            go_wp2_with (first | (go_at_call 83; ((with_reducible refine (Hk1.out _ Ev.out).mono ?_); rintro e w5 ⟨rfl, hb5⟩; (have F0 := Lib.hid (blockB hb5 E0.out); have F2 := Lib.hid (blockB hb5 E2.out); have F3 := Lib.hid (blockB hb5 E3.out); have Fb := Lib.hid (Eb.out.trans (hb5.mono Eb.out.size)); have Fo := Lib.hid (OwnD.below Eo.out hb5); have Fv := Lib.hid (Ev.out.below hb5); have Fs0 := cellAt F0.out 0; have Fs3 := cellAt F3.out 0))) | (go_at_call 83; ((with_reducible refine (Hk2.out _ _ (OwnD.trow Fo.out)).mono ?_); rintro e w6 ⟨rfl, hb6⟩; (have G0 := Lib.hid (blockB hb6 F0.out); have G2 := Lib.hid (blockB hb6 F2.out); have G3 := Lib.hid (blockB hb6 F3.out); have Gb := Lib.hid (Fb.out.trans (hb6.mono Fb.out.size)); have Go := Lib.hid (OwnD.below Fo.out hb6); have Gv := Lib.hid (Fv.out.below hb6); have Gs0 := cellAt G0.out 0; have Gs3 := cellAt G3.out 0))) | (go_at_call 117; ((with_reducible refine (Hk3.out _ Gv.out).mono ?_); rintro e w7 ⟨A7, c7, rfl, own7, hb7⟩; (have J2 := blockB hb7 G2.out; have Jb := Gb.out.trans (hb7.mono Gb.out.size); have Js := cellAt J2 0; have Jf := frozen0 (j := 0) J2))))
            refine bodyPost_ret (res_db_tmp rfl rfl rfl (setS1 J2 _)) rfl (retX_of (b' := false) (by rw [Hhd.out, Hhx.out]; rfl) rfl (Jb.setCell (p := ⟨w.heap.size + 2, 0, none⟩) (by show w.heap.size ≤ w.heap.size + 2; omega) _))
          | true =>
            rw [hx] at k2
            have Hk1 := Lib.hid k1; clear k1; have Hk2 := Lib.hid k2; clear k2; have Hk3 := Lib.hid k3; clear k3; have Hk4 := Lib.hid k4; clear k4; have Hhd := Lib.hid hd; clear hd; have Hhx := Lib.hid hx; clear hx
            go_wp2_with (first | (go_at_call 83; ((with_reducible refine (Hk1.out _ Ev.out).mono ?_); rintro e w5 ⟨rfl, hb5⟩; (have F0 := Lib.hid (blockB hb5 E0.out); have F2 := Lib.hid (blockB hb5 E2.out); have F3 := Lib.hid (blockB hb5 E3.out); have Fb := Lib.hid (Eb.out.trans (hb5.mono Eb.out.size)); have Fo := Lib.hid (OwnD.below Eo.out hb5); have Fv := Lib.hid (Ev.out.below hb5); have Fs0 := cellAt F0.out 0; have Fs3 := cellAt F3.out 0))) | (go_at_call 83; ((with_reducible refine (Hk2.out _ _ (OwnD.trow Fo.out)).mono ?_); rintro e w6 ⟨rfl, hb6⟩; (have G0 := Lib.hid (blockB hb6 F0.out); have G2 := Lib.hid (blockB hb6 F2.out); have G3 := Lib.hid (blockB hb6 F3.out); have Gb := Lib.hid (Fb.out.trans (hb6.mono Fb.out.size)); have Go := Lib.hid (OwnD.below Fo.out hb6); have Gv := Lib.hid (Fv.out.below hb6); have Gs0 := cellAt G0.out 0; have Gs3 := cellAt G3.out 0))) | (go_at_call 117; ((with_reducible refine (Hk4.out _ _ (OwnD.trow Go.out)).mono ?_); rintro e w7 ⟨A7, c7, rfl, own7, hb7⟩; (have J2 := blockB hb7 G2.out; have Jb := Gb.out.trans (hb7.mono Gb.out.size); have Js := cellAt J2 0; have Jf := frozen0 (j := 0) J2))))
            refine bodyPost_ret (res_db_tmp rfl rfl rfl (setS1 J2 _)) rfl (retX_of (b' := true) (by rw [Hhd.out, Hhx.out]; rfl) rfl (Jb.setCell (p := ⟨w.heap.size + 2, 0, none⟩) (by show w.heap.size ≤ w.heap.size + 2; omega) _))
      | false =>
        have hDX : D ++ [(N, ar, m)] = X := by rw [← hD]; simp [refT]
        subst hDX
        clear hD
        have u0 := cellAt y3 0
        have r0 := cellAt y1 0
        have r1 := cellAt y1 1
        have hl3' := hl3
        have hDl : D.length + 1 ≤ 1099511627776 := by omega
        clear hDk hDp
        have Hhu1 := Lib.hid hu1; clear hu1; have Hhl3 := Lib.hid hl3; clear hl3; have Hy0 := Lib.hid y0; clear y0; have Hy1 := Lib.hid y1; clear y1; have Hy2 := Lib.hid y2; clear y2; have Hy3 := Lib.hid y3; clear y3; have Hhb := Lib.hid hb; clear hb; have Hhown := Lib.hid hown; clear hown; have HhvT := Lib.hid hvT; clear hvT
        cases hd : dbOk T with
        | false =>
          rw [hd] at k1
          have Hk1 := Lib.hid k1; clear k1; have Hk2 := Lib.hid k2; clear k2; have Hk3 := Lib.hid k3; clear k3; have Hk4 := Lib.hid k4; clear k4; have Hhd := Lib.hid hd; clear hd
          go_wp2_with (first | (at_builtin; go_must (refine wp_append_tab rfl _ _ rfl (w.heap.size + 4) 0 _ D rfl Hhown.out (N, ar, m) (.slice Au m.length cu) Hhu1.out rfl hDl (by omega) ?_; intro v3 w3 own3 hgr3 hb3; obtain ⟨A3, q3, e3, -⟩ := OwnD.opened own3; rw [List.length_append, List.length_singleton] at e3; subst e3; have z03 := blockL (k := w.heap.size) hb3 (by omega) Hy0.out; have z13 := blockL (k := w.heap.size + 1) hb3 (by omega) Hy1.out; have z23 := blockL (k := w.heap.size + 2) hb3 (by omega) Hy2.out; have z33 := blockL (k := w.heap.size + 3) hb3 (by omega) Hy3.out; have f33 := frozen0 (j := 0) z33; have u33 := cellAt z33 0; have E0 := Lib.hid (setO (g := w.heap.size + 3) (j := 0) (show w.heap.size ≠ w.heap.size + 3 by omega) z03 (.slice A3 (D.length + 1) q3)); have E2 := Lib.hid (setO (g := w.heap.size + 3) (j := 0) (show w.heap.size + 2 ≠ w.heap.size + 3 by omega) z23 (.slice A3 (D.length + 1) q3)); have E3 := Lib.hid (setS1 z33 (.slice A3 (D.length + 1) q3)); have hbf := Hhb.out.trans (hb3.mono (by omega)); have Eb := Lib.hid (hbf.setCell (p := ⟨w.heap.size + 3, 0, none⟩) (by show w.heap.size ≤ w.heap.size + 3; omega) (.slice A3 (D.length + 1) q3)); have Eo := Lib.hid (OwnD.setO (j := 0) own3 z33 (by decide) (.slice A3 (D.length + 1) q3)); have Ev := Lib.hid (HhvT.out.below Eb.out); have Es0 := cellAt E0.out 0; have Es3 := cellAt E3.out 0)) | (go_at_call 83; ((with_reducible refine (Hk1.out _ Ev.out).mono ?_); rintro e w5 ⟨rfl, hb5⟩; (have F0 := Lib.hid (blockB hb5 E0.out); have F2 := Lib.hid (blockB hb5 E2.out); have F3 := Lib.hid (blockB hb5 E3.out); have Fb := Lib.hid (Eb.out.trans (hb5.mono Eb.out.size)); have Fo := Lib.hid (OwnD.below Eo.out hb5); have Fv := Lib.hid (Ev.out.below hb5); have Fs0 := cellAt F0.out 0; have Fs3 := cellAt F3.out 0))) | (go_at_call 117; ((with_reducible refine (Hk3.out _ Fv.out).mono ?_); rintro e w7 ⟨A7, c7, rfl, own7, hb7⟩; (have J2 := blockB hb7 F2.out; have Jb := Fb.out.trans (hb7.mono Fb.out.size); have Js := cellAt J2 0; have Jf := frozen0 (j := 0) J2))))
          refine bodyPost_ret (res_db_tmp rfl rfl rfl (setS1 J2 _)) rfl (retX_of (b' := false) (by rw [Hhd.out]; rfl) rfl (Jb.setCell (p := ⟨w.heap.size + 2, 0, none⟩) (by show w.heap.size ≤ w.heap.size + 2; omega) _))
        | true =>
          rw [hd] at k1
          cases hx : dbOk (D ++ [(N, ar, m)]) with
          | false =>
            rw [hx] at k2
            have Hk1 := Lib.hid k1; clear k1; have Hk2 := Lib.hid k2; clear k2; have Hk3 := Lib.hid k3; clear k3; have Hk4 := Lib.hid k4; clear k4; have Hhd := Lib.hid hd; clear hd; have Hhx := Lib.hid hx; clear hx
            go_wp2_with (first | (at_builtin; go_must (refine wp_append_tab rfl _ _ rfl (w.heap.size + 4) 0 _ D rfl Hhown.out (N, ar, m) (.slice Au m.length cu) Hhu1.out rfl hDl (by omega) ?_; intro v3 w3 own3 hgr3 hb3; obtain ⟨A3, q3, e3, -⟩ := OwnD.opened own3; rw [List.length_append, List.length_singleton] at e3; subst e3; have z03 := blockL (k := w.heap.size) hb3 (by omega) Hy0.out; have z13 := blockL (k := w.heap.size + 1) hb3 (by omega) Hy1.out; have z23 := blockL (k := w.heap.size + 2) hb3 (by omega) Hy2.out; have z33 := blockL (k := w.heap.size + 3) hb3 (by omega) Hy3.out; have f33 := frozen0 (j := 0) z33; have u33 := cellAt z33 0; have E0 := Lib.hid (setO (g := w.heap.size + 3) (j := 0) (show w.heap.size ≠ w.heap.size + 3 by omega) z03 (.slice A3 (D.length + 1) q3)); have E2 := Lib.hid (setO (g := w.heap.size + 3) (j := 0) (show w.heap.size + 2 ≠ w.heap.size + 3 by omega) z23 (.slice A3 (D.length + 1) q3)); have E3 := Lib.hid (setS1 z33 (.slice A3 (D.length + 1) q3)); have hbf := Hhb.out.trans (hb3.mono (by omega)); have Eb := Lib.hid (hbf.setCell (p := ⟨w.heap.size + 3, 0, none⟩) (by show w.heap.size ≤ w.heap.size + 3; omega) (.slice A3 (D.length + 1) q3)); have Eo := Lib.hid (OwnD.setO (j := 0) own3 z33 (by decide) (.slice A3 (D.length + 1) q3)); have Ev := Lib.hid (HhvT.out.below Eb.out); have Es0 := cellAt E0.out 0; have Es3 := cellAt E3.out 0)) | (go_at_call 83; ((with_reducible refine (Hk1.out _ Ev.out).mono ?_); rintro e w5 ⟨rfl, hb5⟩; (have F0 := Lib.hid (blockB hb5 E0.out); have F2 := Lib.hid (blockB hb5 E2.out); have F3 := Lib.hid (blockB hb5 E3.out); have Fb := Lib.hid (Eb.out.trans (hb5.mono Eb.out.size)); have Fo := Lib.hid (OwnD.below Eo.out hb5); have Fv := Lib.hid (Ev.out.below hb5); have Fs0 := cellAt F0.out 0; have Fs3 := cellAt F3.out 0))) | (go_at_call 83; ((with_reducible refine (Hk2.out _ _ (OwnD.trow Fo.out)).mono ?_); rintro e w6 ⟨rfl, hb6⟩; (have G0 := Lib.hid (blockB hb6 F0.out); have G2 := Lib.hid (blockB hb6 F2.out); have G3 := Lib.hid (blockB hb6 F3.out); have Gb := Lib.hid (Fb.out.trans (hb6.mono Fb.out.size)); have Go := Lib.hid (OwnD.below Fo.out hb6); have Gv := Lib.hid (Fv.out.below hb6); have Gs0 := cellAt G0.out 0; have Gs3 := cellAt G3.out 0))) | (go_at_call 117; ((with_reducible refine (Hk3.out _ Gv.out).mono ?_); rintro e w7 ⟨A7, c7, rfl, own7, hb7⟩; (have J2 := blockB hb7 G2.out; have Jb := Gb.out.trans (hb7.mono Gb.out.size); have Js := cellAt J2 0; have Jf := frozen0 (j := 0) J2))))
            refine bodyPost_ret (res_db_tmp rfl rfl rfl (setS1 J2 _)) rfl (retX_of (b' := false) (by rw [Hhd.out, Hhx.out]; rfl) rfl (Jb.setCell (p := ⟨w.heap.size + 2, 0, none⟩) (by show w.heap.size ≤ w.heap.size + 2; omega) _))
          | true =>
            rw [hx] at k2
            have Hk1 := Lib.hid k1; clear k1; have Hk2 := Lib.hid k2; clear k2; have Hk3 := Lib.hid k3; clear k3; have Hk4 := Lib.hid k4; clear k4; have Hhd := Lib.hid hd; clear hd; have Hhx := Lib.hid hx; clear hx
            go_wp2_with (first | (at_builtin; go_must (refine wp_append_tab rfl _ _ rfl (w.heap.size + 4) 0 _ D rfl Hhown.out (N, ar, m) (.slice Au m.length cu) Hhu1.out rfl hDl (by omega) ?_; intro v3 w3 own3 hgr3 hb3; obtain ⟨A3, q3, e3, -⟩ := OwnD.opened own3; rw [List.length_append, List.length_singleton] at e3; subst e3; have z03 := blockL (k := w.heap.size) hb3 (by omega) Hy0.out; have z13 := blockL (k := w.heap.size + 1) hb3 (by omega) Hy1.out; have z23 := blockL (k := w.heap.size + 2) hb3 (by omega) Hy2.out; have z33 := blockL (k := w.heap.size + 3) hb3 (by omega) Hy3.out; have f33 := frozen0 (j := 0) z33; have u33 := cellAt z33 0; have E0 := Lib.hid (setO (g := w.heap.size + 3) (j := 0) (show w.heap.size ≠ w.heap.size + 3 by omega) z03 (.slice A3 (D.length + 1) q3)); have E2 := Lib.hid (setO (g := w.heap.size + 3) (j := 0) (show w.heap.size + 2 ≠ w.heap.size + 3 by omega) z23 (.slice A3 (D.length + 1) q3)); have E3 := Lib.hid (setS1 z33 (.slice A3 (D.length + 1) q3)); have hbf := Hhb.out.trans (hb3.mono (by omega)); have Eb := Lib.hid (hbf.setCell (p := ⟨w.heap.size + 3, 0, none⟩) (by show w.heap.size ≤ w.heap.size + 3; omega) (.slice A3 (D.length + 1) q3)); have Eo := Lib.hid (OwnD.setO (j := 0) own3 z33 (by decide) (.slice A3 (D.length + 1) q3)); have Ev := Lib.hid (HhvT.out.below Eb.out); have Es0 := cellAt E0.out 0; have Es3 := cellAt E3.out 0)) | (go_at_call 83; ((with_reducible refine (Hk1.out _ Ev.out).mono ?_); rintro e w5 ⟨rfl, hb5⟩; (have F0 := Lib.hid (blockB hb5 E0.out); have F2 := Lib.hid (blockB hb5 E2.out); have F3 := Lib.hid (blockB hb5 E3.out); have Fb := Lib.hid (Eb.out.trans (hb5.mono Eb.out.size)); have Fo := Lib.hid (OwnD.below Eo.out hb5); have Fv := Lib.hid (Ev.out.below hb5); have Fs0 := cellAt F0.out 0; have Fs3 := cellAt F3.out 0))) | (go_at_call 83; ((with_reducible refine (Hk2.out _ _ (OwnD.trow Fo.out)).mono ?_); rintro e w6 ⟨rfl, hb6⟩; (have G0 := Lib.hid (blockB hb6 F0.out); have G2 := Lib.hid (blockB hb6 F2.out); have G3 := Lib.hid (blockB hb6 F3.out); have Gb := Lib.hid (Fb.out.trans (hb6.mono Fb.out.size)); have Go := Lib.hid (OwnD.below Fo.out hb6); have Gv := Lib.hid (Fv.out.below hb6); have Gs0 := cellAt G0.out 0; have Gs3 := cellAt G3.out 0))) | (go_at_call 117; ((with_reducible refine (Hk4.out _ _ (OwnD.trow Go.out)).mono ?_); rintro e w7 ⟨A7, c7, rfl, own7, hb7⟩; (have J2 := blockB hb7 G2.out; have Jb := Gb.out.trans (hb7.mono Gb.out.size); have Js := cellAt J2 0; have Jf := frozen0 (j := 0) J2))))
            refine bodyPost_ret (res_db_tmp rfl rfl rfl (setS1 J2 _)) rfl (retX_of (b' := true) (by rw [Hhd.out, Hhx.out]; rfl) rfl (Jb.setCell (p := ⟨w.heap.size + 2, 0, none⟩) (by show w.heap.size ≤ w.heap.size + 2; omega) _))
end Go.Proofs.Ytbajnecahojcfaa
