/- Difference, both. (Written by mkdif.py.) -/
import Derived.Test.YtbajnecahojcfaaUnion
import Derived.Test.YtbajnecahojcfaaCon
import Derived.Test.YtbajnecahojcfaaCopy
namespace Go.Proofs.Ytbajnecahojcfaa
open Go.RowKit Go.Sort
set_option maxHeartbeats 8000000
set_option maxRecDepth 100000
def RetD (a : Int) (ma : List (List Int)) (b : Int) (mb : List (List Int)) (w : World) (e : Ending) (w' : World) : Prop := RetMB (difA a ma b mb) (difM a ma b mb) (twoOk a ma b mb) w e w'
theorem retD_no {a b : Int} {ma mb : List (List Int)} {w w' : World} {e : Ending} (h : twoOk a ma b mb = false) (he : e = .returned (.tuple #[.agg #[.int .i64 0, .slice none 0 0], .bool false])) (hb : Below w.heap.size w w') : RetD a ma b mb w e w' := by
  unfold RetD difA difM
  rw [h]
  exact ⟨none, 0, he, OwnM.nil _ _, hb⟩
theorem retD_yes {a b : Int} {ma mb D : List (List Int)} {w w' : World} {e : Ending} {A : Option Addr} {c : Nat} (h : twoOk a ma b mb = true) (hD : difM a ma b mb = D) (he : e = .returned (.tuple #[.agg #[.int .i64 a, .slice A D.length c], .bool true])) (hown : OwnM w' w.heap.size (.slice A D.length c) D) (hb : Below w.heap.size w w') : RetD a ma b mb w e w' := by
  have e1 : difA a ma b mb = a := by unfold difA; rw [if_pos h]
  unfold RetD
  rw [e1, hD, h]
  exact ⟨A, c, he, hown, hb⟩
theorem dif_end {a b : Int} {ma mb D : List (List Int)} (h : twoOk a ma b mb = true) (hD : D = ma.filter (fun r => !plB mb r)) : difM a ma b mb = D := by unfold difM; rw [if_pos h, hD]
theorem dif_skip {ma mb D : List (List Int)} {k : Nat} (hk : k < ma.length) (hD : D = (ma.take k).filter (fun r => !plB mb r)) (h : plB mb ma[k] = true) : D = (ma.take (k + 1)).filter (fun r => !plB mb r) := by
  rw [List.take_succ_eq_append_getElem hk, List.filter_append, ← hD]
  simp [h]
theorem dif_take {ma mb D : List (List Int)} {k : Nat} (hk : k < ma.length) (hD : D = (ma.take k).filter (fun r => !plB mb r)) (h : plB mb ma[k] = false) : D ++ [ma[k]] = (ma.take (k + 1)).filter (fun r => !plB mb r) := by
  rw [List.take_succ_eq_append_getElem hk, List.filter_append, ← hD]
  simp [h]
theorem Difference_i (u v : Value) (a b : Int) (ma mb : List (List Int)) (w : World) (hu : MRow w u ma) (hv : MRow w v mb) (hl : ma.length + mb.length + total ma + total mb ≤ 1099511627775) : Calls Try.prog 75 #[.agg #[.int .i64 a, u], .agg #[.int .i64 b, v]] w (RetD a ma b mb w) := by
  have y0 := heapN (heapN (heap_alloc_new w (.cells #[.int .i64 a, u] 44)) (.cells #[.int .i64 b, v] 44)) (.cells #[.int .i64 0, .slice none 0 0] 44)
  have y1 := heapN (heap_new1 w (.cells #[.int .i64 a, u] 44) (.cells #[.int .i64 b, v] 44)) (.cells #[.int .i64 0, .slice none 0 0] 44)
  have y2 := heap_new2 w (.cells #[.int .i64 a, u] 44) (.cells #[.int .i64 b, v] 44) (.cells #[.int .i64 0, .slice none 0 0] 44)
  have hB : Below w.heap.size w (((w.alloc (.cells #[.int .i64 a, u] 44)).alloc (.cells #[.int .i64 b, v] 44)).alloc (.cells #[.int .i64 0, .slice none 0 0] 44)) := (((Below.refl _ _).alloc (Nat.le_refl _) _).alloc (by simp) _).alloc (by simp; omega) _
  replace hu := hu.below hB
  replace hv := hv.below hB
  obtain ⟨A, c, rfl⟩ := MRow.opened hu
  obtain ⟨A', c', rfl⟩ := MRow.opened hv
  have k1 := IsValidRelation_i (.slice A ma.length c) a ma _ hu
  have k2 := fun W (h : MRow W (.slice A' mb.length c') mb) => IsValidRelation_i (.slice A' mb.length c') b mb W h
  cases h1 : relOk a ma with
  | false =>
    rw [h1] at k1
    have e := two_a (b := b) (mb := mb) h1
    have Hhu := Lib.hid hu; clear hu; have Hhv := Lib.hid hv; clear hv; have HhB := Lib.hid hB; clear hB; have Hy0 := Lib.hid y0; clear y0; have Hy1 := Lib.hid y1; clear y1; have Hk1 := Lib.hid k1; clear k1; have Hk2 := Lib.hid k2; clear k2; have Hh1 := Lib.hid h1; clear h1; have He := Lib.hid e; clear e
    go_enter Try.func75, Try.ntmps75
    go_wp2_with (go_at_call 68; ((with_reducible refine (Hk1.out).mono ?_); rintro e w1 ⟨rfl, hb1⟩; (have z0 := blockB hb1 Hy0.out; have z1 := blockB hb1 Hy1.out; have z2 := blockB hb1 y2; have t0 := cellAt z1 0; have t1 := cellAt z1 1; have hv1 := Hhv.out.below hb1; have hu1 := Hhu.out.below hb1; have hB1 := below_tr HhB.out hb1; have u0 := cellAt z2 0; have u1 := cellAt z2 1; have f0 := frozen0 (j := 0) z2; have f1 := frozen0 (j := 1) z2)))
    refine bodyPost_ret (res_rel_tmp rfl rfl rfl (set1 (set0 z2 _) _)) rfl (retD_no He.out rfl ?_)
    exact (hB1.setCell (p := ⟨w.heap.size + 2, 0, none⟩) (by show w.heap.size ≤ w.heap.size + 2; omega) _).setCell (p := ⟨w.heap.size + 2, 1, none⟩) (by show w.heap.size ≤ w.heap.size + 2; omega) _
  | true =>
    rw [h1] at k1
    cases h2 : relOk b mb with
    | false =>
      rw [h2] at k2
      have e := two_b (a := a) (ma := ma) h2
      have Hhu := Lib.hid hu; clear hu; have Hhv := Lib.hid hv; clear hv; have HhB := Lib.hid hB; clear hB; have Hy0 := Lib.hid y0; clear y0; have Hy1 := Lib.hid y1; clear y1; have Hk1 := Lib.hid k1; clear k1; have Hk2 := Lib.hid k2; clear k2; have Hh1 := Lib.hid h1; clear h1; have Hh2 := Lib.hid h2; clear h2; have He := Lib.hid e; clear e
      go_enter Try.func75, Try.ntmps75
      go_wp2_with (first | (go_at_call 68; ((with_reducible refine (Hk1.out).mono ?_); rintro e w1 ⟨rfl, hb1⟩; (have z0 := blockB hb1 Hy0.out; have z1 := blockB hb1 Hy1.out; have z2 := blockB hb1 y2; have t0 := cellAt z1 0; have t1 := cellAt z1 1; have hv1 := Hhv.out.below hb1; have hu1 := Hhu.out.below hb1; have hB1 := below_tr HhB.out hb1))) | (go_at_call 68; ((with_reducible refine (Hk2.out _ hv1).mono ?_); rintro e w2 ⟨rfl, hb2⟩; (have x0 := blockB hb2 z0; have x1 := blockB hb2 z1; have v0 := cellAt x0 0; have v1 := cellAt x1 0; have x2 := blockB hb2 z2; have u0 := cellAt x2 0; have u1 := cellAt x2 1; have f0 := frozen0 (j := 0) x2; have f1 := frozen0 (j := 1) x2; have hB2 := below_tr hB1 hb2))))
      refine bodyPost_ret (res_rel_tmp rfl rfl rfl (set1 (set0 x2 _) _)) rfl (retD_no He.out rfl ?_)
      exact (hB2.setCell (p := ⟨w.heap.size + 2, 0, none⟩) (by show w.heap.size ≤ w.heap.size + 2; omega) _).setCell (p := ⟨w.heap.size + 2, 1, none⟩) (by show w.heap.size ≤ w.heap.size + 2; omega) _
    | true =>
      rw [h2] at k2
      by_cases hab : a = b
      rotate_left
      · have e := two_ab (ma := ma) (mb := mb) hab
        have d1 : (a != b) = true := by rw [bne_iff_ne]; exact hab
        have Hhu := Lib.hid hu; clear hu; have Hhv := Lib.hid hv; clear hv; have HhB := Lib.hid hB; clear hB; have Hy0 := Lib.hid y0; clear y0; have Hy1 := Lib.hid y1; clear y1; have Hk1 := Lib.hid k1; clear k1; have Hk2 := Lib.hid k2; clear k2; have Hh1 := Lib.hid h1; clear h1; have Hh2 := Lib.hid h2; clear h2; have Hhab := Lib.hid hab; clear hab; have He := Lib.hid e; clear e
        go_enter Try.func75, Try.ntmps75
        go_wp2_with (first | (go_at_call 68; ((with_reducible refine (Hk1.out).mono ?_); rintro e w1 ⟨rfl, hb1⟩; (have z0 := blockB hb1 Hy0.out; have z1 := blockB hb1 Hy1.out; have z2 := blockB hb1 y2; have t0 := cellAt z1 0; have t1 := cellAt z1 1; have hv1 := Hhv.out.below hb1; have hu1 := Hhu.out.below hb1; have hB1 := below_tr HhB.out hb1))) | (go_at_call 68; ((with_reducible refine (Hk2.out _ hv1).mono ?_); rintro e w2 ⟨rfl, hb2⟩; (have x0 := blockB hb2 z0; have x1 := blockB hb2 z1; have v0 := cellAt x0 0; have v1 := cellAt x1 0; have x2 := blockB hb2 z2; have u0 := cellAt x2 0; have u1 := cellAt x2 1; have f0 := frozen0 (j := 0) x2; have f1 := frozen0 (j := 1) x2; have hB2 := below_tr hB1 hb2))))
        refine bodyPost_ret (res_rel_tmp rfl rfl rfl (set1 (set0 x2 _) _)) rfl (retD_no He.out rfl ?_)
        exact (hB2.setCell (p := ⟨w.heap.size + 2, 0, none⟩) (by show w.heap.size ≤ w.heap.size + 2; omega) _).setCell (p := ⟨w.heap.size + 2, 1, none⟩) (by show w.heap.size ≤ w.heap.size + 2; omega) _
      have d1 : (a != b) = false := by simp [hab]
      have e := two_yes h1 h2 hab
      have Hhu := Lib.hid hu; clear hu; have Hhv := Lib.hid hv; clear hv; have HhB := Lib.hid hB; clear hB; have Hy0 := Lib.hid y0; clear y0; have Hy1 := Lib.hid y1; clear y1; have Hk1 := Lib.hid k1; clear k1; have Hk2 := Lib.hid k2; clear k2; have Hh1 := Lib.hid h1; clear h1; have Hh2 := Lib.hid h2; clear h2; have He := Lib.hid e; clear e; have Hhab := Lib.hid hab; clear hab
      go_enter Try.func75, Try.ntmps75
      go_wp2_with (first
        | (go_at_call 68; ((with_reducible refine (Hk1.out).mono ?_); rintro e w1 ⟨rfl, hb1⟩; (have z0 := blockB hb1 Hy0.out; have z1 := blockB hb1 Hy1.out; have z2 := blockB hb1 y2; have t0 := cellAt z1 0; have t1 := cellAt z1 1; have hv1 := Hhv.out.below hb1; have hu1 := Hhu.out.below hb1; have hB1 := below_tr HhB.out hb1)))
        | (go_at_call 68; ((with_reducible refine (Hk2.out _ hv1).mono ?_); rintro e w2 ⟨rfl, hb2⟩; (have x0 := blockB hb2 z0; have x1 := blockB hb2 z1; have v0 := cellAt x0 0; have v1 := cellAt x1 0; have x2 := blockB hb2 z2; have u0 := cellAt x2 0; have u1 := cellAt x2 1; have f0 := frozen0 (j := 0) x2; have f1 := frozen0 (j := 1) x2; have hB2 := below_tr hB1 hb2; have hv2 := hv1.below hb2; have hu2 := hu1.below hb2; have v2 := cellAt x0 1; have v2a := fun o => cellAt (heapN x0 o) 1)))
        )
      have hx2 := lt_of_heap x2
      have hba : Below w2.heap.size w2 (w2.alloc (.cells #[.int .i64 a, .slice none 0 0] 44)) := (Below.refl _ _).alloc (Nat.le_refl _) _
      have yX := heap_alloc_new w2 (.cells #[.int .i64 a, .slice none 0 0] 44)
      clear z0 z1 z2 t0 t1 u0 u1 f0 f1 v0 v1 v2 v2a hv1 hu1 d1
      obtain ⟨-, -, -, -, -, -, hA⟩ : True ∧ True ∧ True ∧ True ∧ True ∧ True ∧ ∀ i (_ : i < ma.length), ∃ b off, A = some ⟨b, off, none⟩ ∧ ∀ j (hj : j < ma.length), ∃ A' c', w2.cell? ⟨b, off + j, none⟩ = some (.slice A' ma[j].length c') ∧ IRow w2 (.slice A' ma[j].length c') ma[j] := by
        obtain ⟨A9, c9, e9, -, -, -, h9⟩ := MRow.open hu2
        simp only [Value.slice.injEq] at e9
        obtain ⟨rfl, -, rfl⟩ := e9
        exact ⟨trivial, trivial, trivial, trivial, trivial, trivial, h9⟩
      have HhA := Lib.hid hA; clear hA; have HyX := Lib.hid yX; clear yX; have Hhba := Lib.hid hba; clear hba; have Hhv2 := Lib.hid hv2; clear hv2; have Hhu2 := Lib.hid hu2; clear hu2; have Hx0 := Lib.hid x0; clear x0; have Hx1 := Lib.hid x1; clear x1; have Hx2 := Lib.hid x2; clear x2; have HhB2 := Lib.hid hB2; clear hB2
      go_loopw [31] (fun i wr => ∃ (k : Nat) (D : List (List Int)) (A3 : Option Addr) (q3 : Nat), i = .int .i64 k ∧ k ≤ ma.length ∧ D.length ≤ k ∧ D = (ma.take k).filter (fun r => !plB mb r) ∧ wr.heap[w2.heap.size]? = some (.cells #[.int .i64 a, .slice A3 D.length q3] 44 (0, 0)) ∧ OwnM wr (w2.heap.size + 1) (.slice A3 D.length q3) D ∧ Below w2.heap.size w2 wr) (fun i _ => ma.length - (intOf i).toNat)
      case atStart => exact ⟨0, [], none, 0, rfl, Nat.zero_le _, Nat.le_refl _, rfl, HyX.out, OwnM.nil _ _, Hhba.out⟩
      case round =>
        obtain ⟨k, D, A3, q3, rfl, hk, hDk, hD, rX, hown, hbw⟩ := hrel
        have x0 := blockB hbw Hx0.out
        have x1 := blockB hbw Hx1.out
        have x2 := blockB hbw Hx2.out
        have hX := lt_of_heap rX
        have hbs := hbw.size
        by_cases hlt : k < ma.length
        · have g0 : (k : Int) < (ma.length : Int) := by omega
          obtain ⟨b3, off3, rfl, h3⟩ := HhA.out k hlt
          obtain ⟨A1, q1, c1, r1⟩ := h3 k hlt
          replace r1 := r1.below hbw
          replace c1 := cellB hbw c1
          clear h3
          have hml : ma[k].length ≤ 1099511627776 := by have := total_mem (List.getElem_mem hlt); omega
          have hv3 := Hhv2.out.below hbw
          have hno := fun h => dif_skip (mb := mb) hlt hD h
          have hyes := fun h => dif_take (mb := mb) hlt hD h
          obtain ⟨r, hr⟩ : ∃ r, ma[k] = r := ⟨_, rfl⟩
          rw [hr] at c1 r1 hml hno hyes
          have t0 := cellAt x0 0; have t1 := cellAt x0 1; have s0 := cellAt x1 0; have s1 := cellAt x1 1; have v0 := cellAt rX 0; have v1 := cellAt rX 1
          have k3 := fun W h h' => ContainsRow_i (.slice A' mb.length c') (.slice A1 r.length q1) b mb r W h h' (by omega)
          have hc : conB b mb r = plB mb r := by unfold conB; rw [Hh2.out]; rfl
          rw [hc] at k3
          clear hc
          cases hq : plB mb r with
          | true =>
            have hn := hno hq
            rw [hq] at k3
            have Hhr := Lib.hid hr; clear hr; have Hr1 := Lib.hid r1; clear r1; have HhD := Lib.hid hD; clear hD; have Hhv3 := Lib.hid hv3; clear hv3; have Hhno := Lib.hid hno; clear hno; have Hhyes := Lib.hid hyes; clear hyes; have Hhq := Lib.hid hq; clear hq; have Hk3 := Lib.hid k3; clear k3; have Hhn := Lib.hid hn; clear hn; have Hhown := Lib.hid hown; clear hown
            go_wp2_with (go_at_call 70; ((with_reducible refine (Hk3.out _ Hhv3.out Hr1.out).mono ?_); rintro e w4 ⟨rfl, hb4⟩))
            go_roundw
            case rel => exact ⟨k + 1, D, A3, q3, by go_num, by omega, by omega, Hhn.out, blockB hb4 rX, SegM.wide (SegM.below Hhown.out hb4) (Nat.le_refl _) hb4.size, hbw.trans (hb4.mono hbs)⟩
            case measure => simp [intOf] <;> omega
          | false =>
            have hn := hyes hq
            rw [hq] at k3
            clear v0 v1
            have Hhr := Lib.hid hr; clear hr; have Hr1 := Lib.hid r1; clear r1; have HhD := Lib.hid hD; clear hD; have Hhv3 := Lib.hid hv3; clear hv3; have Hhno := Lib.hid hno; clear hno; have Hhyes := Lib.hid hyes; clear hyes; have Hhq := Lib.hid hq; clear hq; have Hk3 := Lib.hid k3; clear k3; have Hhn := Lib.hid hn; clear hn; have Hhown := Lib.hid hown; clear hown
            go_wp2_with (go_at_call 70; ((with_reducible refine (Hk3.out _ Hhv3.out Hr1.out).mono ?_); rintro e w4 ⟨rfl, hb4⟩))
            have hs4 := hb4.size
            have hdb : Below w4.heap.size w4 w4.drew := (Below.refl _ _).drew
            have rX4 := blockB hb4 rX
            have yXd := blockB hdb rX4
            have u0d := cellAt rX4 1
            have rd := (Hr1.out.below hb4).below hdb
            have hownd := SegM.below (SegM.wide (SegM.below Hhown.out hb4) (Nat.le_refl _) hb4.size) hdb
            have hb5 := (hbw.trans (hb4.mono hbs)).trans (hdb.mono (by omega))
            have hxs : w2.heap.size + 1 ≤ w4.heap.size := lt_of_heap rX4
            clear t0 t1 s0 s1 c1
            go_region_law (first
              | (go_simp; (go_at_call 133; ((with_reducible refine (copyInts_i _ r hml _ rd).mono ?_); rintro e w9 ⟨A9, c9, rfl, own9, hb9⟩; (change OwnI w9 w4.heap.size _ r at own9; have hs9 : w4.heap.size ≤ w9.heap.size := hb9.size; have y9 := blockB hb9 yXd; have u9 := cellAt y9 1; have u9f := (fun o => cellAt (heapN y9 o) 1); have hown9 := SegM.below hownd hb9; have hb10 := hb5.trans (hb9.mono (by show w2.heap.size ≤ w4.heap.size; omega))))))
              | (refine step_append_rowM rfl (.tmp 40) (.tmp 43) rfl (w2.heap.size + 1) w4.heap.size _ D ?_ hown9 _ r own9 ?_ (by omega) (by omega) (by omega) ?_; (first | rfl | (simp [Act.eval, Act.put])); (first | rfl | (simp [Act.eval, Act.put])); intro v2 w7 hown7 hb7 hgr7; obtain ⟨A7, q7, e7⟩ := MRow.opened (SegM.row hown7); subst e7; have y7 := blockL hb7 (by omega) y9; have u7 := cellAt y7 1; have f7 := frozen0 (j := 1) y7; have hb11 := hb10.trans (hb7.mono (by omega))))
            all_goals
              go_wp2_with fail
              go_roundw
              case rel => exact ⟨k + 1, D ++ [r], A7, q7, by go_num, by omega, by simp; omega, Hhn.out, (by rw [show (D ++ [r]).length = D.length + 1 by simp]; exact set1 y7 _), (SegM.setO hown7 y7 (by decide) (by decide) _).wide (Nat.le_refl _) (by simp [World.setCell]), hb11.setCell (p := ⟨w2.heap.size, 1, none⟩) (Nat.le_refl _) _⟩
              case measure => simp [intOf] <;> omega
        · obtain rfl : k = ma.length := by omega
          have g0 : ¬ (ma.length : Int) < (ma.length : Int) := by omega
          rw [List.take_length] at hD
          have e9 := dif_end He.out hD
          have t1 := cellAt x0 1; have v0 := cellAt rX 0; have v1 := cellAt rX 1; have s0 := cellAt x2 0; have s1 := cellAt x2 1; have f0 := frozen0 (j := 0) x2; have f1 := frozen0 (j := 1) x2
          have hbb := HhB2.out.trans (hbw.mono HhB2.out.size)
          have hbz := HhB2.out.size
          have Hhown := Lib.hid hown; clear hown; have HhD := Lib.hid hD; clear hD; have He9 := Lib.hid e9; clear e9
          go_wp2_with fail
          have q1 := set0 x2 (.int .i64 a)
          have oa := SegM.setO (j := 0) Hhown.out x2 (by decide) (by decide) (.int .i64 a)
          have ob := SegM.setO (j := 1) oa q1 (by decide) (by decide) (.slice A3 D.length q3)
          refine bodyPost_ret (res_rel_tmp rfl rfl rfl (set1 q1 _)) rfl (retD_yes He.out He9.out rfl (ob.wide (by omega) (by simp [World.setCell])) ?_)
          exact (hbb.setCell (p := ⟨w.heap.size + 2, 0, none⟩) (by show w.heap.size ≤ w.heap.size + 2; omega) _).setCell (p := ⟨w.heap.size + 2, 1, none⟩) (by show w.heap.size ≤ w.heap.size + 2; omega) _
end Go.Proofs.Ytbajnecahojcfaa
