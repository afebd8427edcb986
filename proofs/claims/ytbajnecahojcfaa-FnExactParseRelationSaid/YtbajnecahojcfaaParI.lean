/- ParseRelation, the program's. -/
import Derived.Test.YtbajnecahojcfaaParP
import Derived.Test.YtbajnecahojcfaaFmtR
import Derived.Test.YtbajnecahojcfaaParse
import Derived.Test.YtbajnecahojcfaaCopy
import Derived.Test.YtbajnecahojcfaaRowE
namespace Go.Proofs.Ytbajnecahojcfaa
open Go.RowKit Go.Sort
set_option maxHeartbeats 4000000
set_option maxRecDepth 100000
def RetP (l : List UInt8) (w : World) (e : Ending) (w' : World) : Prop := RetMB (parRel l).1 (parRel l).2.1 (parRel l).2.2 w e w'
theorem retP_no {l : List UInt8} {w w' : World} {e : Ending} (h : parRel l = (0, [], false)) (he : e = .returned (.tuple #[.agg #[.int .i64 0, .slice none 0 0], .bool false])) (hb : Below w.heap.size w w') : RetP l w e w' := by
  unfold RetP; rw [h]
  exact ⟨none, 0, he, OwnM.nil _ _, hb⟩
theorem retP_yes {l : List UInt8} {w w' : World} {e : Ending} {A : Option Addr} {c : Nat} {ar : Int} {m : List (List Int)} (h : parRel l = (ar, m, true)) (he : e = .returned (.tuple #[.agg #[.int .i64 ar, .slice A m.length c], .bool true])) (hown : OwnM w' w.heap.size (.slice A m.length c) m) (hb : Below w.heap.size w w') : RetP l w e w' := by
  unfold RetP; rw [h]
  exact ⟨A, c, he, hown, hb⟩
theorem strs_keep {w w' : World} {B lo hi n : Nat} {v u : Value} {m : List (List Int)} {ys : List Value} (ho : SegM w lo hi v m) (hg : w.grownBy w' v.ownBlock) (hu : w.ownsRow B 9 1 u n ys) : w'.ownsRow B 9 1 u n ys := by
  obtain ⟨ps, h1, h2, h3, h4⟩ := ho
  exact own_grown_ne hu hg fun g h1 h5 => own_ne_block h2 hu (by decide) h5 h1
theorem strs_open {w : World} {B : Nat} {A : Option Addr} {c : Nat} {U : List (List UInt8)} (h : w.ownsRow B 9 1 (.slice A U.length c) U.length (U.map strV)) (i : Nat) (hi : i < U.length) : ∃ b off, A = some ⟨b, off, none⟩ ∧ w.cell? ⟨b, off + i, none⟩ = some (strV U[i]) := by
  obtain ⟨A', c', e, h5⟩ := VRow.str (VRow.own h)
  simp only [Value.slice.injEq] at e
  obtain ⟨rfl, -, rfl⟩ := e
  obtain ⟨b, off, e, h6⟩ := h5 i hi
  exact ⟨b, off, e, h6 i hi⟩
theorem parse_step {W : List (List UInt8)} {k : Nat} (hk : k < W.length) (h : ∀ i (hi : i < W.length), i < k → parseOk W[i] = true) (hx : parseOk W[k] = true) : ∀ i (hi : i < W.length), i < k + 1 → parseOk W[i] = true := by
  intro i hi hlt
  rcases Nat.lt_or_ge i k with h' | h'
  · exact h i hi h'
  · have : i = k := by omega
    subst this; exact hx
theorem parseList_i (l : List UInt8) (hl : l.length ≤ 1048576) (w : World) : Calls Try.prog 110 #[.string ⟨l.toArray⟩, .int .u8 44] w (RetI ((parL l).getD []) (parL l).isSome w) := by
  by_cases h0 : l = []
  · subst h0
    go_enter Try.func110, Try.ntmps110
    go_wp2_with fail
    go_ret2
    exact retI_of rfl own_nil (Below.refl _ _)
  have ks : ∀ W, Calls Try.prog 108 #[.string ⟨l.toArray⟩, .int .u8 44] W _ := fun W => split_i l 44 hl W
  have hlen : (splitL 44 l).length ≤ 1048577 := by have := spl_len 44 l []; unfold splitL; omega
  have hel : ∀ x ∈ splitL 44 l, x.length ≤ 1048576 := fun x hx => by have := split_elem hx; omega
  have hbad := fun k hk => parL_bad h0 (k := k) hk
  have hend := parL_end h0
  have d0 : (l == []) = false := by rw [beq_eq_false_iff_ne]; exact h0
  generalize hW : splitL 44 l = W at *
  have Hks := Lib.hid ks; clear ks; have Hhel := Lib.hid hel; clear hel; have Hhbad := Lib.hid hbad; clear hbad; have Hhend := Lib.hid hend; clear hend; have HhW := Lib.hid hW; clear hW; have Hh0 := Lib.hid h0; clear h0
  go_enter Try.func110, Try.ntmps110
  go_wp2_with (go_at_call 108; ((with_reducible refine (Hks.out _).mono ?_); rintro e w1 ⟨v1, rfl, own1, hb1⟩; (have hv1 := VRow.own own1; obtain ⟨A1, c1, e1, hA1⟩ := VRow.str hv1; subst e1; clear own1 hv1)))
  have HhA1 := Lib.hid hA1; clear hA1
  go_loopw [6, 17] (fun o i wr => ∃ (k : Nat) (D : List Int), i = .int .i64 k ∧ k ≤ W.length ∧ (∀ i (hi : i < W.length), i < k → parseOk W[i] = true) ∧ D = (W.take k).map parseV ∧ OwnI wr w1.heap.size o D ∧ Below w1.heap.size w1 wr) (fun _ i _ => W.length - (intOf i).toNat)
  case atStart => exact ⟨0, [], rfl, Nat.zero_le _, fun i hi h => by omega, rfl, own_nil, Below.refl _ _⟩
  case round =>
    obtain ⟨k, D, rfl, hk, hall, hD, hown, hb⟩ := hrel
    have hDl : D.length = k := by rw [hD]; simp; omega
    by_cases hlt : k < W.length
    · have g0 : (k : Int) < (W.length : Int) := by omega
      obtain ⟨b, off, rfl, h3⟩ := HhA1.out k hlt
      have c2 := cellB hb (h3 k hlt)
      clear h3
      have hxl := Hhel.out W[k] (List.getElem_mem hlt)
      have k1 := fun W' => ParseInt_i W[k] hxl W'
      cases hq : parseOk W[k] with
      | false =>
        rw [hq] at k1
        have e := Hhbad.out k hlt hq
        have Hhall := Lib.hid hall; clear hall; have HhD := Lib.hid hD; clear hD; have Hhq := Lib.hid hq; clear hq; have Hk1 := Lib.hid k1; clear k1; have He := Lib.hid e; clear e; have Hhown := Lib.hid hown; clear hown
        go_wp2_with (go_at_call 109; ((with_reducible refine (Hk1.out _).mono ?_); rintro e w2 ⟨rfl, hb2⟩))
        go_ret2
        rw [He.out]
        exact retI_of rfl own_nil (below_tr hb1 (hb.trans (hb2.mono hb.size)))
      | true =>
        rw [hq] at k1
        have h4 := parse_step hlt hall hq
        have hn : D ++ [parseV W[k]] = (W.take (k + 1)).map parseV := by rw [List.take_succ_eq_append_getElem hlt, List.map_append, hD]; rfl
        generalize parseV W[k] = x at *
        have Hhall := Lib.hid hall; clear hall; have HhD := Lib.hid hD; clear hD; have Hhq := Lib.hid hq; clear hq; have Hk1 := Lib.hid k1; clear k1; have Hhown := Lib.hid hown; clear hown; have Hh4 := Lib.hid h4; clear h4; have Hhn := Lib.hid hn; clear hn
        go_wp2_with (first
          | (go_at_call 109; ((with_reducible refine (Hk1.out _).mono ?_); rintro e w2 ⟨rfl, hb2⟩; (have hown := own_below Hhown.out hb2; have hs2 := hb2.size)))
          | (at_builtin; go_must (refine wp_append_one intT rfl _ _ rfl w1.heap.size _ D.length (D.map intV) rfl hown _ rfl rfl (by omega) (by have := hb.size; omega) ?_; intro v3 w3 hown3 hgr3 hb3; replace hown3 := own_push hown3)))
        go_roundw
        case rel => exact ⟨k + 1, _, by go_num, by omega, Hh4.out, Hhn.out, hown3, (hb.trans (hb2.mono hb.size)).trans hb3⟩
        case measure => simp [intOf] <;> omega
    · obtain rfl : k = W.length := by omega
      have g0 : ¬ (W.length : Int) < (W.length : Int) := by omega
      have e := Hhend.out fun i hi => hall i hi hi
      rw [List.take_length] at hD
      subst hD
      have Hhall := Lib.hid hall; clear hall; have Hhown := Lib.hid hown; clear hown; have He := Lib.hid e; clear e
      go_wp2_with fail
      go_ret2
      rw [He.out]
      exact retI_of rfl (own_mono Hhown.out hb1.size) (below_tr hb1 hb)
theorem ParseRelation_i (l : List UInt8) (hl : l.length ≤ 1048576) (w : World) : Calls Try.prog 47 #[.string ⟨l.toArray⟩] w (RetP l w) := by
  have y0 := heap_alloc_new w (.cells #[.int .i64 0, .slice none 0 0] 44)
  have hB : Below w.heap.size w (w.alloc (.cells #[.int .i64 0, .slice none 0 0] 44)) := (Below.refl _ _).alloc (Nat.le_refl _) _
  have ks : ∀ W, Calls Try.prog 108 #[.string ⟨l.toArray⟩, .int .u8 58] W _ := fun W => split_i l 58 hl W
  have hel : ∀ x ∈ splitL 58 l, x.length ≤ 1048576 := fun x hx => by have := split_elem hx; omega
  have hp := splitL_ne 58 l
  have hno := parI_head (l := l)
  have hlw : (splitL 58 l).length ≤ 1048577 := by have := spl_len 58 l []; unfold splitL; omega
  obtain ⟨W, hW⟩ : ∃ W, splitL 58 l = W := ⟨_, rfl⟩
  rw [hW] at ks hel hp hno hlw
  obtain ⟨a, ha⟩ : ∃ a, W[0] = a := ⟨_, rfl⟩
  have hal : a.length ≤ 1048576 := by rw [← ha]; exact hel _ (List.getElem_mem hp)
  have ha2 : W[0]! = a := by rw [← ha]; simp [hp]
  rw [ha2] at hno
  have kp := fun W' => ParseInt_i a hal W'
  cases hq : parseOk a with
  | false =>
    have e := hno (.inl hq)
    rw [hq] at kp
    have Hks := Lib.hid ks; clear ks; have Hhel := Lib.hid hel; clear hel; have Hhno := Lib.hid hno; clear hno; have HhW := Lib.hid hW; clear hW; have HhB := Lib.hid hB; clear hB; have Hkp := Lib.hid kp; clear kp; have He := Lib.hid e; clear e; have Hhlw := Lib.hid hlw; clear hlw; have Hha2 := Lib.hid ha2; clear ha2; have Hhal := Lib.hid hal; clear hal
    go_enter Try.func47, Try.ntmps47
    go_wp2_with (first
      | (go_at_call 108; ((with_reducible refine (Hks.out _).mono ?_); rintro e w1 ⟨v1, rfl, own1, hb1⟩; (have hv1 := VRow.own own1; obtain ⟨A1, c1, e1, hA1⟩ := VRow.str hv1; subst e1; have z0 := blockB hb1 y0; obtain ⟨bk, off, rfl, hcell⟩ := hA1 0 hp; have e0 := hcell 0 hp; rw [Nat.add_zero, ha] at e0; clear own1 hv1 hA1; have Hcell := Lib.hid hcell; clear hcell)))
      | (go_at_call 109; ((with_reducible refine (Hkp.out _).mono ?_); rintro e w2 ⟨rfl, hb2⟩; (have x0 := blockB hb2 z0; have t0 := cellAt x0 0; have t1 := cellAt x0 1; have f0 := frozen0 (j := 0) x0; have f1 := frozen0 (j := 1) x0; have hB2 := below_tr (below_tr HhB.out hb1) hb2))))
    refine bodyPost_ret (res_rel_tmp rfl rfl rfl (set1 (set0 x0 _) _)) rfl (retP_no He.out rfl ?_)
    exact (hB2.setCell (p := ⟨w.heap.size, 0, none⟩) (Nat.le_refl _) _).setCell (p := ⟨w.heap.size, 1, none⟩) (Nat.le_refl _) _
  | true =>
  rw [hq] at kp
  by_cases h2 : W.length = 2
  rotate_left
  · have e := hno (.inr h2)
    have d2 : ((W.length : Int) != 2) = true := by rw [bne_iff_ne]; omega
    have Hks := Lib.hid ks; clear ks; have Hhel := Lib.hid hel; clear hel; have Hhno := Lib.hid hno; clear hno; have HhW := Lib.hid hW; clear hW; have HhB := Lib.hid hB; clear hB; have Hkp := Lib.hid kp; clear kp; have He := Lib.hid e; clear e; have Hhlw := Lib.hid hlw; clear hlw; have Hha2 := Lib.hid ha2; clear ha2; have Hhal := Lib.hid hal; clear hal; have Hh2 := Lib.hid h2; clear h2
    go_enter Try.func47, Try.ntmps47
    go_wp2_with (first
      | (go_at_call 108; ((with_reducible refine (Hks.out _).mono ?_); rintro e w1 ⟨v1, rfl, own1, hb1⟩; (have hv1 := VRow.own own1; obtain ⟨A1, c1, e1, hA1⟩ := VRow.str hv1; subst e1; have z0 := blockB hb1 y0; obtain ⟨bk, off, rfl, hcell⟩ := hA1 0 hp; have e0 := hcell 0 hp; rw [Nat.add_zero, ha] at e0; clear own1 hv1 hA1; have Hcell := Lib.hid hcell; clear hcell)))
      | (go_at_call 109; ((with_reducible refine (Hkp.out _).mono ?_); rintro e w2 ⟨rfl, hb2⟩; (have x0 := blockB hb2 z0; have t0 := cellAt x0 0; have t1 := cellAt x0 1; have f0 := frozen0 (j := 0) x0; have f1 := frozen0 (j := 1) x0; have hB2 := below_tr (below_tr HhB.out hb1) hb2))))
    refine bodyPost_ret (res_rel_tmp rfl rfl rfl (set1 (set0 x0 _) _)) rfl (retP_no He.out rfl ?_)
    exact (hB2.setCell (p := ⟨w.heap.size, 0, none⟩) (Nat.le_refl _) _).setCell (p := ⟨w.heap.size, 1, none⟩) (Nat.le_refl _) _
  have d2 : ((W.length : Int) != 2) = false := by rw [bne_eq_false_iff_eq]; omega
  have g1 : (1 : Int) < (W.length : Int) := by omega
  obtain ⟨b, hb⟩ : ∃ b, W[1] = b := ⟨_, rfl⟩
  have hsp : splitL 58 l = [a, b] := by
    rw [hW]
    refine List.ext_getElem (by simp [h2]) fun i h3 h4 => ?_
    match i, h3, h4 with
    | 0, _, _ => exact ha
    | 1, _, _ => exact hb
    | n + 2, h3, _ => omega
  have hbl : b.length ≤ 1048576 := by rw [← hb]; exact hel _ (List.getElem_mem _)
  by_cases hb0 : b = []
  · subst hb0
    have hbody : bodyI [] = some [] := rfl
    have kf := fun W h => FormatRelation_i (.slice none 0 0) (parseV a) [] W h
    by_cases hfl : fmtRel (parseV a) [] = l
    · have e := parI_yes hsp hfl
      rw [hfl] at kf
      have d3 : (l == l) = true := by simp
      have d4 : (l != l) = false := by simp
      have Hks := Lib.hid ks; clear ks; have Hhel := Lib.hid hel; clear hel; have Hhno := Lib.hid hno; clear hno; have HhW := Lib.hid hW; clear hW; have HhB := Lib.hid hB; clear hB; have Hkp := Lib.hid kp; clear kp; have Hhlw := Lib.hid hlw; clear hlw; have Hha2 := Lib.hid ha2; clear ha2; have Hhal := Lib.hid hal; clear hal; have Hhsp := Lib.hid hsp; clear hsp; have Hhbl := Lib.hid hbl; clear hbl; have Hhbody := Lib.hid hbody; clear hbody; have Hkf := Lib.hid kf; clear kf; have He := Lib.hid e; clear e; have Hhfl := Lib.hid hfl; clear hfl
      go_enter Try.func47, Try.ntmps47
      go_wp2_with (first
        | (go_at_call 108; ((with_reducible refine (Hks.out _).mono ?_); rintro e w1 ⟨v1, rfl, own1, hb1⟩; (have hv1 := VRow.own own1; obtain ⟨A1, c1, e1, hA1⟩ := VRow.str hv1; subst e1; have z0 := blockB hb1 y0; obtain ⟨bk, off, rfl, hcell⟩ := hA1 0 hp; have e0 := hcell 0 hp; rw [Nat.add_zero, ha] at e0; have e1 := hcell 1 (by omega); rw [hb] at e1; clear own1 hv1 hA1 hcell)))
        | (go_at_call 109; ((with_reducible refine (Hkp.out _).mono ?_); rintro e w2 ⟨rfl, hb2⟩; (have x0 := blockB hb2 z0; have t0 := cellAt x0 0; have t1 := cellAt x0 1; have f0 := frozen0 (j := 0) x0; have f1 := frozen0 (j := 1) x0; have hB2 := below_tr (below_tr HhB.out hb1) hb2; replace e1 := cellB hb2 e1; replace e0 := cellB hb2 e0; have e1a := fun o => cellN e1 o; have hs2 := hb2.size)))
        | (go_at_call 73; ((with_reducible refine (Hkf.out _ (MRow.nil _)).mono ?_); rintro e w7 ⟨rfl, hb7⟩; (have r0 := blockB hb7 (heapN x0 _); have r1 := blockB hb7 (heap_alloc_new w2 _); have s0 := cellAt r0 0; have s1 := cellAt r0 1; have u0 := cellAt r1 0; have u1 := cellAt r1 1; have p0 := frozen0 (j := 0) r0; have p1 := frozen0 (j := 1) r0))))
      refine bodyPost_ret (res_rel_tmp rfl rfl rfl (set1 (set0 r0 _) _)) rfl (retP_yes He.out rfl (OwnM.nil _ _) ?_)
      exact ((belowA hB2 hb7).setCell (p := ⟨w.heap.size, 0, none⟩) (Nat.le_refl _) _).setCell (p := ⟨w.heap.size, 1, none⟩) (Nat.le_refl _) _
    · have e := parI_not hsp hbody hfl
      generalize fmtRel (parseV a) [] = F at *
      have d3 : (F == l) = false := by rw [beq_eq_false_iff_ne]; exact hfl
      have d4 : (F != l) = true := by rw [bne_iff_ne]; exact hfl
      have Hks := Lib.hid ks; clear ks; have Hhel := Lib.hid hel; clear hel; have Hhno := Lib.hid hno; clear hno; have HhW := Lib.hid hW; clear hW; have HhB := Lib.hid hB; clear hB; have Hkp := Lib.hid kp; clear kp; have Hhlw := Lib.hid hlw; clear hlw; have Hha2 := Lib.hid ha2; clear ha2; have Hhal := Lib.hid hal; clear hal; have Hhsp := Lib.hid hsp; clear hsp; have Hhbl := Lib.hid hbl; clear hbl; have Hhbody := Lib.hid hbody; clear hbody; have Hkf := Lib.hid kf; clear kf; have He := Lib.hid e; clear e; have Hhfl := Lib.hid hfl; clear hfl
      go_enter Try.func47, Try.ntmps47
      go_wp2_with (first
        | (go_at_call 108; ((with_reducible refine (Hks.out _).mono ?_); rintro e w1 ⟨v1, rfl, own1, hb1⟩; (have hv1 := VRow.own own1; obtain ⟨A1, c1, e1, hA1⟩ := VRow.str hv1; subst e1; have z0 := blockB hb1 y0; obtain ⟨bk, off, rfl, hcell⟩ := hA1 0 hp; have e0 := hcell 0 hp; rw [Nat.add_zero, ha] at e0; have e1 := hcell 1 (by omega); rw [hb] at e1; clear own1 hv1 hA1 hcell)))
        | (go_at_call 109; ((with_reducible refine (Hkp.out _).mono ?_); rintro e w2 ⟨rfl, hb2⟩; (have x0 := blockB hb2 z0; have t0 := cellAt x0 0; have t1 := cellAt x0 1; have f0 := frozen0 (j := 0) x0; have f1 := frozen0 (j := 1) x0; have hB2 := below_tr (below_tr HhB.out hb1) hb2; replace e1 := cellB hb2 e1; replace e0 := cellB hb2 e0; have e1a := fun o => cellN e1 o; have hs2 := hb2.size)))
        | (go_at_call 73; ((with_reducible refine (Hkf.out _ (MRow.nil _)).mono ?_); rintro e w7 ⟨rfl, hb7⟩; (have r0 := blockB hb7 (heapN x0 _); have s0 := cellAt r0 0; have s1 := cellAt r0 1; have p0 := frozen0 (j := 0) r0; have p1 := frozen0 (j := 1) r0))))
      refine bodyPost_ret (res_rel_tmp rfl rfl rfl (set1 (set0 r0 _) _)) rfl (retP_no He.out rfl ?_)
      exact ((belowA hB2 hb7).setCell (p := ⟨w.heap.size, 0, none⟩) (Nat.le_refl _) _).setCell (p := ⟨w.heap.size, 1, none⟩) (Nat.le_refl _) _
  have hbne := bodyI_ne hb0
  have ks2 : ∀ W, Calls Try.prog 108 #[.string ⟨b.toArray⟩, .int .u8 32] W _ := fun W => split_i b 32 hbl W
  have hel2 : ∀ x ∈ splitL 32 b, x.length ≤ 1048576 := fun x hx => by have := split_elem hx; omega
  have hl2 : (splitL 32 b).length ≤ 1048577 := by have := spl_len 32 b []; unfold splitL; omega
  obtain ⟨U, hU⟩ : ∃ U, splitL 32 b = U := ⟨_, rfl⟩
  rw [hU] at ks2 hel2 hl2 hbne
  have db : (b == []) = false := by rw [beq_eq_false_iff_ne]; exact hb0
  have db2 : (b != []) = true := by rw [bne_iff_ne]; exact hb0
  have Hks := Lib.hid ks; clear ks; have Hhel := Lib.hid hel; clear hel; have Hhno := Lib.hid hno; clear hno; have HhW := Lib.hid hW; clear hW; have HhB := Lib.hid hB; clear hB; have Hkp := Lib.hid kp; clear kp; have Hhlw := Lib.hid hlw; clear hlw; have Hha2 := Lib.hid ha2; clear ha2; have Hhal := Lib.hid hal; clear hal; have Hhsp := Lib.hid hsp; clear hsp; have Hhbl := Lib.hid hbl; clear hbl; have Hhbne := Lib.hid hbne; clear hbne; have Hks2 := Lib.hid ks2; clear ks2; have Hhel2 := Lib.hid hel2; clear hel2; have HhU := Lib.hid hU; clear hU; have Hhb0 := Lib.hid hb0; clear hb0
  go_enter Try.func47, Try.ntmps47
  go_wp2_with (first
    | (go_at_call 108; ((with_reducible refine (Hks.out _).mono ?_); rintro e w1 ⟨v1, rfl, own1, hb1⟩; (have hv1 := VRow.own own1; obtain ⟨A1, c1, e1, hA1⟩ := VRow.str hv1; subst e1; have z0 := blockB hb1 y0; obtain ⟨bk, off, rfl, hcell⟩ := hA1 0 hp; have e0 := hcell 0 hp; rw [Nat.add_zero, ha] at e0; have e1 := hcell 1 (by omega); rw [hb] at e1; clear own1 hv1 hA1 hcell)))
    | (go_at_call 109; ((with_reducible refine (Hkp.out _).mono ?_); rintro e w2 ⟨rfl, hb2⟩; (have x0 := blockB hb2 z0; have t0 := cellAt x0 0; have t1 := cellAt x0 1; have f0 := frozen0 (j := 0) x0; have f1 := frozen0 (j := 1) x0; have hB2 := below_tr (below_tr HhB.out hb1) hb2; replace e1 := cellB hb2 e1; replace e0 := cellB hb2 e0; have e1a := fun o => cellN e1 o; have hs2 := hb2.size)))
    | (go_at_call 108; ((with_reducible refine (Hks2.out _).mono ?_); rintro e w3 ⟨v3, rfl, own3, hb3⟩; (have hv3 := VRow.own own3; obtain ⟨A3, c3, e3, -⟩ := VRow.str hv3; subst e3; simp only [size_alloc] at own3; have q0 := blockB hb3 (heapN x0 _); have q1 := blockB hb3 (heap_alloc_new w2 _); have hB3 := belowA hB2 hb3; clear hv3))))
  have hq0 := lt_of_heap q1
  have hs0 := hB2.size
  have Hq0 := Lib.hid q0
  have Hq1 := Lib.hid q1
  have Hown3 := Lib.hid own3; clear own3; have HhB3 := Lib.hid hB3; clear hB3
  clear q0 q1 t0 t1 f0 f1 e0 e1 e1a db db2
  have hin0 := lt_of_heap x0
  go_loopw [40] (fun i wr => ∃ (k : Nat) (D : List (List Int)) (A' : Option Addr) (q' : Nat), i = .int .i64 k ∧ k ≤ U.length ∧ D.length ≤ k ∧ wordsI (U.take k) = some D ∧ wr.heap[w.heap.size]? = some (.cells #[.int .i64 0, .slice none 0 0] 44 (0, 0)) ∧
    wr.heap[w2.heap.size]? = some (.cells #[.int .i64 (parseV a), .slice A' D.length q'] 44 (0, 0)) ∧ OwnM wr (w2.heap.size + 1) (.slice A' D.length q') D ∧ Below w.heap.size w wr ∧ wr.ownsRow (w2.heap.size + 1) 9 1 (.slice A3 U.length c3) U.length (U.map strV)) (fun i _ => U.length - (intOf i).toNat)
  case atStart => exact ⟨0, [], none, 0, rfl, Nat.zero_le _, Nat.le_refl _, rfl, Hq0.out, Hq1.out, OwnM.nil _ _, HhB3.out, Hown3.out⟩
  case round =>
    obtain ⟨k, D, A', q', rfl, hk, hDk, hD, r0, r1, hown, hbw, ow3⟩ := hrel
    by_cases hlt : k < U.length
    · have g0 : (k : Int) < (U.length : Int) := by omega
      obtain ⟨b3, off3, rfl, c2⟩ := strs_open ow3 k hlt
      have hxl := Hhel2.out U[k] (List.getElem_mem hlt)
      have hbadw := fun h => wordsI_bad hlt h
      have hstep := fun r h => wordsI_step (r := r) hlt hD h
      obtain ⟨x, hx⟩ : ∃ x, U[k] = x := ⟨_, rfl⟩
      rw [hx] at c2 hxl hbadw hstep
      have t0 := cellAt r0 0; have t1 := cellAt r0 1; have f0 := frozen0 (j := 0) r0; have f1 := frozen0 (j := 1) r0
      by_cases hx2 : x.length < 2
      · have e := parI_body Hhsp.out (by rw [Hhbne.out]; exact hbadw (wordI_short hx2))
        have g2 : (x.length : Int) < 2 := by omega
        have How3 := Lib.hid ow3; clear ow3; have HhD := Lib.hid hD; clear hD; have Hhx := Lib.hid hx; clear hx; have Hhbadw := Lib.hid hbadw; clear hbadw; have Hhstep := Lib.hid hstep; clear hstep; have He := Lib.hid e; clear e; have Hhown := Lib.hid hown; clear hown
        go_wp2_with fail
        refine bodyPost_ret (res_rel_tmp rfl rfl rfl (set1 (set0 r0 _) _)) rfl (retP_no He.out rfl ?_)
        exact (hbw.setCell (p := ⟨w.heap.size, 0, none⟩) (Nat.le_refl _) _).setCell (p := ⟨w.heap.size, 1, none⟩) (Nat.le_refl _) _
      have g2 : ¬ (x.length : Int) < 2 := by omega
      have hwl := wordI_long hx2
      have g3 : ((x.length : Int) - 1).toNat = x.length - 1 := by omega
      have g4 : (1 : Int) ≤ (x.length : Int) - 1 := by omega
      have g5 : (x.length : Int) - 1 ≤ (x.length : Int) := by omega
      have hin : innerT x = x.tail.take (x.length - 1 - 1) := by unfold innerT; rw [List.drop_one]
      have hil : (innerT x).length ≤ 1048576 := by rw [hin]; simp; omega
      have kl := fun W => parseList_i (innerT x) hil W
      rw [hin] at kl
      cases hpl : parL (innerT x) with
      | none =>
        have e := parI_body Hhsp.out (by rw [Hhbne.out]; exact hbadw (by rw [hwl, hpl]))
        rw [hin] at hpl
        rw [hpl] at kl
        have How3 := Lib.hid ow3; clear ow3; have HhD := Lib.hid hD; clear hD; have Hhx := Lib.hid hx; clear hx; have Hhbadw := Lib.hid hbadw; clear hbadw; have Hhstep := Lib.hid hstep; clear hstep; have He := Lib.hid e; clear e; have Hhown := Lib.hid hown; clear hown; have Hhwl := Lib.hid hwl; clear hwl; have Hhpl := Lib.hid hpl; clear hpl; have Hkl := Lib.hid kl; clear kl; have Hhin := Lib.hid hin; clear hin
        go_wp2_with (go_at_call 110; ((with_reducible refine (Hkl.out _).mono ?_); rintro e w4 ⟨A4, c4, rfl, own4, hb4⟩; (have m0 := blockB hb4 r0; have u0 := cellAt m0 0; have u1 := cellAt m0 1; have p0 := frozen0 (j := 0) m0; have p1 := frozen0 (j := 1) m0)))
        refine bodyPost_ret (res_rel_tmp rfl rfl rfl (set1 (set0 m0 _) _)) rfl (retP_no He.out rfl ?_)
        exact ((hbw.trans (hb4.mono hbw.size)).setCell (p := ⟨w.heap.size, 0, none⟩) (Nat.le_refl _) _).setCell (p := ⟨w.heap.size, 1, none⟩) (Nat.le_refl _) _
      | some r =>
        have hst := hstep r (by rw [hwl, hpl])
        rw [hin] at hpl
        rw [hpl] at kl
        clear hbadw hstep t0 t1 f0 f1
        have hsz := lt_of_heap r1
        have HhD := Lib.hid hD; clear hD; have Hhx := Lib.hid hx; clear hx; have Hhown := Lib.hid hown; clear hown; have Hhwl := Lib.hid hwl; clear hwl; have Hhpl := Lib.hid hpl; clear hpl; have Hkl := Lib.hid kl; clear kl; have Hhin := Lib.hid hin; clear hin; have Hhst := Lib.hid hst; clear hst; have How3 := Lib.hid ow3; clear ow3
        go_wp2_with (first
          | (go_at_call 110; ((with_reducible refine (Hkl.out _).mono ?_); rintro e w4 ⟨A4, c4, rfl, own4, hb4⟩; (have hown4 := SegM.below Hhown.out hb4; have m0 := blockB hb4 r0; have m1 := blockB hb4 r1; have u1 := cellAt m1 1; have hs4 := hb4.size; change OwnI w4 wr.heap.size (.slice A4 r.length c4) r at own4)))
          | (at_builtin; go_must (refine wp_append_rowM rfl _ _ rfl (w2.heap.size + 1) _ _ D rfl hown4 _ r own4 rfl (by omega) (by omega) hs4 ?_; intro v5 w5 hown5 hb5 hgr5; obtain ⟨A5, q5, e5⟩ := MRow.opened (SegM.row hown5); subst e5; have n0 := blockL hb5 (by omega) m0; have n1 := blockL hb5 (by omega) m1; have s1 := cellAt n1 1; have p1 := frozen0 (j := 1) n1; have ow5 := strs_keep hown4 hgr5 (own_below How3.out hb4))))
        go_roundw
        case rel => exact ⟨k + 1, D ++ [r], A5, q5, by go_num, by omega, by simp; omega, Hhst.out, setO (by omega) n0 _, (by rw [show (D ++ [r]).length = D.length + 1 by simp]; exact set1 n1 _), (SegM.setO hown5 n1 (by decide) (by decide) _).wide (Nat.le_refl _) (by simp [World.setCell]), ((hbw.trans (hb4.mono hbw.size)).trans (hb5.mono (by omega))).setCell (p := ⟨w2.heap.size, 1, none⟩) hs0 _, own_set_other ow5 n1 (by decide) _⟩
        case measure => simp [intOf] <;> omega
    · obtain rfl : k = U.length := by omega
      have g0 : ¬ (U.length : Int) < (U.length : Int) := by omega
      rw [List.take_length] at hD
      have hbody : bodyI b = some D := by rw [Hhbne.out]; exact hD
      have hrow := SegM.row hown
      have v0 := cellAt r1 0; have v1 := cellAt r1 1
      have kf := fun W h => FormatRelation_i (.slice A' D.length q') (parseV a) D W h
      by_cases hfl : fmtRel (parseV a) D = l
      · have e := parI_yes Hhsp.out hfl
        rw [hfl] at kf
        have d3 : (l == l) = true := by simp
        have d4 : (l != l) = false := by simp
        have Hkf := Lib.hid kf; clear kf; have He := Lib.hid e; clear e; have Hhfl := Lib.hid hfl; clear hfl; have Hhrow := Lib.hid hrow; clear hrow; have Hhown := Lib.hid hown; clear hown; have HhD := Lib.hid hD; clear hD; have Hhbody := Lib.hid hbody; clear hbody
        go_wp2_with (go_at_call 73; ((with_reducible refine (Hkf.out _ Hhrow.out).mono ?_); rintro e w7 ⟨rfl, hb7⟩; (have n0 := blockB hb7 r0; have n1 := blockB hb7 r1; have s0 := cellAt n0 0; have s1 := cellAt n0 1; have u0 := cellAt n1 0; have u1 := cellAt n1 1; have p0 := frozen0 (j := 0) n0; have p1 := frozen0 (j := 1) n0)))
        have q1 := set0 n0 (.int .i64 (parseV a))
        have oz := SegM.below Hhown.out hb7
        have oa := SegM.setO (j := 0) oz n0 (by decide) (by decide) (.int .i64 (parseV a))
        have ob := SegM.setO (j := 1) oa q1 (by decide) (by decide) (.slice A' D.length q')
        have hs7 := hb7.size
        refine bodyPost_ret (res_rel_tmp rfl rfl rfl (set1 q1 _)) rfl (retP_yes He.out rfl (ob.wide (by omega) (by simp [World.setCell]; omega)) ?_)
        exact ((hbw.trans (hb7.mono hbw.size)).setCell (p := ⟨w.heap.size, 0, none⟩) (Nat.le_refl _) _).setCell (p := ⟨w.heap.size, 1, none⟩) (Nat.le_refl _) _
      · have e := parI_not Hhsp.out hbody hfl
        generalize fmtRel (parseV a) D = F at *
        have d3 : (F == l) = false := by rw [beq_eq_false_iff_ne]; exact hfl
        have d4 : (F != l) = true := by rw [bne_iff_ne]; exact hfl
        have Hkf := Lib.hid kf; clear kf; have He := Lib.hid e; clear e; have Hhfl := Lib.hid hfl; clear hfl; have Hhrow := Lib.hid hrow; clear hrow; have Hhown := Lib.hid hown; clear hown; have HhD := Lib.hid hD; clear hD; have Hhbody := Lib.hid hbody; clear hbody
        go_wp2_with (go_at_call 73; ((with_reducible refine (Hkf.out _ Hhrow.out).mono ?_); rintro e w7 ⟨rfl, hb7⟩; (have n0 := blockB hb7 r0; have s0 := cellAt n0 0; have s1 := cellAt n0 1; have p0 := frozen0 (j := 0) n0; have p1 := frozen0 (j := 1) n0)))
        refine bodyPost_ret (res_rel_tmp rfl rfl rfl (set1 (set0 n0 _) _)) rfl (retP_no He.out rfl ?_)
        exact ((hbw.trans (hb7.mono hbw.size)).setCell (p := ⟨w.heap.size, 0, none⟩) (Nat.le_refl _) _).setCell (p := ⟨w.heap.size, 1, none⟩) (Nat.le_refl _) _
end Go.Proofs.Ytbajnecahojcfaa
