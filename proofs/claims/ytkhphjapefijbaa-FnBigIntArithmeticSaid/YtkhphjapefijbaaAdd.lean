/- Big integers: sum, both. (Written by mkmul.py.) -/
import Derived.Test.YtkhphjapefijbaaMul
namespace Go.Proofs.Ytkhphjapefijbaa
open Go.RowKit Go.Sort
set_option maxHeartbeats 4000000
set_option maxRecDepth 100000

def ad1 (a : List Int) (i p : Nat) : Int := if p < i then a.getD p 0 else 0
def ad2 (a b : List Int) (i p : Nat) : Int := a.getD p 0 + ad1 b i p
def ad3 (a b : List Int) (i p : Nat) : Int := if p < i then a.getD p 0 + b.getD p 0 else 0
theorem ownI_fl2 {w : World} {B g N c : Nat} {l : List Int} (h : w.ownsRow B 3 1 (.slice (some ⟨g, 0, none⟩) N c) N (l.map intV)) : w.ownsRow B 3 1 (.slice (some ⟨g, 0, none⟩) N c) N (l.map intV) := h
theorem getD_out {l : List Int} {i : Nat} (h : l.length ≤ i) : l.getD i 0 = 0 := by simp [List.getD, List.getElem?_eq_none h]
theorem ad1_at (a : List Int) (i : Nat) : ad1 a i i = 0 := by unfold ad1; rw [if_neg (by omega)]
theorem ad3_at (a b : List Int) (i : Nat) : ad3 a b i i = 0 := by unfold ad3; rw [if_neg (by omega)]
theorem ad2_at (a b : List Int) (i : Nat) : ad2 a b i i = a.getD i 0 := by unfold ad2; rw [ad1_at]; omega
theorem ad1_zero (a : List Int) (p : Nat) : ad1 a 0 p = 0 := by unfold ad1; rw [if_neg (by omega)]
theorem ad3_zero (a b : List Int) (p : Nat) : ad3 a b 0 p = 0 := by unfold ad3; rw [if_neg (by omega)]
theorem ad1_all (a : List Int) (p : Nat) : ad1 a a.length p = a.getD p 0 := by
  unfold ad1
  by_cases h : p < a.length
  · rw [if_pos h]
  · rw [if_neg h, getD_out (by omega)]
theorem ad1_step {a : List Int} {N i : Nat} : (fl N (ad1 a i)).set i (a.getD i 0) = fl N (ad1 a (i + 1)) := by
  rw [fl_set]
  refine fl_congr fun p _ => ?_
  unfold ad1
  by_cases h : p = i
  · rw [if_pos h, if_pos (by omega), h]
  · rw [if_neg h]; by_cases h2 : p < i
    · rw [if_pos h2, if_pos (by omega)]
    · rw [if_neg h2, if_neg (by omega)]
theorem ad2_step {a b : List Int} {N i : Nat} : (fl N (ad2 a b i)).set i (a.getD i 0 + b.getD i 0) = fl N (ad2 a b (i + 1)) := by
  rw [fl_set]
  refine fl_congr fun p _ => ?_
  unfold ad2 ad1
  by_cases h : p = i
  · rw [if_pos h, if_pos (by omega), h]
  · rw [if_neg h]; by_cases h2 : p < i
    · rw [if_pos h2, if_pos (by omega)]
    · rw [if_neg h2, if_neg (by omega)]
theorem ad3_step {a b : List Int} {N i : Nat} {v : Int} (hv : v = a.getD i 0 + b.getD i 0) : (fl N (ad3 a b i)).set i v = fl N (ad3 a b (i + 1)) := by
  rw [fl_set]
  refine fl_congr fun p _ => ?_
  unfold ad3
  by_cases h : p = i
  · rw [if_pos h, if_pos (by omega), h, hv]
  · rw [if_neg h]; by_cases h2 : p < i
    · rw [if_pos h2, if_pos (by omega)]
    · rw [if_neg h2, if_neg (by omega)]
theorem AddBigInt_i (va vb : Value) (a b : List Int) (w : World) (h1 : IRow w va a) (h2 : IRow w vb b) : Calls Try.prog 62 #[.agg #[va], .agg #[vb]] w (fun e w' => ∃ A c, e = .returned (.tuple #[.agg #[.slice A (addB a b).length c], .bool (addOk a b)]) ∧ OwnI w' w.heap.size (.slice A (addB a b).length c) (addB a b) ∧ Below w.heap.size w w') := by
  have k1 := fun W h => IsValidBigInt_i va a W h
  have k2 := fun W h => IsValidBigInt_i vb b W h
  obtain ⟨A, c, e1, -⟩ := IRow.open h1
  obtain ⟨A', c', e2, -⟩ := IRow.open h2
  have y2 := heapN (heapN (heap_alloc_new w (.cells #[va] 46)) (.cells #[vb] 46)) (.cells #[.slice none 0 0] 46)
  have y3 := heapN (heap_new1 w (.cells #[va] 46) (.cells #[vb] 46)) (.cells #[.slice none 0 0] 46)
  have y4 := heap_new2 w (.cells #[va] 46) (.cells #[vb] 46) (.cells #[.slice none 0 0] 46)
  have hB : Below w.heap.size w (((w.alloc (.cells #[va] 46)).alloc (.cells #[vb] 46)).alloc (.cells #[.slice none 0 0] 46)) := (((Below.refl _ _).alloc (Nat.le_refl _) _).alloc (by simp) _).alloc (by simp; omega) _
  subst e1 e2
  cases g1 : bvalid a
  · have hO : addOk a b = false := by unfold addOk; rw [g1]; rfl
    have hV : addB a b = [] := by unfold addB; rw [g1]; rfl
    rw [g1] at k1
    have Hg1 := Lib.hid g1; clear g1; have Hk1 := Lib.hid k1; clear k1; have Hk2 := Lib.hid k2; clear k2; have HhO := Lib.hid hO; clear hO; have HhV := Lib.hid hV; clear hV
    go_enter Try.func62, Try.ntmps62
    go_wp2_with ((go_at_call 54; ((with_reducible refine (Hk1.out _ (((h1.alloc _).alloc _).alloc _)).mono ?_); rintro e w1 ⟨rfl, hb⟩; (replace y2 := blockB hb y2; replace y3 := blockB hb y3; replace y4 := blockB hb y4; replace h1 := (((h1.alloc _).alloc _).alloc _).below hb; replace h2 := (((h2.alloc _).alloc _).alloc _).below hb; replace hB := below_tr hB hb; clear hb; have z2 := cellAt y2 0; have z3 := cellAt y3 0; have z4 := cellAt y4 0; have f4 := frozen0 (j := 0) y4))))
    refine bodyPost_ret (res_big_tmp rfl rfl rfl (setS y4 _)) rfl ⟨none, 0, by rw [HhO.out, HhV.out]; rfl, by rw [HhV.out]; exact own_nil, hB.setCell (p := ⟨w.heap.size + 2, 0, none⟩) (by show w.heap.size ≤ w.heap.size + 2; omega) _⟩
  rw [g1] at k1
  cases g2 : bvalid b
  · have hO : addOk a b = false := by unfold addOk; rw [g1, g2]; rfl
    have hV : addB a b = [] := by unfold addB; rw [g1, g2]; rfl
    rw [g2] at k2
    have Hg1 := Lib.hid g1; clear g1; have Hg2 := Lib.hid g2; clear g2; have Hk1 := Lib.hid k1; clear k1; have Hk2 := Lib.hid k2; clear k2; have HhO := Lib.hid hO; clear hO; have HhV := Lib.hid hV; clear hV
    go_enter Try.func62, Try.ntmps62
    go_wp2_with (first | (go_at_call 54; ((with_reducible refine (Hk1.out _ (((h1.alloc _).alloc _).alloc _)).mono ?_); rintro e w1 ⟨rfl, hb⟩; (replace y2 := blockB hb y2; replace y3 := blockB hb y3; replace y4 := blockB hb y4; replace h1 := (((h1.alloc _).alloc _).alloc _).below hb; replace h2 := (((h2.alloc _).alloc _).alloc _).below hb; replace hB := below_tr hB hb; clear hb; have z2 := cellAt y2 0; have z3 := cellAt y3 0; have z4 := cellAt y4 0; have f4 := frozen0 (j := 0) y4))) | (go_at_call 54; ((with_reducible refine (Hk2.out _ h2).mono ?_); rintro e w2 ⟨rfl, hb⟩; (replace y2 := blockB hb y2; replace y3 := blockB hb y3; replace y4 := blockB hb y4; replace h1 := h1.below hb; replace h2 := h2.below hb; replace hB := below_tr hB hb; clear hb; clear z2 z3 z4 f4; have z2 := cellAt y2 0; have z3 := cellAt y3 0; have z4 := cellAt y4 0; have f4 := frozen0 (j := 0) y4))))
    refine bodyPost_ret (res_big_tmp rfl rfl rfl (setS y4 _)) rfl ⟨none, 0, by rw [HhO.out, HhV.out]; rfl, by rw [HhV.out]; exact own_nil, hB.setCell (p := ⟨w.heap.size + 2, 0, none⟩) (by show w.heap.size ≤ w.heap.size + 2; omega) _⟩
  rw [g2] at k2
  have hV : addB a b = carV (addL a b) := by unfold addB; rw [g1, g2]; rfl
  have hO : addOk a b = carOk (addL a b) := by unfold addOk; rw [g1, g2]; rfl
  obtain ⟨da, b1, -⟩ := bvalid_yes g1
  obtain ⟨db, b2, -⟩ := bvalid_yes g2
  have hbd : ∀ x ∈ addL a b, 0 ≤ x ∧ x ≤ 1000000 := fl_mem fun i _ => by have := getD_dig da i; have := getD_dig db i; omega
  have hll : (addL a b).length ≤ 1000 := by unfold addL; rw [fl_len]; omega
  obtain ⟨N, hN⟩ : ∃ N, max a.length b.length = N := ⟨_, rfl⟩
  have hNi : max (a.length : Int) (b.length : Int) = (N : Int) := by omega
  have hNi2 : max (b.length : Int) (a.length : Int) = (N : Int) := by omega
  have hNif : (if (a.length : Int) < (b.length : Int) then (b.length : Int) else (a.length : Int)) = (N : Int) := by split <;> omega
  have hNif2 : (if a.length < b.length then (b.length : Int) else (a.length : Int)) = (N : Int) := by split <;> omega
  have hNa : a.length ≤ N := by omega
  have hNb : b.length ≤ N := by omega
  have hN60 : N ≤ 60 := by omega
  have Hg1 := Lib.hid g1; clear g1; have Hg2 := Lib.hid g2; clear g2; have Hk1 := Lib.hid k1; clear k1; have Hk2 := Lib.hid k2; clear k2; have HhV := Lib.hid hV; clear hV; have HhO := Lib.hid hO; clear hO; have Hda := Lib.hid da; clear da; have Hdb := Lib.hid db; clear db; have Hhbd := Lib.hid hbd; clear hbd; have Hhll := Lib.hid hll; clear hll; have HhN := Lib.hid hN; clear hN
  go_enter Try.func62, Try.ntmps62
  go_wp2_with (first | (go_at_call 54; ((with_reducible refine (Hk1.out _ (((h1.alloc _).alloc _).alloc _)).mono ?_); rintro e w1 ⟨rfl, hb⟩; (replace y2 := blockB hb y2; replace y3 := blockB hb y3; replace y4 := blockB hb y4; replace h1 := (((h1.alloc _).alloc _).alloc _).below hb; replace h2 := (((h2.alloc _).alloc _).alloc _).below hb; replace hB := below_tr hB hb; clear hb; have z2 := cellAt y2 0; have z3 := cellAt y3 0; have z4 := cellAt y4 0; have f4 := frozen0 (j := 0) y4))) | (go_at_call 54; ((with_reducible refine (Hk2.out _ h2).mono ?_); rintro e w2 ⟨rfl, hb⟩; (replace y2 := blockB hb y2; replace y3 := blockB hb y3; replace y4 := blockB hb y4; replace h1 := h1.below hb; replace h2 := h2.below hb; replace hB := below_tr hB hb; clear hb; clear z2 z3 z4 f4; have z2 := cellAt y2 0; have z3 := cellAt y3 0; have z4 := cellAt y4 0; have f4 := frozen0 (j := 0) y4))) | (at_make; go_must (refine wp_make_ints rfl _ _ rfl w2.heap.size .i64 .i64 _ _ N rfl rfl (by omega) (by omega) (by omega) (Nat.le_refl _) ?_; intro w3 hown hb3; clear z2 z3 z4 f4; have z2 := cellAt (blockB hb3 y2) 0; have z3 := cellAt (blockB hb3 y3) 0)))
  have hown : w3.ownsRow w2.heap.size 3 1 (.slice (some ⟨w2.heap.size, 0, none⟩) N N) N ((fl N (fun _ => 0)).map intV) := by
    have := hown
    rw [fl_zero] at this
    unfold OwnI at this
    rw [fl_len] at this
    exact this
  have hs2 : w2.heap.size + 1 ≤ w3.heap.size := by
    rcases hown.2 with ⟨h, _⟩ | ⟨g, cap, cur, h, _, hh, _⟩
    · simp at h
    · simp at h; rw [← h.1] at hh; have := lt_of_heap hh; omega
  clear z2 z3 hNi hNi2 hNif hNif2
  have hown0 : w3.ownsRow w2.heap.size 3 1 (.slice (some ⟨w2.heap.size, 0, none⟩) N N) N ((fl N (ad1 a 0)).map intV) := by
    rw [show fl N (ad1 a 0) = fl N (fun _ => 0) from fl_congr fun p _ => ad1_zero a p]
    exact hown
  clear hown
  go_loopw [31] (fun ii wr => ∃ i : Nat, ii = .int .i64 (i : Int) ∧ i ≤ a.length ∧ wr.ownsRow w2.heap.size 3 1 (.slice (some ⟨w2.heap.size, 0, none⟩) N N) N ((fl N (ad1 a i)).map intV) ∧ Below w2.heap.size w2 wr) (fun ii _ => a.length - (intOf ii).toNat)
  case atStart => exact ⟨0, rfl, Nat.zero_le _, hown0, hb3⟩
  case round =>
    obtain ⟨i, rfl, hi, hown, hb⟩ := hrel
    have x2 := blockB hb y2
    have x3 := blockB hb y3
    have z2 := cellAt x2 0
    have z3 := cellAt x3 0
    have q1 := h1.below hb
    have q2 := h2.below hb
    by_cases hlt : i < a.length
    · have g0 : (i : Int) < (a.length : Int) := by omega
      obtain ⟨_, _, e1, -, -, -, hA⟩ := IRow.open q1
      simp only [Value.slice.injEq] at e1
      obtain ⟨rfl, -, rfl⟩ := e1
      obtain ⟨p, off, rfl, u1⟩ := hA i hlt
      replace u1 := u1 i hlt
      clear hA
      have ea := getD_in hlt
      have hda := Hda.out a[i] (List.getElem_mem hlt)
      obtain ⟨x, hx⟩ : ∃ x, a[i] = x := ⟨_, rfl⟩
      rw [hx] at u1 ea hda
      have c4 := ownI_cell hown i (by rw [fl_len]; omega)
      rw [fl_get, ad1_at] at c4
      have f4 := hown.frozenAt i
      have h3 := ownI_set hown i (x)
      rw [← ea, ad1_step] at h3
      have Hhown := Lib.hid hown; clear hown; have Hh3 := Lib.hid h3; clear h3; have Hhx := Lib.hid hx; clear hx; have Hea := Lib.hid ea; clear ea
      go_wp2_with fail
      go_roundw
      case rel => exact ⟨i + 1, by go_num, by omega, (by first | exact Hh3.out | (have := Hh3.out; rw [Hea.out] at this; exact this)), hb.setCell (p := ⟨w2.heap.size, i, none⟩) (Nat.le_refl _) _⟩
      case measure => simp [intOf] <;> omega
    · obtain rfl : i = a.length := by omega
      have g0 : ¬ (a.length : Int) < (a.length : Int) := by omega
      have hown1 : wr.ownsRow w2.heap.size 3 1 (.slice (some ⟨w2.heap.size, 0, none⟩) N N) N ((fl N (ad2 a b 0)).map intV) := by
        rw [show fl N (ad2 a b 0) = fl N (ad1 a a.length) from fl_congr fun p _ => by rw [ad1_all]; unfold ad2; rw [ad1_zero]; omega]
        exact hown
      have hb1 := hb
      clear hown
      have Hhown1 := Lib.hid hown1; clear hown1
      go_wp2_with fail
      clear hown0 z2 z3 x2 x3 q1 q2 hb
      go_loopw [47] (fun ii wr => ∃ i : Nat, ii = .int .i64 (i : Int) ∧ i ≤ b.length ∧ wr.ownsRow w2.heap.size 3 1 (.slice (some ⟨w2.heap.size, 0, none⟩) N N) N ((fl N (ad2 a b i)).map intV) ∧ Below w2.heap.size w2 wr) (fun ii _ => b.length - (intOf ii).toNat)
      case atStart => exact ⟨0, rfl, Nat.zero_le _, Hhown1.out, hb1⟩
      case round =>
        obtain ⟨i, rfl, hi, hown, hb⟩ := hrel
        have x2 := blockB hb y2
        have x3 := blockB hb y3
        have z2 := cellAt x2 0
        have z3 := cellAt x3 0
        have q1 := h1.below hb
        have q2 := h2.below hb
        by_cases hlt : i < b.length
        · have g0 : (i : Int) < (b.length : Int) := by omega
          obtain ⟨_, _, e2, -, -, -, hC⟩ := IRow.open q2
          simp only [Value.slice.injEq] at e2
          obtain ⟨rfl, -, rfl⟩ := e2
          obtain ⟨p', off', rfl, u2⟩ := hC i hlt
          replace u2 := u2 i hlt
          clear hC
          have ea := getD_in hlt
          have hda := Hdb.out b[i] (List.getElem_mem hlt)
          obtain ⟨x, hx⟩ : ∃ x, b[i] = x := ⟨_, rfl⟩
          rw [hx] at u2 ea hda
          have c4 := ownI_cell hown i (by rw [fl_len]; omega)
          rw [fl_get, ad2_at] at c4
          have f4 := hown.frozenAt i
          obtain ⟨y, hy⟩ : ∃ y, a.getD i 0 = y := ⟨_, rfl⟩
          have hay := getD_dig Hda.out i
          rw [hy] at c4 hay
          have h3 := ownI_set hown i (a.getD i 0 + x)
          have h3 : _ := h3
          rw [show a.getD i 0 + x = y + x by rw [hy]] at h3
          rw [show (fl N (ad2 a b i)).set i (y + x) = fl N (ad2 a b (i + 1)) by rw [← ad2_step, ea, hy]] at h3
          have Hhown := Lib.hid hown; clear hown; have Hh3 := Lib.hid h3; clear h3; have Hhx := Lib.hid hx; clear hx; have Hea := Lib.hid ea; clear ea; have Hhy := Lib.hid hy; clear hy
          go_wp2_with fail
          go_roundw
          case rel => exact ⟨i + 1, by go_num, by omega, (by first | exact Hh3.out | (have := Hh3.out; rw [Hea.out] at this; exact this)), hb.setCell (p := ⟨w2.heap.size, i, none⟩) (Nat.le_refl _) _⟩
          case measure => simp [intOf] <;> omega
        · obtain rfl : i = b.length := by omega
          have g0 : ¬ (b.length : Int) < (b.length : Int) := by omega
          have hown2 : wr.ownsRow w2.heap.size 3 1 (.slice (some ⟨w2.heap.size, 0, none⟩) N N) N ((addL a b).map intV) := by
            rw [show addL a b = fl N (ad2 a b b.length) from (congrArg (fun n => fl n (fun i => a.getD i 0 + b.getD i 0)) HhN.out).trans (fl_congr fun p _ => by unfold ad2; rw [ad1_all])]
            exact hown
          have hLN : (addL a b).length = N := by unfold addL; rw [fl_len]; exact HhN.out
          have hrow : IRow wr (.slice (some ⟨w2.heap.size, 0, none⟩) N N) (addL a b) := by
            have h9 : OwnI wr w2.heap.size (.slice (some ⟨w2.heap.size, 0, none⟩) (addL a b).length N) (addL a b) := by unfold OwnI; rw [hLN]; exact hown2
            have := h9.row
            rw [hLN] at this
            exact this
          have kc := carried_i _ (addL a b) Hhll.out Hhbd.out wr hrow
          have x4 := blockB hb y4
          have hs4 : w.heap.size + 2 < w2.heap.size := lt_of_heap y4
          have Hkc := Lib.hid kc; clear kc; have Hhown := Lib.hid hown; clear hown; have Hhown2 := Lib.hid hown2; clear hown2; have Hhrow := Lib.hid hrow; clear hrow
          go_wp2_with (go_at_call 91; ((with_reducible refine (Hkc.out).mono ?_); rintro e w5 ⟨A5, c5, rfl, hown5, hb5⟩; (have v4 := blockB hb5 x4; have z4 := cellAt v4 0; have f4 := frozen0 (j := 0) v4)))
          refine bodyPost_ret (res_big_tmp rfl rfl rfl (setS v4 _)) rfl ⟨A5, c5, by rw [HhO.out, HhV.out]; rfl, ?_, ?_⟩
          · rw [HhV.out]; exact own_mono (own_set_low hown5 (by have := hb.size; omega) _) (by have := hb.size; omega)
          · exact ((hB.trans (hb.mono hB.size)).trans (hb5.mono (by have := hb.size; have := hB.size; omega))).setCell (p := ⟨w.heap.size + 2, 0, none⟩) (by show w.heap.size ≤ w.heap.size + 2; omega) _
theorem AddBigInt_s (va vb : Value) (a b : List Int) (w : World) (h1 : IRow w va a) (h2 : IRow w vb b) : Calls Try.prog 61 #[.agg #[va], .agg #[vb]] w (fun e w' => ∃ A c, e = .returned (.tuple #[.agg #[.slice A (addB a b).length c], .bool (addOk a b)]) ∧ OwnI w' w.heap.size (.slice A (addB a b).length c) (addB a b) ∧ Below w.heap.size w w') := by
  have k1 := fun W h => IsValidBigInt_s va a W h
  have k2 := fun W h => IsValidBigInt_s vb b W h
  obtain ⟨A, c, e1, -⟩ := IRow.open h1
  obtain ⟨A', c', e2, -⟩ := IRow.open h2
  have y2 := heapN (heapN (heap_alloc_new w (.cells #[va] 46)) (.cells #[vb] 46)) (.cells #[.slice none 0 0] 46)
  have y3 := heapN (heap_new1 w (.cells #[va] 46) (.cells #[vb] 46)) (.cells #[.slice none 0 0] 46)
  have y4 := heap_new2 w (.cells #[va] 46) (.cells #[vb] 46) (.cells #[.slice none 0 0] 46)
  have hB : Below w.heap.size w (((w.alloc (.cells #[va] 46)).alloc (.cells #[vb] 46)).alloc (.cells #[.slice none 0 0] 46)) := (((Below.refl _ _).alloc (Nat.le_refl _) _).alloc (by simp) _).alloc (by simp; omega) _
  subst e1 e2
  cases g1 : bvalid a
  · have hO : addOk a b = false := by unfold addOk; rw [g1]; rfl
    have hV : addB a b = [] := by unfold addB; rw [g1]; rfl
    rw [g1] at k1
    have Hg1 := Lib.hid g1; clear g1; have Hk1 := Lib.hid k1; clear k1; have Hk2 := Lib.hid k2; clear k2; have HhO := Lib.hid hO; clear hO; have HhV := Lib.hid hV; clear hV
    go_enter Try.func61, Try.ntmps61
    go_wp2_with ((go_at_call 52; ((with_reducible refine (Hk1.out _ (((h1.alloc _).alloc _).alloc _)).mono ?_); rintro e w1 ⟨rfl, hb⟩; (replace y2 := blockB hb y2; replace y3 := blockB hb y3; replace y4 := blockB hb y4; replace h1 := (((h1.alloc _).alloc _).alloc _).below hb; replace h2 := (((h2.alloc _).alloc _).alloc _).below hb; replace hB := below_tr hB hb; clear hb; have z2 := cellAt y2 0; have z3 := cellAt y3 0; have z4 := cellAt y4 0; have f4 := frozen0 (j := 0) y4))))
    refine bodyPost_ret (res_big_tmp rfl rfl rfl (setS y4 _)) rfl ⟨none, 0, by rw [HhO.out, HhV.out]; rfl, by rw [HhV.out]; exact own_nil, hB.setCell (p := ⟨w.heap.size + 2, 0, none⟩) (by show w.heap.size ≤ w.heap.size + 2; omega) _⟩
  rw [g1] at k1
  cases g2 : bvalid b
  · have hO : addOk a b = false := by unfold addOk; rw [g1, g2]; rfl
    have hV : addB a b = [] := by unfold addB; rw [g1, g2]; rfl
    rw [g2] at k2
    have Hg1 := Lib.hid g1; clear g1; have Hg2 := Lib.hid g2; clear g2; have Hk1 := Lib.hid k1; clear k1; have Hk2 := Lib.hid k2; clear k2; have HhO := Lib.hid hO; clear hO; have HhV := Lib.hid hV; clear hV
    go_enter Try.func61, Try.ntmps61
    go_wp2_with (first | (go_at_call 52; ((with_reducible refine (Hk1.out _ (((h1.alloc _).alloc _).alloc _)).mono ?_); rintro e w1 ⟨rfl, hb⟩; (replace y2 := blockB hb y2; replace y3 := blockB hb y3; replace y4 := blockB hb y4; replace h1 := (((h1.alloc _).alloc _).alloc _).below hb; replace h2 := (((h2.alloc _).alloc _).alloc _).below hb; replace hB := below_tr hB hb; clear hb; have z2 := cellAt y2 0; have z3 := cellAt y3 0; have z4 := cellAt y4 0; have f4 := frozen0 (j := 0) y4))) | (go_at_call 52; ((with_reducible refine (Hk2.out _ h2).mono ?_); rintro e w2 ⟨rfl, hb⟩; (replace y2 := blockB hb y2; replace y3 := blockB hb y3; replace y4 := blockB hb y4; replace h1 := h1.below hb; replace h2 := h2.below hb; replace hB := below_tr hB hb; clear hb; clear z2 z3 z4 f4; have z2 := cellAt y2 0; have z3 := cellAt y3 0; have z4 := cellAt y4 0; have f4 := frozen0 (j := 0) y4))))
    refine bodyPost_ret (res_big_tmp rfl rfl rfl (setS y4 _)) rfl ⟨none, 0, by rw [HhO.out, HhV.out]; rfl, by rw [HhV.out]; exact own_nil, hB.setCell (p := ⟨w.heap.size + 2, 0, none⟩) (by show w.heap.size ≤ w.heap.size + 2; omega) _⟩
  rw [g2] at k2
  have hV : addB a b = carV (addL a b) := by unfold addB; rw [g1, g2]; rfl
  have hO : addOk a b = carOk (addL a b) := by unfold addOk; rw [g1, g2]; rfl
  obtain ⟨da, b1, -⟩ := bvalid_yes g1
  obtain ⟨db, b2, -⟩ := bvalid_yes g2
  have hbd : ∀ x ∈ addL a b, 0 ≤ x ∧ x ≤ 1000000 := fl_mem fun i _ => by have := getD_dig da i; have := getD_dig db i; omega
  have hll : (addL a b).length ≤ 1000 := by unfold addL; rw [fl_len]; omega
  obtain ⟨N, hN⟩ : ∃ N, max a.length b.length = N := ⟨_, rfl⟩
  have hNi : max (a.length : Int) (b.length : Int) = (N : Int) := by omega
  have hNi2 : max (b.length : Int) (a.length : Int) = (N : Int) := by omega
  have hNif : (if (a.length : Int) < (b.length : Int) then (b.length : Int) else (a.length : Int)) = (N : Int) := by split <;> omega
  have hNif2 : (if a.length < b.length then (b.length : Int) else (a.length : Int)) = (N : Int) := by split <;> omega
  have hNa : a.length ≤ N := by omega
  have hNb : b.length ≤ N := by omega
  have hN60 : N ≤ 60 := by omega
  have Hg1 := Lib.hid g1; clear g1; have Hg2 := Lib.hid g2; clear g2; have Hk1 := Lib.hid k1; clear k1; have Hk2 := Lib.hid k2; clear k2; have HhV := Lib.hid hV; clear hV; have HhO := Lib.hid hO; clear hO; have Hda := Lib.hid da; clear da; have Hdb := Lib.hid db; clear db; have Hhbd := Lib.hid hbd; clear hbd; have Hhll := Lib.hid hll; clear hll; have HhN := Lib.hid hN; clear hN
  go_enter Try.func61, Try.ntmps61
  go_wp2_with (first | (go_at_call 52; ((with_reducible refine (Hk1.out _ (((h1.alloc _).alloc _).alloc _)).mono ?_); rintro e w1 ⟨rfl, hb⟩; (replace y2 := blockB hb y2; replace y3 := blockB hb y3; replace y4 := blockB hb y4; replace h1 := (((h1.alloc _).alloc _).alloc _).below hb; replace h2 := (((h2.alloc _).alloc _).alloc _).below hb; replace hB := below_tr hB hb; clear hb; have z2 := cellAt y2 0; have z3 := cellAt y3 0; have z4 := cellAt y4 0; have f4 := frozen0 (j := 0) y4))) | (go_at_call 52; ((with_reducible refine (Hk2.out _ h2).mono ?_); rintro e w2 ⟨rfl, hb⟩; (replace y2 := blockB hb y2; replace y3 := blockB hb y3; replace y4 := blockB hb y4; replace h1 := h1.below hb; replace h2 := h2.below hb; replace hB := below_tr hB hb; clear hb; clear z2 z3 z4 f4; have z2 := cellAt y2 0; have z3 := cellAt y3 0; have z4 := cellAt y4 0; have f4 := frozen0 (j := 0) y4))) | (at_make; go_must (refine wp_make_ints rfl _ _ rfl w2.heap.size .i64 .i64 _ _ N rfl rfl (by omega) (by omega) (by omega) (Nat.le_refl _) ?_; intro w3 hown hb3; clear z2 z3 z4 f4; have z2 := cellAt (blockB hb3 y2) 0; have z3 := cellAt (blockB hb3 y3) 0)))
  have hown : w3.ownsRow w2.heap.size 3 1 (.slice (some ⟨w2.heap.size, 0, none⟩) N N) N ((fl N (fun _ => 0)).map intV) := by
    have := hown
    rw [fl_zero] at this
    unfold OwnI at this
    rw [fl_len] at this
    exact this
  have hs2 : w2.heap.size + 1 ≤ w3.heap.size := by
    rcases hown.2 with ⟨h, _⟩ | ⟨g, cap, cur, h, _, hh, _⟩
    · simp at h
    · simp at h; rw [← h.1] at hh; have := lt_of_heap hh; omega
  clear z2 z3 hNi hNi2 hNif hNif2
  have hown0 : w3.ownsRow w2.heap.size 3 1 (.slice (some ⟨w2.heap.size, 0, none⟩) N N) N ((fl N (ad3 a b 0)).map intV) := by
    rw [show fl N (ad3 a b 0) = fl N (fun _ => 0) from fl_congr fun p _ => ad3_zero a b p]
    exact hown
  clear hown
  have h2q := h2
  clear h2
  go_loopw [7] (fun ii wr => ∃ i : Nat, ii = .int .i64 (i : Int) ∧ i ≤ N ∧ wr.ownsRow w2.heap.size 3 1 (.slice (some ⟨w2.heap.size, 0, none⟩) N N) N ((fl N (ad3 a b i)).map intV) ∧ Below w2.heap.size w2 wr) (fun ii _ => N - (intOf ii).toNat)
  case atStart => exact ⟨0, rfl, Nat.zero_le _, hown0, hb3⟩
  case round =>
    obtain ⟨i, rfl, hi, hown, hb⟩ := hrel
    have x2 := blockB hb y2
    have x3 := blockB hb y3
    have z2 := cellAt x2 0
    have z3 := cellAt x3 0
    have q1 := h1.below hb
    have q2 := h2q.below hb
    by_cases hlt : i < N
    · have g0 : (i : Int) < (N : Int) := by omega
      have c4 := ownI_cell hown i (by rw [fl_len]; omega)
      rw [fl_get, ad3_at] at c4
      have f4 := hown.frozenAt i
      by_cases ha : i < a.length
      · have ga : (i : Int) < (a.length : Int) := by omega
        obtain ⟨_, _, e1, -, -, -, hA⟩ := IRow.open q1
        simp only [Value.slice.injEq] at e1
        obtain ⟨rfl, -, rfl⟩ := e1
        obtain ⟨p, off, rfl, u1⟩ := hA i ha
        replace u1 := u1 i ha
        clear hA
        have ea := getD_in ha
        have hda := Hda.out a[i] (List.getElem_mem ha)
        obtain ⟨x, hx⟩ : ∃ x, a[i] = x := ⟨_, rfl⟩
        rw [hx] at u1 ea hda
        by_cases hbb : i < b.length
        · have gb : (i : Int) < (b.length : Int) := by omega
          obtain ⟨_, _, e2, -, -, -, hC⟩ := IRow.open q2
          simp only [Value.slice.injEq] at e2
          obtain ⟨rfl, -, rfl⟩ := e2
          obtain ⟨p', off', rfl, u2⟩ := hC i hbb
          replace u2 := u2 i hbb
          clear hC
          have eb := getD_in hbb
          have hdb := Hdb.out b[i] (List.getElem_mem hbb)
          obtain ⟨y, hy⟩ : ∃ y, b[i] = y := ⟨_, rfl⟩
          rw [hy] at u2 eb hdb
          have h2 := ownI_set hown i x
          have hbS := hb.setCell (p := ⟨w2.heap.size, i, none⟩) (Nat.le_refl _) (.int .i64 x)
          have x3S := blockB hbS y3
          have z3S := cellAt x3S 0
          have c4S := ownI_cell h2 i (by rw [List.length_set, fl_len]; omega)
          rw [List.getElem_set_self] at c4S
          have f4S := h2.frozenAt i
          have q2S := h2q.below hbS
          have u2S : (wr.setCell ⟨w2.heap.size, i, none⟩ (.int .i64 x)).cell? ⟨p', off' + i, none⟩ = some (.int .i64 y) := by
            obtain ⟨_, _, e1, -, -, -, hA⟩ := IRow.open q2S
            simp only [Value.slice.injEq] at e1
            obtain ⟨rfl, -, -⟩ := e1
            obtain ⟨p9, off9, e9, u9⟩ := hA i hbb
            simp at e9
            have := u9 i hbb
            rw [← e9.1, ← e9.2, hy] at this
            exact this
          have h3 := ownI_set (ownI_fl2 h2) i (x + y)
          rw [List.set_set, ad3_step (by rw [ea, eb])] at h3
          have Hhown := Lib.hid hown; clear hown; have Hh2 := Lib.hid h2; clear h2; have Hh3 := Lib.hid h3; clear h3; have Hhx := Lib.hid hx; clear hx; have Hhy := Lib.hid hy; clear hy; have Hea := Lib.hid ea; clear ea; have Heb := Lib.hid eb; clear eb; have HhbS := Lib.hid hbS; clear hbS
          go_wp2_with fail
          go_region
          all_goals (try go_wp2_with fail)
          go_roundw
          case rel => exact ⟨i + 1, by go_num, by omega, Hh3.out, by first | exact (((hb.setCell (p := ⟨w2.heap.size, i, none⟩) (Nat.le_refl _) _).drew).setCell (p := ⟨w2.heap.size, i, none⟩) (Nat.le_refl _) _) | exact (((hb.setCell (p := ⟨w2.heap.size, i, none⟩) (Nat.le_refl _) _)).setCell (p := ⟨w2.heap.size, i, none⟩) (Nat.le_refl _) _).drew⟩
          case measure => simp [intOf] <;> omega
        · have gb : ¬ (i : Int) < (b.length : Int) := by omega
          have eb := getD_out (l := b) (i := i) (by omega)
          have h3 := ownI_set hown i x
          rw [ad3_step (by rw [ea, eb]; omega)] at h3
          have hbS := hb.setCell (p := ⟨w2.heap.size, i, none⟩) (Nat.le_refl _) (.int .i64 x)
          have x3S := blockB hbS y3
          have z3S := cellAt x3S 0
          have Hhown := Lib.hid hown; clear hown; have Hh3 := Lib.hid h3; clear h3; have Hhx := Lib.hid hx; clear hx; have Hea := Lib.hid ea; clear ea; have Heb := Lib.hid eb; clear eb; have HhbS := Lib.hid hbS; clear hbS
          go_wp2_with fail
          go_roundw
          case rel => exact ⟨i + 1, by go_num, by omega, Hh3.out, hb.setCell (p := ⟨w2.heap.size, i, none⟩) (Nat.le_refl _) _⟩
          case measure => simp [intOf] <;> omega
      · have ga : ¬ (i : Int) < (a.length : Int) := by omega
        have hbb : i < b.length := by have := HhN.out; omega
        have gb : (i : Int) < (b.length : Int) := by omega
        obtain ⟨_, _, e2, -, -, -, hC⟩ := IRow.open q2
        simp only [Value.slice.injEq] at e2
        obtain ⟨rfl, -, rfl⟩ := e2
        obtain ⟨p', off', rfl, u2⟩ := hC i hbb
        replace u2 := u2 i hbb
        clear hC
        have ea := getD_out (l := a) (i := i) (by omega)
        have eb := getD_in hbb
        have hdb := Hdb.out b[i] (List.getElem_mem hbb)
        obtain ⟨y, hy⟩ : ∃ y, b[i] = y := ⟨_, rfl⟩
        rw [hy] at u2 eb hdb
        have h3 := ownI_set hown i y
        rw [ad3_step (by rw [ea, eb]; omega)] at h3
        have Hhown := Lib.hid hown; clear hown; have Hh3 := Lib.hid h3; clear h3; have Hhy := Lib.hid hy; clear hy; have Hea := Lib.hid ea; clear ea; have Heb := Lib.hid eb; clear eb
        go_wp2_with fail
        go_region
        all_goals (try go_wp2_with fail)
        go_roundw
        case rel => exact ⟨i + 1, by go_num, by omega, (by first | exact Hh3.out | (have := Hh3.out; simpa using this)), by first | exact (hb.drew).setCell (p := ⟨w2.heap.size, i, none⟩) (Nat.le_refl _) _ | exact (hb.setCell (p := ⟨w2.heap.size, i, none⟩) (Nat.le_refl _) _).drew⟩
        case measure => simp [intOf] <;> omega
    · obtain rfl : N = i := by omega
      have g0 : ¬ (N : Int) < (N : Int) := by omega
      have hown2 : wr.ownsRow w2.heap.size 3 1 (.slice (some ⟨w2.heap.size, 0, none⟩) N N) N ((addL a b).map intV) := by
        rw [show addL a b = fl N (ad3 a b N) from (congrArg (fun n => fl n (fun i => a.getD i 0 + b.getD i 0)) HhN.out).trans (fl_congr fun p hp => by unfold ad3; rw [if_pos hp])]
        exact hown
      have hLN : (addL a b).length = N := by unfold addL; rw [fl_len]; exact HhN.out
      have hrow : IRow wr (.slice (some ⟨w2.heap.size, 0, none⟩) N N) (addL a b) := by
        have h9 : OwnI wr w2.heap.size (.slice (some ⟨w2.heap.size, 0, none⟩) (addL a b).length N) (addL a b) := by unfold OwnI; rw [hLN]; exact hown2
        have := h9.row
        rw [hLN] at this
        exact this
      have kc := carried_s _ (addL a b) Hhll.out Hhbd.out wr hrow
      have x4 := blockB hb y4
      have hs4 : w.heap.size + 2 < w2.heap.size := lt_of_heap y4
      have Hkc := Lib.hid kc; clear kc; have Hhown := Lib.hid hown; clear hown; have Hhown2 := Lib.hid hown2; clear hown2; have Hhrow := Lib.hid hrow; clear hrow
      go_wp2_with (go_at_call 90; ((with_reducible refine (Hkc.out).mono ?_); rintro e w5 ⟨A5, c5, rfl, hown5, hb5⟩; (have v4 := heapN (blockB hb5 x4) (.cells #[.slice A5 (carV (addL a b)).length c5] 46); have z4 := cellAt v4 0; have f4 := frozen0 (j := 0) v4)))
      have hq := (hB.trans (hb.mono hB.size)).trans (hb5.mono (by have := hb.size; have := hB.size; omega))
      refine bodyPost_ret (res_big_tmp rfl rfl rfl (setS v4 _)) rfl ⟨A5, c5, by rw [HhO.out, HhV.out]; rfl, ?_, ?_⟩
      · rw [HhV.out]; exact own_mono (own_set_low (World.ownsRow.alloc hown5 _) (by have := hb.size; omega) _) (by have := hb.size; omega)
      · exact (hq.alloc hq.size _).setCell (p := ⟨w.heap.size + 2, 0, none⟩) (by show w.heap.size ≤ w.heap.size + 2; omega) _
end Go.Proofs.Ytkhphjapefijbaa
