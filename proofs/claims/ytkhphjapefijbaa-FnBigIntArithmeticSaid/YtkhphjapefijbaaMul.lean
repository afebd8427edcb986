/- Big integers: sum and product, both. (Written by mkmul.py.) -/
import Derived.Test.YtkhphjapefijbaaCarry
namespace Go.Proofs.Ytkhphjapefijbaa
open Go.RowKit Go.Sort
set_option maxHeartbeats 4000000
set_option maxRecDepth 100000

def fl (N : Nat) (f : Nat → Int) : List Int := (List.range N).map f
theorem fl_len (N : Nat) (f : Nat → Int) : (fl N f).length = N := by simp [fl]
theorem fl_get {N : Nat} {f : Nat → Int} {k : Nat} (h : k < (fl N f).length) : (fl N f)[k] = f k := by simp [fl]
theorem fl_set {N : Nat} {f : Nat → Int} {k : Nat} {v : Int} : (fl N f).set k v = fl N (fun i => if i = k then v else f i) := by
  apply List.ext_getElem
  · simp [fl]
  · intro i h1 h2
    rw [List.getElem_set]
    simp only [fl_get]
    by_cases h : i = k
    · rw [if_pos h, if_pos h.symm]
    · rw [if_neg h, if_neg (fun e => h e.symm)]
theorem fl_congr {N : Nat} {f g : Nat → Int} (h : ∀ i, i < N → f i = g i) : fl N f = fl N g := List.map_congr_left fun i hi => h i (List.mem_range.1 hi)
theorem fl_zero (N : Nat) : List.replicate N (0 : Int) = fl N (fun _ => 0) := by
  apply List.ext_getElem
  · simp [fl]
  · intro i h1 h2; simp [fl]
theorem fl_mem {N : Nat} {f : Nat → Int} {P : Int → Prop} (h : ∀ i, i < N → P (f i)) : ∀ x ∈ fl N f, P x := by
  intro x hx
  obtain ⟨i, hi, rfl⟩ := List.mem_map.1 hx
  exact h i (List.mem_range.1 hi)
theorem getD_dig {l : List Int} (h : ∀ d ∈ l, 0 ≤ d ∧ d ≤ 9) (i : Nat) : 0 ≤ l.getD i 0 ∧ l.getD i 0 ≤ 9 := by
  rcases Nat.lt_or_ge i l.length with hi | hi
  · simp [List.getD, hi]; exact h _ (List.getElem_mem hi)
  · simp [List.getD, List.getElem?_eq_none hi]
theorem getD_in {l : List Int} {i : Nat} (h : i < l.length) : l.getD i 0 = l[i] := by simp [List.getD, h]
def addL (a b : List Int) : List Int := fl (max a.length b.length) (fun i => a.getD i 0 + b.getD i 0)
def mrow (a b : List Int) (i j p : Nat) : Int := if i ≤ p ∧ p < i + j then a.getD i 0 * b.getD (p - i) 0 else 0
def macc (a b : List Int) : Nat → Nat → Int
  | 0, _ => 0
  | i + 1, p => macc a b i p + mrow a b i b.length p
def mulL (a b : List Int) : List Int := fl (a.length + b.length) (macc a b a.length)
def addB (a b : List Int) : List Int := if bvalid a && bvalid b then carV (addL a b) else []
def addOk (a b : List Int) : Bool := bvalid a && bvalid b && carOk (addL a b)
def mulB (a b : List Int) : List Int := if bvalid a && bvalid b then carV (mulL a b) else []
def mulOk (a b : List Int) : Bool := bvalid a && bvalid b && carOk (mulL a b)
theorem carV_len (l : List Int) : (carV l).length ≤ 60 := by
  unfold carV
  by_cases h : carOk l
  · rw [if_pos h]; simpa [carOk] using h
  · rw [if_neg h]; simp
theorem mulB_len (a b : List Int) : (mulB a b).length ≤ 60 := by
  unfold mulB
  split
  · exact carV_len _
  · simp
theorem addB_len (a b : List Int) : (addB a b).length ≤ 60 := by
  unfold addB
  split
  · exact carV_len _
  · simp
theorem dig_mul {x y : Int} (hx : 0 ≤ x ∧ x ≤ 9) (hy : 0 ≤ y ∧ y ≤ 9) : 0 ≤ x * y ∧ x * y ≤ 81 := by
  refine ⟨Int.mul_nonneg hx.1 hy.1, ?_⟩
  have := Int.mul_le_mul hx.2 hy.2 hy.1 (by omega)
  omega
theorem mrow_bd {a b : List Int} (ha : ∀ d ∈ a, 0 ≤ d ∧ d ≤ 9) (hb : ∀ d ∈ b, 0 ≤ d ∧ d ≤ 9) (i j p : Nat) : 0 ≤ mrow a b i j p ∧ mrow a b i j p ≤ 81 := by
  unfold mrow
  split
  · exact dig_mul (getD_dig ha i) (getD_dig hb _)
  · omega
theorem macc_bd {a b : List Int} (ha : ∀ d ∈ a, 0 ≤ d ∧ d ≤ 9) (hb : ∀ d ∈ b, 0 ≤ d ∧ d ≤ 9) (i p : Nat) : 0 ≤ macc a b i p ∧ macc a b i p ≤ 81 * (i : Int) := by
  induction i with
  | zero => unfold macc; omega
  | succ i ih => have := mrow_bd ha hb i b.length p; unfold macc; omega
theorem mrow_at (a b : List Int) (i j : Nat) : mrow a b i j (i + j) = 0 := by unfold mrow; rw [if_neg (by omega)]
theorem mrow_step (a b : List Int) (i j p : Nat) : mrow a b i (j + 1) p = if p = i + j then a.getD i 0 * b.getD j 0 else mrow a b i j p := by
  unfold mrow
  by_cases h : p = i + j
  · rw [if_pos h, if_pos (by omega), show p - i = j by omega]
  · rw [if_neg h]
    by_cases h2 : i ≤ p ∧ p < i + j
    · rw [if_pos h2, if_pos (by omega)]
    · rw [if_neg h2, if_neg (by omega)]
theorem mrow_zero (a b : List Int) (i p : Nat) : mrow a b i 0 p = 0 := by unfold mrow; rw [if_neg (by omega)]
theorem mul_step {a b : List Int} {N i j : Nat} : (fl N (fun p => macc a b i p + mrow a b i j p)).set (i + j) (macc a b i (i + j) + a.getD i 0 * b.getD j 0) = fl N (fun p => macc a b i p + mrow a b i (j + 1) p) := by
  rw [fl_set]
  refine fl_congr fun p _ => ?_
  rw [mrow_step]
  by_cases h : p = i + j
  · rw [if_pos h, if_pos h, h]
  · rw [if_neg h, if_neg h]
theorem ownI_fl {w : World} {B g N : Nat} {f : Nat → Int} (h : w.ownsRow B 3 1 (.slice (some ⟨g, 0, none⟩) N N) N ((fl N f).map intV)) : OwnI w B (.slice (some ⟨g, 0, none⟩) (fl N f).length N) (fl N f) := by
  unfold OwnI
  rw [fl_len]
  exact h
theorem MulBigInt_i (va vb : Value) (a b : List Int) (w : World) (h1 : IRow w va a) (h2 : IRow w vb b) : Calls Try.prog 60 #[.agg #[va], .agg #[vb]] w (fun e w' => ∃ A c, e = .returned (.tuple #[.agg #[.slice A (mulB a b).length c], .bool (mulOk a b)]) ∧ OwnI w' w.heap.size (.slice A (mulB a b).length c) (mulB a b) ∧ Below w.heap.size w w') := by
  have k1 := fun W h => IsValidBigInt_i va a W h
  have k2 := fun W h => IsValidBigInt_i vb b W h
  obtain ⟨A, c, e1, -⟩ := IRow.open h1
  obtain ⟨A', c', e2, -⟩ := IRow.open h2
  have y2 := heapN (heapN (heap_alloc_new w (.cells #[va] 46)) (.cells #[vb] 46)) (.cells #[.slice none 0 0] 46)
  have y3 := heapN (heap_new1 w (.cells #[va] 46) (.cells #[vb] 46)) (.cells #[.slice none 0 0] 46)
  have y4 := heap_new2 w (.cells #[va] 46) (.cells #[vb] 46) (.cells #[.slice none 0 0] 46)
  have hB : Below w.heap.size w (((w.alloc (.cells #[va] 46)).alloc (.cells #[vb] 46)).alloc (.cells #[.slice none 0 0] 46)) := (((Below.refl _ _).alloc (Nat.le_refl _) _).alloc (by simp) _).alloc (by simp; omega) _
  subst e1 e2
  cases g1 : bvalid a
  · have hO : mulOk a b = false := by unfold mulOk; rw [g1]; rfl
    have hV : mulB a b = [] := by unfold mulB; rw [g1]; rfl
    rw [g1] at k1
    have Hg1 := Lib.hid g1; clear g1; have Hk1 := Lib.hid k1; clear k1; have Hk2 := Lib.hid k2; clear k2; have HhO := Lib.hid hO; clear hO; have HhV := Lib.hid hV; clear hV
    go_enter Try.func60, Try.ntmps60
    go_wp2_with ((go_at_call 54; ((with_reducible refine (Hk1.out _ (((h1.alloc _).alloc _).alloc _)).mono ?_); rintro e w1 ⟨rfl, hb⟩; (replace y2 := blockB hb y2; replace y3 := blockB hb y3; replace y4 := blockB hb y4; replace h1 := (((h1.alloc _).alloc _).alloc _).below hb; replace h2 := (((h2.alloc _).alloc _).alloc _).below hb; replace hB := below_tr hB hb; clear hb; have z2 := cellAt y2 0; have z3 := cellAt y3 0; have z4 := cellAt y4 0; have f4 := frozen0 (j := 0) y4))))
    refine bodyPost_ret (res_big_tmp rfl rfl rfl (setS y4 _)) rfl ⟨none, 0, by rw [HhO.out, HhV.out]; rfl, by rw [HhV.out]; exact own_nil, hB.setCell (p := ⟨w.heap.size + 2, 0, none⟩) (by show w.heap.size ≤ w.heap.size + 2; omega) _⟩
  rw [g1] at k1
  cases g2 : bvalid b
  · have hO : mulOk a b = false := by unfold mulOk; rw [g1, g2]; rfl
    have hV : mulB a b = [] := by unfold mulB; rw [g1, g2]; rfl
    rw [g2] at k2
    have Hg1 := Lib.hid g1; clear g1; have Hg2 := Lib.hid g2; clear g2; have Hk1 := Lib.hid k1; clear k1; have Hk2 := Lib.hid k2; clear k2; have HhO := Lib.hid hO; clear hO; have HhV := Lib.hid hV; clear hV
    go_enter Try.func60, Try.ntmps60
    go_wp2_with (first | (go_at_call 54; ((with_reducible refine (Hk1.out _ (((h1.alloc _).alloc _).alloc _)).mono ?_); rintro e w1 ⟨rfl, hb⟩; (replace y2 := blockB hb y2; replace y3 := blockB hb y3; replace y4 := blockB hb y4; replace h1 := (((h1.alloc _).alloc _).alloc _).below hb; replace h2 := (((h2.alloc _).alloc _).alloc _).below hb; replace hB := below_tr hB hb; clear hb; have z2 := cellAt y2 0; have z3 := cellAt y3 0; have z4 := cellAt y4 0; have f4 := frozen0 (j := 0) y4))) | (go_at_call 54; ((with_reducible refine (Hk2.out _ h2).mono ?_); rintro e w2 ⟨rfl, hb⟩; (replace y2 := blockB hb y2; replace y3 := blockB hb y3; replace y4 := blockB hb y4; replace h1 := h1.below hb; replace h2 := h2.below hb; replace hB := below_tr hB hb; clear hb; clear z2 z3 z4 f4; have z2 := cellAt y2 0; have z3 := cellAt y3 0; have z4 := cellAt y4 0; have f4 := frozen0 (j := 0) y4))))
    refine bodyPost_ret (res_big_tmp rfl rfl rfl (setS y4 _)) rfl ⟨none, 0, by rw [HhO.out, HhV.out]; rfl, by rw [HhV.out]; exact own_nil, hB.setCell (p := ⟨w.heap.size + 2, 0, none⟩) (by show w.heap.size ≤ w.heap.size + 2; omega) _⟩
  rw [g2] at k2
  have hV : mulB a b = carV (mulL a b) := by unfold mulB; rw [g1, g2]; rfl
  have hO : mulOk a b = carOk (mulL a b) := by unfold mulOk; rw [g1, g2]; rfl
  obtain ⟨da, b1, -⟩ := bvalid_yes g1
  obtain ⟨db, b2, -⟩ := bvalid_yes g2
  have hbd : ∀ x ∈ mulL a b, 0 ≤ x ∧ x ≤ 1000000 := fl_mem fun i _ => by have := macc_bd da db a.length i; omega
  have hll : (mulL a b).length ≤ 1000 := by unfold mulL; rw [fl_len]; omega
  have Hg1 := Lib.hid g1; clear g1; have Hg2 := Lib.hid g2; clear g2; have Hk1 := Lib.hid k1; clear k1; have Hk2 := Lib.hid k2; clear k2; have HhV := Lib.hid hV; clear hV; have HhO := Lib.hid hO; clear hO; have Hda := Lib.hid da; clear da; have Hdb := Lib.hid db; clear db; have Hhbd := Lib.hid hbd; clear hbd; have Hhll := Lib.hid hll; clear hll
  go_enter Try.func60, Try.ntmps60
  go_wp2_with (first | (go_at_call 54; ((with_reducible refine (Hk1.out _ (((h1.alloc _).alloc _).alloc _)).mono ?_); rintro e w1 ⟨rfl, hb⟩; (replace y2 := blockB hb y2; replace y3 := blockB hb y3; replace y4 := blockB hb y4; replace h1 := (((h1.alloc _).alloc _).alloc _).below hb; replace h2 := (((h2.alloc _).alloc _).alloc _).below hb; replace hB := below_tr hB hb; clear hb; have z2 := cellAt y2 0; have z3 := cellAt y3 0; have z4 := cellAt y4 0; have f4 := frozen0 (j := 0) y4))) | (go_at_call 54; ((with_reducible refine (Hk2.out _ h2).mono ?_); rintro e w2 ⟨rfl, hb⟩; (replace y2 := blockB hb y2; replace y3 := blockB hb y3; replace y4 := blockB hb y4; replace h1 := h1.below hb; replace h2 := h2.below hb; replace hB := below_tr hB hb; clear hb; clear z2 z3 z4 f4; have z2 := cellAt y2 0; have z3 := cellAt y3 0; have z4 := cellAt y4 0; have f4 := frozen0 (j := 0) y4))) | (at_make; go_must (refine wp_make_ints rfl _ _ rfl w2.heap.size .i64 .i64 _ _ (a.length + b.length) rfl rfl (by omega) (by omega) (by omega) (Nat.le_refl _) ?_; intro w3 hown hb3; clear z2 z3 z4 f4; have z2 := cellAt (blockB hb3 y2) 0; have z3 := cellAt (blockB hb3 y3) 0)))
  have hown : w3.ownsRow w2.heap.size 3 1 (.slice (some ⟨w2.heap.size, 0, none⟩) (a.length + b.length) (a.length + b.length)) (a.length + b.length) ((fl (a.length + b.length) (fun _ => 0)).map intV) := by
    have := hown
    rw [fl_zero] at this
    unfold OwnI at this
    rw [fl_len] at this
    exact this
  have hs2 : w2.heap.size + 1 ≤ w3.heap.size := by
    rcases hown.2 with ⟨h, _⟩ | ⟨g, cap, cur, h, _, hh, _⟩
    · simp at h
    · simp at h; rw [← h.1] at hh; have := lt_of_heap hh; omega
  clear z2 z3
  go_loopw [31] (fun ii wr => ∃ i : Nat, ii = .int .i64 (i : Int) ∧ i ≤ a.length ∧ wr.ownsRow w2.heap.size 3 1 (.slice (some ⟨w2.heap.size, 0, none⟩) (a.length + b.length) (a.length + b.length)) (a.length + b.length) ((fl (a.length + b.length) (macc a b i)).map intV) ∧ Below w2.heap.size w2 wr) (fun ii _ => a.length - (intOf ii).toNat)
  case atStart => exact ⟨0, rfl, Nat.zero_le _, hown, hb3⟩
  case round =>
    clear hown
    obtain ⟨i, rfl, hi, hown, hb⟩ := hrel
    have x2 := blockB hb y2
    have x3 := blockB hb y3
    have z2 := cellAt x2 0
    have z3 := cellAt x3 0
    have q1 := h1.below hb
    have q2 := h2.below hb
    by_cases hlt : i < a.length
    · have g0 : (i : Int) < (a.length : Int) := by omega
      obtain ⟨_, _, e1, -, -, -, hA⟩ := IRow.open q1
      simp only [Value.slice.injEq] at e1
      obtain ⟨rfl, -, rfl⟩ := e1
      obtain ⟨p, off, rfl, u1⟩ := hA i hlt
      replace u1 := u1 i hlt
      clear hA
      have ea := getD_in hlt
      have hda := Hda.out a[i] (List.getElem_mem hlt)
      obtain ⟨x, hx⟩ : ∃ x, a[i] = x := ⟨_, rfl⟩
      rw [hx] at u1 ea hda
      have hown0 : wr.ownsRow w2.heap.size 3 1 (.slice (some ⟨w2.heap.size, 0, none⟩) (a.length + b.length) (a.length + b.length)) (a.length + b.length) ((fl (a.length + b.length) (fun p => macc a b i p + mrow a b i 0 p)).map intV) := by
        rw [show fl (a.length + b.length) (fun p => macc a b i p + mrow a b i 0 p) = fl (a.length + b.length) (macc a b i) from fl_congr fun p _ => by rw [mrow_zero, Int.add_zero]]
        exact hown
      have Hhown := Lib.hid hown; clear hown; have Hhx := Lib.hid hx; clear hx; have Hea := Lib.hid ea; clear ea
      go_wp2_with fail
      go_loopw [39] (fun jj wr => ∃ j : Nat, jj = .int .i64 (j : Int) ∧ j ≤ b.length ∧ wr.ownsRow w2.heap.size 3 1 (.slice (some ⟨w2.heap.size, 0, none⟩) (a.length + b.length) (a.length + b.length)) (a.length + b.length) ((fl (a.length + b.length) (fun p => macc a b i p + mrow a b i j p)).map intV) ∧ Below w2.heap.size w2 wr) (fun jj _ => b.length - (intOf jj).toNat)
      case atStart => exact ⟨0, rfl, Nat.zero_le _, hown0, hb⟩
      case round =>
        clear hown0 z2 z3 u1 q1 q2 x2 x3 hb
        obtain ⟨j, rfl, hj, hown, hb⟩ := hrel
        have x2 := blockB hb y2
        have x3 := blockB hb y3
        have z2 := cellAt x2 0
        have z3 := cellAt x3 0
        have q1 := h1.below hb
        have q2 := h2.below hb
        have u1 : wr.cell? ⟨p, off + i, none⟩ = some (.int .i64 x) := by
          obtain ⟨_, _, e1, -, -, -, hA⟩ := IRow.open q1
          simp only [Value.slice.injEq] at e1
          obtain ⟨rfl, -, -⟩ := e1
          obtain ⟨p9, off9, e9, u9⟩ := hA i hlt
          simp at e9
          have := u9 i hlt
          rw [← e9.1, ← e9.2, Hhx.out] at this
          exact this
        by_cases hlt2 : j < b.length
        · have g1 : (j : Int) < (b.length : Int) := by omega
          obtain ⟨_, _, e2, -, -, -, hC⟩ := IRow.open q2
          simp only [Value.slice.injEq] at e2
          obtain ⟨rfl, -, rfl⟩ := e2
          obtain ⟨p', off', rfl, u2⟩ := hC j hlt2
          replace u2 := u2 j hlt2
          clear hC
          have eb := getD_in hlt2
          have hdb := Hdb.out b[j] (List.getElem_mem hlt2)
          obtain ⟨y, hy⟩ : ∃ y, b[j] = y := ⟨_, rfl⟩
          rw [hy] at u2 eb hdb
          have c4 := ownI_cell hown (i + j) (by rw [fl_len]; omega)
          rw [fl_get, mrow_at, Int.add_zero] at c4
          have f4 := hown.frozenAt (i + j)
          have h3 := ownI_set hown (i + j) (macc a b i (i + j) + x * y)
          rw [← Hea.out, ← eb, mul_step] at h3
          have m1 := macc_bd Hda.out Hdb.out i (i + j)
          have m2 := dig_mul hda hdb
          generalize hm : macc a b i (i + j) = m at *
          have eij : ((i : Int) + (j : Int)).toNat = i + j := by omega
          have Hhown := Lib.hid hown; clear hown; have Hh3 := Lib.hid h3; clear h3; have Hhy := Lib.hid hy; clear hy; have Heb := Lib.hid eb; clear eb; have Hhm := Lib.hid hm; clear hm
          go_wp2_with fail
          go_roundw
          case rel => exact ⟨j + 1, by go_num, by omega, (by have := Hh3.out; rw [Hea.out, Heb.out] at this; exact this), hb.setCell (p := ⟨w2.heap.size, i + j, none⟩) (Nat.le_refl _) _⟩
          case measure => simp [intOf] <;> omega
        · obtain rfl : j = b.length := by omega
          have g1 : ¬ (b.length : Int) < (b.length : Int) := by omega
          have Hhown := Lib.hid hown; clear hown
          go_wp2_with fail
          go_roundw
          case rel => exact ⟨i + 1, by go_num, by omega, Hhown.out, hb⟩
          case measure => simp [intOf] <;> omega
    · obtain rfl : i = a.length := by omega
      have g0 : ¬ (a.length : Int) < (a.length : Int) := by omega
      have hrow : IRow wr (.slice (some ⟨w2.heap.size, 0, none⟩) (a.length + b.length) (a.length + b.length)) (mulL a b) := by have := (ownI_fl hown).row; rw [fl_len] at this; exact this
      have kc := carried_i _ (mulL a b) Hhll.out Hhbd.out wr hrow
      have x4 := blockB hb y4
      have hs4 : w.heap.size + 2 < w2.heap.size := lt_of_heap y4
      have Hkc := Lib.hid kc; clear kc; have Hhown := Lib.hid hown; clear hown; have Hhrow := Lib.hid hrow; clear hrow
      go_wp2_with (go_at_call 91; ((with_reducible refine (Hkc.out).mono ?_); rintro e w5 ⟨A5, c5, rfl, hown5, hb5⟩; (have v4 := blockB hb5 x4; have z4 := cellAt v4 0; have f4 := frozen0 (j := 0) v4)))
      refine bodyPost_ret (res_big_tmp rfl rfl rfl (setS v4 _)) rfl ⟨A5, c5, by rw [HhO.out, HhV.out]; rfl, ?_, ?_⟩
      · rw [HhV.out]; exact own_mono (own_set_low hown5 (by have := hb.size; omega) _) (by have := hb.size; omega)
      · exact ((hB.trans (hb.mono hB.size)).trans (hb5.mono (by have := hb.size; have := hB.size; omega))).setCell (p := ⟨w.heap.size + 2, 0, none⟩) (by show w.heap.size ≤ w.heap.size + 2; omega) _
theorem MulBigInt_s (va vb : Value) (a b : List Int) (w : World) (h1 : IRow w va a) (h2 : IRow w vb b) : Calls Try.prog 59 #[.agg #[va], .agg #[vb]] w (fun e w' => ∃ A c, e = .returned (.tuple #[.agg #[.slice A (mulB a b).length c], .bool (mulOk a b)]) ∧ OwnI w' w.heap.size (.slice A (mulB a b).length c) (mulB a b) ∧ Below w.heap.size w w') := by
  have k1 := fun W h => IsValidBigInt_s va a W h
  have k2 := fun W h => IsValidBigInt_s vb b W h
  obtain ⟨A, c, e1, -⟩ := IRow.open h1
  obtain ⟨A', c', e2, -⟩ := IRow.open h2
  have y2 := heapN (heapN (heap_alloc_new w (.cells #[va] 46)) (.cells #[vb] 46)) (.cells #[.slice none 0 0] 46)
  have y3 := heapN (heap_new1 w (.cells #[va] 46) (.cells #[vb] 46)) (.cells #[.slice none 0 0] 46)
  have y4 := heap_new2 w (.cells #[va] 46) (.cells #[vb] 46) (.cells #[.slice none 0 0] 46)
  have hB : Below w.heap.size w (((w.alloc (.cells #[va] 46)).alloc (.cells #[vb] 46)).alloc (.cells #[.slice none 0 0] 46)) := (((Below.refl _ _).alloc (Nat.le_refl _) _).alloc (by simp) _).alloc (by simp; omega) _
  subst e1 e2
  cases g1 : bvalid a
  · have hO : mulOk a b = false := by unfold mulOk; rw [g1]; rfl
    have hV : mulB a b = [] := by unfold mulB; rw [g1]; rfl
    rw [g1] at k1
    have Hg1 := Lib.hid g1; clear g1; have Hk1 := Lib.hid k1; clear k1; have Hk2 := Lib.hid k2; clear k2; have HhO := Lib.hid hO; clear hO; have HhV := Lib.hid hV; clear hV
    go_enter Try.func59, Try.ntmps59
    go_wp2_with ((go_at_call 52; ((with_reducible refine (Hk1.out _ (((h1.alloc _).alloc _).alloc _)).mono ?_); rintro e w1 ⟨rfl, hb⟩; (replace y2 := blockB hb y2; replace y3 := blockB hb y3; replace y4 := blockB hb y4; replace h1 := (((h1.alloc _).alloc _).alloc _).below hb; replace h2 := (((h2.alloc _).alloc _).alloc _).below hb; replace hB := below_tr hB hb; clear hb; have z2 := cellAt y2 0; have z3 := cellAt y3 0; have z4 := cellAt y4 0; have f4 := frozen0 (j := 0) y4))))
    refine bodyPost_ret (res_big_tmp rfl rfl rfl (setS y4 _)) rfl ⟨none, 0, by rw [HhO.out, HhV.out]; rfl, by rw [HhV.out]; exact own_nil, hB.setCell (p := ⟨w.heap.size + 2, 0, none⟩) (by show w.heap.size ≤ w.heap.size + 2; omega) _⟩
  rw [g1] at k1
  cases g2 : bvalid b
  · have hO : mulOk a b = false := by unfold mulOk; rw [g1, g2]; rfl
    have hV : mulB a b = [] := by unfold mulB; rw [g1, g2]; rfl
    rw [g2] at k2
    have Hg1 := Lib.hid g1; clear g1; have Hg2 := Lib.hid g2; clear g2; have Hk1 := Lib.hid k1; clear k1; have Hk2 := Lib.hid k2; clear k2; have HhO := Lib.hid hO; clear hO; have HhV := Lib.hid hV; clear hV
    go_enter Try.func59, Try.ntmps59
    go_wp2_with (first | (go_at_call 52; ((with_reducible refine (Hk1.out _ (((h1.alloc _).alloc _).alloc _)).mono ?_); rintro e w1 ⟨rfl, hb⟩; (replace y2 := blockB hb y2; replace y3 := blockB hb y3; replace y4 := blockB hb y4; replace h1 := (((h1.alloc _).alloc _).alloc _).below hb; replace h2 := (((h2.alloc _).alloc _).alloc _).below hb; replace hB := below_tr hB hb; clear hb; have z2 := cellAt y2 0; have z3 := cellAt y3 0; have z4 := cellAt y4 0; have f4 := frozen0 (j := 0) y4))) | (go_at_call 52; ((with_reducible refine (Hk2.out _ h2).mono ?_); rintro e w2 ⟨rfl, hb⟩; (replace y2 := blockB hb y2; replace y3 := blockB hb y3; replace y4 := blockB hb y4; replace h1 := h1.below hb; replace h2 := h2.below hb; replace hB := below_tr hB hb; clear hb; clear z2 z3 z4 f4; have z2 := cellAt y2 0; have z3 := cellAt y3 0; have z4 := cellAt y4 0; have f4 := frozen0 (j := 0) y4))))
    refine bodyPost_ret (res_big_tmp rfl rfl rfl (setS y4 _)) rfl ⟨none, 0, by rw [HhO.out, HhV.out]; rfl, by rw [HhV.out]; exact own_nil, hB.setCell (p := ⟨w.heap.size + 2, 0, none⟩) (by show w.heap.size ≤ w.heap.size + 2; omega) _⟩
  rw [g2] at k2
  have hV : mulB a b = carV (mulL a b) := by unfold mulB; rw [g1, g2]; rfl
  have hO : mulOk a b = carOk (mulL a b) := by unfold mulOk; rw [g1, g2]; rfl
  obtain ⟨da, b1, -⟩ := bvalid_yes g1
  obtain ⟨db, b2, -⟩ := bvalid_yes g2
  have hbd : ∀ x ∈ mulL a b, 0 ≤ x ∧ x ≤ 1000000 := fl_mem fun i _ => by have := macc_bd da db a.length i; omega
  have hll : (mulL a b).length ≤ 1000 := by unfold mulL; rw [fl_len]; omega
  have Hg1 := Lib.hid g1; clear g1; have Hg2 := Lib.hid g2; clear g2; have Hk1 := Lib.hid k1; clear k1; have Hk2 := Lib.hid k2; clear k2; have HhV := Lib.hid hV; clear hV; have HhO := Lib.hid hO; clear hO; have Hda := Lib.hid da; clear da; have Hdb := Lib.hid db; clear db; have Hhbd := Lib.hid hbd; clear hbd; have Hhll := Lib.hid hll; clear hll
  go_enter Try.func59, Try.ntmps59
  go_wp2_with (first | (go_at_call 52; ((with_reducible refine (Hk1.out _ (((h1.alloc _).alloc _).alloc _)).mono ?_); rintro e w1 ⟨rfl, hb⟩; (replace y2 := blockB hb y2; replace y3 := blockB hb y3; replace y4 := blockB hb y4; replace h1 := (((h1.alloc _).alloc _).alloc _).below hb; replace h2 := (((h2.alloc _).alloc _).alloc _).below hb; replace hB := below_tr hB hb; clear hb; have z2 := cellAt y2 0; have z3 := cellAt y3 0; have z4 := cellAt y4 0; have f4 := frozen0 (j := 0) y4))) | (go_at_call 52; ((with_reducible refine (Hk2.out _ h2).mono ?_); rintro e w2 ⟨rfl, hb⟩; (replace y2 := blockB hb y2; replace y3 := blockB hb y3; replace y4 := blockB hb y4; replace h1 := h1.below hb; replace h2 := h2.below hb; replace hB := below_tr hB hb; clear hb; clear z2 z3 z4 f4; have z2 := cellAt y2 0; have z3 := cellAt y3 0; have z4 := cellAt y4 0; have f4 := frozen0 (j := 0) y4))) | (at_make; go_must (refine wp_make_ints rfl _ _ rfl w2.heap.size .i64 .i64 _ _ (a.length + b.length) rfl rfl (by omega) (by omega) (by omega) (Nat.le_refl _) ?_; intro w3 hown hb3; clear z2 z3 z4 f4; have z2 := cellAt (blockB hb3 y2) 0; have z3 := cellAt (blockB hb3 y3) 0)))
  have hown : w3.ownsRow w2.heap.size 3 1 (.slice (some ⟨w2.heap.size, 0, none⟩) (a.length + b.length) (a.length + b.length)) (a.length + b.length) ((fl (a.length + b.length) (fun _ => 0)).map intV) := by
    have := hown
    rw [fl_zero] at this
    unfold OwnI at this
    rw [fl_len] at this
    exact this
  have hs2 : w2.heap.size + 1 ≤ w3.heap.size := by
    rcases hown.2 with ⟨h, _⟩ | ⟨g, cap, cur, h, _, hh, _⟩
    · simp at h
    · simp at h; rw [← h.1] at hh; have := lt_of_heap hh; omega
  clear z2 z3
  go_loopw [7] (fun ii wr => ∃ i : Nat, ii = .int .i64 (i : Int) ∧ i ≤ a.length ∧ wr.ownsRow w2.heap.size 3 1 (.slice (some ⟨w2.heap.size, 0, none⟩) (a.length + b.length) (a.length + b.length)) (a.length + b.length) ((fl (a.length + b.length) (macc a b i)).map intV) ∧ Below w2.heap.size w2 wr) (fun ii _ => a.length - (intOf ii).toNat)
  case atStart => exact ⟨0, rfl, Nat.zero_le _, hown, hb3⟩
  case round =>
    clear hown
    obtain ⟨i, rfl, hi, hown, hb⟩ := hrel
    have x2 := blockB hb y2
    have x3 := blockB hb y3
    have z2 := cellAt x2 0
    have z3 := cellAt x3 0
    have q1 := h1.below hb
    have q2 := h2.below hb
    by_cases hlt : i < a.length
    · have g0 : (i : Int) < (a.length : Int) := by omega
      obtain ⟨_, _, e1, -, -, -, hA⟩ := IRow.open q1
      simp only [Value.slice.injEq] at e1
      obtain ⟨rfl, -, rfl⟩ := e1
      obtain ⟨p, off, rfl, u1⟩ := hA i hlt
      replace u1 := u1 i hlt
      clear hA
      have ea := getD_in hlt
      have hda := Hda.out a[i] (List.getElem_mem hlt)
      obtain ⟨x, hx⟩ : ∃ x, a[i] = x := ⟨_, rfl⟩
      rw [hx] at u1 ea hda
      have hown0 : wr.ownsRow w2.heap.size 3 1 (.slice (some ⟨w2.heap.size, 0, none⟩) (a.length + b.length) (a.length + b.length)) (a.length + b.length) ((fl (a.length + b.length) (fun p => macc a b i p + mrow a b i 0 p)).map intV) := by
        rw [show fl (a.length + b.length) (fun p => macc a b i p + mrow a b i 0 p) = fl (a.length + b.length) (macc a b i) from fl_congr fun p _ => by rw [mrow_zero, Int.add_zero]]
        exact hown
      have Hhown := Lib.hid hown; clear hown; have Hhx := Lib.hid hx; clear hx; have Hea := Lib.hid ea; clear ea
      go_wp2_with fail
      go_loopw [8] (fun jj wr => ∃ j : Nat, jj = .int .i64 (j : Int) ∧ j ≤ b.length ∧ wr.ownsRow w2.heap.size 3 1 (.slice (some ⟨w2.heap.size, 0, none⟩) (a.length + b.length) (a.length + b.length)) (a.length + b.length) ((fl (a.length + b.length) (fun p => macc a b i p + mrow a b i j p)).map intV) ∧ Below w2.heap.size w2 wr) (fun jj _ => b.length - (intOf jj).toNat)
      case atStart => exact ⟨0, rfl, Nat.zero_le _, hown0, hb⟩
      case round =>
        clear hown0 z2 z3 u1 q1 q2 x2 x3 hb
        obtain ⟨j, rfl, hj, hown, hb⟩ := hrel
        have x2 := blockB hb y2
        have x3 := blockB hb y3
        have z2 := cellAt x2 0
        have z3 := cellAt x3 0
        have q1 := h1.below hb
        have q2 := h2.below hb
        have u1 : wr.cell? ⟨p, off + i, none⟩ = some (.int .i64 x) := by
          obtain ⟨_, _, e1, -, -, -, hA⟩ := IRow.open q1
          simp only [Value.slice.injEq] at e1
          obtain ⟨rfl, -, -⟩ := e1
          obtain ⟨p9, off9, e9, u9⟩ := hA i hlt
          simp at e9
          have := u9 i hlt
          rw [← e9.1, ← e9.2, Hhx.out] at this
          exact this
        by_cases hlt2 : j < b.length
        · have g1 : (j : Int) < (b.length : Int) := by omega
          obtain ⟨_, _, e2, -, -, -, hC⟩ := IRow.open q2
          simp only [Value.slice.injEq] at e2
          obtain ⟨rfl, -, rfl⟩ := e2
          obtain ⟨p', off', rfl, u2⟩ := hC j hlt2
          replace u2 := u2 j hlt2
          clear hC
          have eb := getD_in hlt2
          have hdb := Hdb.out b[j] (List.getElem_mem hlt2)
          obtain ⟨y, hy⟩ : ∃ y, b[j] = y := ⟨_, rfl⟩
          rw [hy] at u2 eb hdb
          have c4 := ownI_cell hown (i + j) (by rw [fl_len]; omega)
          rw [fl_get, mrow_at, Int.add_zero] at c4
          have f4 := hown.frozenAt (i + j)
          have h3 := ownI_set hown (i + j) (macc a b i (i + j) + x * y)
          rw [← Hea.out, ← eb, mul_step] at h3
          have m1 := macc_bd Hda.out Hdb.out i (i + j)
          have m2 := dig_mul hda hdb
          generalize hm : macc a b i (i + j) = m at *
          have eij : ((i : Int) + (j : Int)).toNat = i + j := by omega
          have Hhown := Lib.hid hown; clear hown; have Hh3 := Lib.hid h3; clear h3; have Hhy := Lib.hid hy; clear hy; have Heb := Lib.hid eb; clear eb; have Hhm := Lib.hid hm; clear hm
          go_wp2_with fail
          go_region
          all_goals (try go_wp2_with fail)
          go_roundw
          case rel => exact ⟨j + 1, by go_num, by omega, (by have := Hh3.out; rw [Hea.out, Heb.out] at this; exact this), by first | exact (hb.setCell (p := ⟨w2.heap.size, i + j, none⟩) (Nat.le_refl _) _).drew | exact hb.drew.setCell (p := ⟨w2.heap.size, i + j, none⟩) (Nat.le_refl _) _⟩
          case measure => simp [intOf] <;> omega
        · obtain rfl : j = b.length := by omega
          have g1 : ¬ (b.length : Int) < (b.length : Int) := by omega
          have Hhown := Lib.hid hown; clear hown
          go_wp2_with fail
          go_roundw
          case rel => exact ⟨i + 1, by go_num, by omega, Hhown.out, hb⟩
          case measure => simp [intOf] <;> omega
    · obtain rfl : i = a.length := by omega
      have g0 : ¬ (a.length : Int) < (a.length : Int) := by omega
      have hrow : IRow wr (.slice (some ⟨w2.heap.size, 0, none⟩) (a.length + b.length) (a.length + b.length)) (mulL a b) := by have := (ownI_fl hown).row; rw [fl_len] at this; exact this
      have kc := carried_s _ (mulL a b) Hhll.out Hhbd.out wr hrow
      have x4 := blockB hb y4
      have hs4 : w.heap.size + 2 < w2.heap.size := lt_of_heap y4
      have Hkc := Lib.hid kc; clear kc; have Hhown := Lib.hid hown; clear hown; have Hhrow := Lib.hid hrow; clear hrow
      go_wp2_with (go_at_call 90; ((with_reducible refine (Hkc.out).mono ?_); rintro e w5 ⟨A5, c5, rfl, hown5, hb5⟩; (have v4 := heapN (blockB hb5 x4) (.cells #[.slice A5 (carV (mulL a b)).length c5] 46); have z4 := cellAt v4 0; have f4 := frozen0 (j := 0) v4)))
      have hq := (hB.trans (hb.mono hB.size)).trans (hb5.mono (by have := hb.size; have := hB.size; omega))
      refine bodyPost_ret (res_big_tmp rfl rfl rfl (setS v4 _)) rfl ⟨A5, c5, by rw [HhO.out, HhV.out]; rfl, ?_, ?_⟩
      · rw [HhV.out]; exact own_mono (own_set_low (World.ownsRow.alloc hown5 _) (by have := hb.size; omega) _) (by have := hb.size; omega)
      · exact (hq.alloc hq.size _).setCell (p := ⟨w.heap.size + 2, 0, none⟩) (by show w.heap.size ≤ w.heap.size + 2; omega) _
end Go.Proofs.Ytkhphjapefijbaa
