/- Digits carried, leading zeros cut: both. (Written by mkcarry.py.) -/
import Derived.Test.YtkhphjapefijbaaBigN
import Derived.Deep.LoopGhost
namespace Go.Proofs.Ytkhphjapefijbaa
open Go.RowKit Go.Sort
set_option maxHeartbeats 2000000
set_option maxRecDepth 100000

def carryF : Int → List Int → List Int
  | c, [] => digL c
  | c, x :: r => ((c + x) % 10) :: carryF ((c + x) / 10) r
def trimN (l : List Int) : Nat → Nat
  | 0 => 0
  | n + 1 => if l.getD n 0 = 0 then trimN l n else n + 1
def carR (l : List Int) : List Int := (carryF 0 l).take (trimN (carryF 0 l) (carryF 0 l).length)
def carOk (l : List Int) : Bool := decide ((carR l).length ≤ 60)
def carV (l : List Int) : List Int := if carOk l then carR l else []
theorem trimN_le (l : List Int) : ∀ n, trimN l n ≤ n
  | 0 => Nat.le_refl _
  | n + 1 => by unfold trimN; split; exact Nat.le_succ_of_le (trimN_le l n); exact Nat.le_refl _
theorem carryF_len : ∀ (l : List Int) (c : Int), c ≤ 1000000 → (∀ x ∈ l, 0 ≤ x ∧ x ≤ 1000000) → (carryF c l).length ≤ l.length + 19
  | [], c, hc, _ => by have := digL_len c (by omega); simp [carryF]; omega
  | x :: r, c, hc, hl => by
    have hx := hl x (by simp)
    have := carryF_len r ((c + x) / 10) (by omega) (fun y hy => hl y (by simp [hy]))
    simp [carryF]; omega
theorem carry_step {l D F : List Int} {c : Int} {k : Nat} (hk : k < l.length) (h : D ++ carryF c (l.drop k) = F) : (D ++ [(c + l[k]) % 10]) ++ carryF ((c + l[k]) / 10) (l.drop (k + 1)) = F := by
  rw [← h, List.drop_eq_getElem_cons hk, carryF]; simp
theorem carry_tail {l D F : List Int} {c : Int} {k : Nat} (hk : l.length ≤ k) (hc : 0 < c) (h : D ++ carryF c (l.drop k) = F) : (D ++ [c % 10]) ++ carryF (c / 10) (l.drop (k + 1)) = F := by
  rw [← h, List.drop_eq_nil_of_le hk, List.drop_eq_nil_of_le (by omega), carryF, carryF, digL_pos hc]; simp
theorem carry_end {l D F : List Int} {c : Int} {k : Nat} (hk : l.length ≤ k) (hc : c ≤ 0) (h : D ++ carryF c (l.drop k) = F) : D = F := by
  rw [← h, List.drop_eq_nil_of_le hk, carryF, digL_zero hc, List.append_nil]
theorem own_prefix {w : World} {B g n cap m : Nat} {e : TypeId} {xs : List Value} (h : w.ownsRow B e 1 (.slice (some ⟨g, 0, none⟩) n cap) n xs) (hm : m ≤ n) : w.ownsRow B e 1 (.slice (some ⟨g, 0, none⟩) m cap) m (xs.take m) := by
  have hl : xs.length = n := by have := h.1; omega
  refine ⟨by simp; omega, ?_⟩
  rcases h.2 with ⟨h', _⟩ | ⟨g', cap', cur, h', hg, hh, hnc, hm', hsz, htk⟩
  · simp at h'
  · simp only [Value.slice.injEq, Option.some.injEq, Addr.mk.injEq, and_true, true_and] at h'
    obtain ⟨rfl, rfl⟩ := h'
    refine .inr ⟨g, cap, cur, rfl, hg, hh, by omega, hm', hsz, ?_⟩
    rw [← htk, List.take_take]
    congr 1; omega
theorem ownI_prefix {w : World} {B g cap m : Nat} {l : List Int} (h : OwnI w B (.slice (some ⟨g, 0, none⟩) l.length cap) l) (hm : m ≤ l.length) : OwnI w B (.slice (some ⟨g, 0, none⟩) m cap) (l.take m) := by
  have := own_prefix h hm
  unfold OwnI
  rw [List.length_take, Nat.min_eq_left hm, List.map_take]
  exact this
theorem own_shape {w : World} {B n c : Nat} {A : Option Addr} {l : List Int} (h : OwnI w B (.slice A n c) l) : (A = none ∧ c = 0 ∧ l = []) ∨ ∃ g, A = some ⟨g, 0, none⟩ ∧ B ≤ g ∧ g < w.heap.size ∧ l.length ≤ c ∧ c ≤ 9223372036854775807 ∧ ∀ j (hj : j < l.length), w.cell? ⟨g, j, none⟩ = some (.int .i64 l[j]) := by
  rcases h.2 with ⟨h', h0⟩ | ⟨g', cap', cur, h', hg, hh, hnc, hm', hsz, htk⟩
  · simp at h'
    exact .inl ⟨h'.1, h'.2.2, List.length_eq_zero_iff.1 h0⟩
  · simp at h'
    obtain ⟨rfl, rfl, rfl⟩ := h'
    exact .inr ⟨g', rfl, hg, lt_of_heap hh, hnc, by unfold maxLen at hm'; omega, fun j hj => ownI_cell h j hj⟩

theorem carried_i (v : Value) (l : List Int) (hl : l.length ≤ 1000) (hx : ∀ x ∈ l, 0 ≤ x ∧ x ≤ 1000000) (w : World) (hv : IRow w v l) : Calls Try.prog 91 #[v] w (fun e w' => ∃ A c, e = .returned (.tuple #[.agg #[.slice A (carV l).length c], .bool (carOk l)]) ∧ OwnI w' w.heap.size (.slice A (carV l).length c) (carV l) ∧ Below w.heap.size w w') := by
  have hlen := carryF_len l 0 (by omega) hx
  have y0 := heapN (heap_alloc_new w (.cells #[.slice none 0 0] 46)) (.cells #[.slice none 0 0] 46)
  have y1 := heap_new1 w (.cells #[.slice none 0 0] 46) (.cells #[.slice none 0 0] 46)
  have hB : Below w.heap.size w ((w.alloc (.cells #[.slice none 0 0] 46)).alloc (.cells #[.slice none 0 0] 46)) := ((Below.refl _ _).alloc (Nat.le_refl _) _).alloc (by simp) _
  have hs0 : w.heap.size + 2 = ((w.alloc (.cells #[.slice none 0 0] 46)).alloc (.cells #[.slice none 0 0] 46)).heap.size := by simp
  obtain ⟨A0, q0, e0, -⟩ := IRow.open hv
  subst e0
  obtain ⟨F, hF⟩ : ∃ F, carryF 0 l = F := ⟨_, rfl⟩
  rw [hF] at hlen
  have Hhx := Lib.hid hx; clear hx; have HhF := Lib.hid hF; clear hF
  go_enter Try.func91, Try.ntmps91
  go_wp2_with fail
  go_loopw [5, 6] (fun cc i wr => ∃ (c : Int) (D : List Int) (A : Option Addr) (q : Nat), cc = .int .i64 c ∧ i = .int .i64 (D.length : Int) ∧ 0 ≤ c ∧ c ≤ 1000000 ∧ wr.heap[w.heap.size + 1]? = some (.cells #[.slice A D.length q] 46 (0, 0)) ∧ wr.heap[w.heap.size]? = some (.cells #[.slice none 0 0] 46 (0, 0)) ∧ OwnI wr (w.heap.size + 2) (.slice A D.length q) D ∧ Below w.heap.size w wr ∧ w.heap.size + 2 ≤ wr.heap.size ∧ D ++ carryF c (l.drop D.length) = F) (fun cc i _ => (l.length - (intOf i).toNat) * 2000000 + (intOf cc).toNat)
  case atStart => exact ⟨0, [], none, 0, rfl, rfl, by omega, by omega, y1, y0, own_nil, hB, by omega, by simpa using HhF.out⟩
  case round =>
    clear y0 y1 hB hs0
    obtain ⟨c, D, A, q, rfl, rfl, hc0, hc1, y1, y0, hown, hB, hs, hd⟩ := hrel
    have z1 := cellAt y1 0; have f1 := frozen0 (j := 0) y1; have z0 := cellAt y0 0; have f0 := frozen0 (j := 0) y0
    have hDF : D.length ≤ F.length := by rw [← hd, List.length_append]; omega
    by_cases hlt : D.length < l.length
    · have g0 : (D.length : Int) < (l.length : Int) := by omega
      obtain ⟨_, _, e1, -, -, -, hA⟩ := IRow.open (hv.below hB)
      simp only [Value.slice.injEq] at e1
      obtain ⟨rfl, -, rfl⟩ := e1
      obtain ⟨b, off, rfl, h1⟩ := hA D.length hlt
      have u1 := h1 D.length hlt
      clear h1 hA
      have hxk := Hhx.out l[D.length] (List.getElem_mem hlt)
      have hd2 := carry_step hlt hd
      obtain ⟨x, hxe⟩ : ∃ x, l[D.length] = x := ⟨_, rfl⟩
      rw [hxe] at u1 hxk hd2
      have Hhd := Lib.hid hd; clear hd; have Hhd2 := Lib.hid hd2; clear hd2; have Hhxe := Lib.hid hxe; clear hxe
      go_wp2_with ((at_builtin; go_must (refine wp_append_one intT rfl _ _ rfl (w.heap.size + 2) _ D.length (D.map intV) rfl hown _ rfl rfl (by omega) hs ?_; intro v2 w2 hown2 hgr2 hb2; replace hown2 := own_push hown2; obtain ⟨A2, c2, rfl, -⟩ := IRow.open hown2.row; replace y0 := blockL hb2 (by omega) y0; replace y1 := blockL hb2 (by omega) y1; clear z0 z1 f0 f1; have z1 := cellAt y1 0; have f1 := frozen0 (j := 0) y1; have hsz := hb2.size; replace hB := hB.trans (hb2.mono (by omega)))))
      go_roundw
      case rel => exact ⟨(c + x) / 10, D ++ [(c + x) % 10], A2, c2, rfl, (by rw [List.length_append]; go_num), by omega, by omega, (by rw [show (D ++ [(c + x) % 10]).length = D.length + 1 by simp]; exact setS y1 _), setO (by omega) y0 _, own_set_low hown2 (by omega) _, hB.setCell (p := ⟨w.heap.size + 1, 0, none⟩) (by show w.heap.size ≤ w.heap.size + 1; omega) _, by simp; omega, (by rw [List.length_append]; exact Hhd2.out)⟩
      case measure => simp [intOf] <;> omega
    · by_cases hp : 0 < c
      · have dp : decide (0 < c) = true := by rw [decide_eq_true_eq]; exact hp
        have g0 : decide ((D.length : Int) < (l.length : Int)) = false := by rw [decide_eq_false_iff_not]; omega
        have g1 : decide (D.length < l.length) = false := by rw [decide_eq_false_iff_not]; exact hlt
        have hd2 := carry_tail (by omega) hp hd
        have Hhd := Lib.hid hd; clear hd; have Hhd2 := Lib.hid hd2; clear hd2
        go_wp2_with ((at_builtin; go_must (refine wp_append_one intT rfl _ _ rfl (w.heap.size + 2) _ D.length (D.map intV) rfl hown _ rfl rfl (by omega) hs ?_; intro v2 w2 hown2 hgr2 hb2; replace hown2 := own_push hown2; obtain ⟨A2, c2, rfl, -⟩ := IRow.open hown2.row; replace y0 := blockL hb2 (by omega) y0; replace y1 := blockL hb2 (by omega) y1; clear z0 z1 f0 f1; have z1 := cellAt y1 0; have f1 := frozen0 (j := 0) y1; have hsz := hb2.size; replace hB := hB.trans (hb2.mono (by omega)))))
        go_roundw
        case rel => exact ⟨c / 10, D ++ [c % 10], A2, c2, rfl, (by rw [List.length_append]; go_num), by omega, by omega, (by rw [show (D ++ [c % 10]).length = D.length + 1 by simp]; exact setS y1 _), setO (by omega) y0 _, own_set_low hown2 (by omega) _, hB.setCell (p := ⟨w.heap.size + 1, 0, none⟩) (by show w.heap.size ≤ w.heap.size + 1; omega) _, by simp; omega, (by rw [List.length_append]; exact Hhd2.out)⟩
        case measure => simp [intOf] <;> omega
      · have dp : decide (0 < c) = false := by rw [decide_eq_false_iff_not]; exact hp
        have g0 : decide ((D.length : Int) < (l.length : Int)) = false := by rw [decide_eq_false_iff_not]; omega
        have g1 : decide (D.length < l.length) = false := by rw [decide_eq_false_iff_not]; exact hlt
        have hDe := carry_end (by omega) (by omega) hd
        have hR : carR l = D.take (trimN D D.length) := by unfold carR; rw [HhF.out, ← hDe]
        clear hd
        rcases own_shape hown with ⟨rfl, rfl, hD0⟩ | ⟨g, rfl, hBg, hgl, hcap, hcap2, hcell⟩
        · -- nothing
          subst hD0
          have hV : carV l = [] := by unfold carV; rw [hR]; simp
          have hO : carOk l = true := by unfold carOk; rw [hR]; simp [trimN]
          have HhV := Lib.hid hV; clear hV; have HhO := Lib.hid hO; clear hO; have HhR := Lib.hid hR; clear hR; have HhDe := Lib.hid hDe; clear hDe
          go_wp2_with fail
          go_loop [7] (fun n => n = .int .i64 0) (fun _ => 0)
          case atStart => rfl
          case round =>
            subst hrel
            go_wp2_with fail
            refine bodyPost_ret (res_big_tmp rfl rfl rfl (setS (setO (by omega) y0 _) _)) rfl ⟨none, 0, by rw [HhV.out, HhO.out]; rfl, by rw [HhV.out]; exact own_nil, ?_⟩
            exact (hB.setCell (p := ⟨w.heap.size + 1, 0, none⟩) (by show w.heap.size ≤ w.heap.size + 1; omega) _).setCell (p := ⟨w.heap.size, 0, none⟩) (Nat.le_refl _) _
        · have HhR := Lib.hid hR; clear hR; have Hhown := Lib.hid hown; clear hown; have HhDe := Lib.hid hDe; clear hDe
          go_wp2_with fail
          go_loop [7] (fun n => ∃ m : Nat, n = .int .i64 (m : Int) ∧ m ≤ D.length ∧ trimN D D.length = trimN D m) (fun n => (intOf n).toNat)
          case atStart => exact ⟨D.length, rfl, Nat.le_refl _, rfl⟩
          case round =>
            obtain ⟨m, rfl, hm, ht⟩ := hrel
            have key : ∀ (hT : trimN D m = m), carR l = D.take m := fun hT => by rw [HhR.out, ht, hT]
            by_cases hz : ∃ j, ∃ h : j < D.length, m = j + 1 ∧ D[j] = 0
            · obtain ⟨j, hj, rfl, h0⟩ := hz
              have u1 := hcell j hj
              rw [h0] at u1
              have ht2 : trimN D D.length = trimN D j := by rw [ht, trimN, if_pos (by simp [List.getD, hj, h0])]
              have ej : ((j + 1 : Nat) : Int) = (j : Int) + 1 := by omega
              rw [ej]
              clear ej hcell key
              have Hht := Lib.hid ht; clear ht; have Hht2 := Lib.hid ht2; clear ht2; have Hh0 := Lib.hid h0; clear h0
              go_wp2_with fail
              go_round
              case rel => exact ⟨j, rfl, by omega, Hht2.out⟩
              case measure => simp [intOf] <;> omega
            · have hT : trimN D m = m := by
                cases m with
                | zero => rfl
                | succ j =>
                  have hj : j < D.length := by omega
                  rw [trimN, if_neg]
                  intro h
                  exact hz ⟨j, hj, rfl, by simpa [List.getD, hj] using h⟩
              have hR2 := key hT
              have hlenR : (carR l).length = m := by rw [hR2]; simp; omega
              have hfacts : m = 0 ∨ ∃ j y, ∃ h : j < D.length, m = j + 1 ∧ D[j] = y ∧ (y == 0) = false := by
                cases m with
                | zero => exact .inl rfl
                | succ j => exact .inr ⟨j, _, by omega, rfl, rfl, by rw [beq_eq_false_iff_ne]; intro h; exact hz ⟨j, by omega, rfl, h⟩⟩
              clear hz key ht hT
              by_cases h60 : m ≤ 60
              · have hO : carOk l = true := by unfold carOk; rw [hlenR]; simpa using h60
                have hV : carV l = D.take m := by unfold carV; rw [hO, if_pos rfl, hR2]
                have hVl : (carV l).length = m := by rw [hV]; simp; omega
                have dm : decide ((60 : Int) < (m : Int)) = false := by rw [decide_eq_false_iff_not]; omega
                have dm2 : decide (60 < m) = false := by rw [decide_eq_false_iff_not]; omega
                have hown2 := ownI_prefix Hhown.out hm
                have HhO := Lib.hid hO; clear hO; have HhV := Lib.hid hV; clear hV; have HhVl := Lib.hid hVl; clear hVl; have HhR2 := Lib.hid hR2; clear hR2; have HhlenR := Lib.hid hlenR; clear hlenR; have Hhown2 := Lib.hid hown2; clear hown2; have Hh60 := Lib.hid h60; clear h60
                rcases hfacts with rfl | ⟨j, y, hj, rfl, hy, dy⟩
                · clear hcell
                  go_wp2_with fail
                  refine bodyPost_ret (res_big_tmp rfl rfl rfl (setS (setO (by omega) y0 _) _)) rfl ⟨some ⟨g, 0, none⟩, q, by rw [HhVl.out, HhO.out]; rfl, ?_, ?_⟩
                  · rw [HhVl.out, HhV.out]; exact own_mono (own_set_low (own_set_low Hhown2.out (by omega) _) (by omega) _) (by omega)
                  · exact (hB.setCell (p := ⟨w.heap.size + 1, 0, none⟩) (by show w.heap.size ≤ w.heap.size + 1; omega) _).setCell (p := ⟨w.heap.size, 0, none⟩) (Nat.le_refl _) _
                · have u1 := hcell j hj
                  rw [hy] at u1
                  have ej : ((j + 1 : Nat) : Int) = (j : Int) + 1 := by omega
                  rw [ej] at *
                  have g60 : (j : Int) + 1 ≤ 60 := by have := Hh60.out; omega
                  have dm3 : decide ((60 : Int) < (j : Int) + 1) = false := by rw [decide_eq_false_iff_not]; omega
                  have dm4 : decide (60 ≤ j) = false := by rw [decide_eq_false_iff_not]; have := Hh60.out; omega
                  clear hcell hy ej
                  go_wp2_with fail
                  refine bodyPost_ret (res_big_tmp rfl rfl rfl (setS (setO (by omega) y0 _) _)) rfl ⟨some ⟨g, 0, none⟩, q, by rw [HhVl.out, HhO.out]; rfl, ?_, ?_⟩
                  · rw [HhVl.out, HhV.out]; exact own_mono (own_set_low (own_set_low Hhown2.out (by omega) _) (by omega) _) (by omega)
                  · exact (hB.setCell (p := ⟨w.heap.size + 1, 0, none⟩) (by show w.heap.size ≤ w.heap.size + 1; omega) _).setCell (p := ⟨w.heap.size, 0, none⟩) (Nat.le_refl _) _
              · have hO : carOk l = false := by unfold carOk; rw [hlenR]; simpa using h60
                have hV : carV l = [] := by unfold carV; rw [hO]; rfl
                have dm : decide ((60 : Int) < (m : Int)) = true := by rw [decide_eq_true_eq]; omega
                have dm2 : decide (60 < m) = true := by rw [decide_eq_true_eq]; omega
                have HhO := Lib.hid hO; clear hO; have HhV := Lib.hid hV; clear hV; have HhR2 := Lib.hid hR2; clear hR2; have HhlenR := Lib.hid hlenR; clear hlenR; have Hh60 := Lib.hid h60; clear h60
                rcases hfacts with rfl | ⟨j, y, hj, rfl, hy, dy⟩
                · exact absurd (Nat.zero_le 60) Hh60.out
                · have u1 := hcell j hj
                  rw [hy] at u1
                  have ej : ((j + 1 : Nat) : Int) = (j : Int) + 1 := by omega
                  rw [ej] at *
                  have g60 : (60 : Int) < (j : Int) + 1 := by have := Hh60.out; omega
                  have dm3 : decide ((60 : Int) < (j : Int) + 1) = true := by rw [decide_eq_true_eq]; omega
                  have dm4 : decide (60 ≤ j) = true := by rw [decide_eq_true_eq]; have := Hh60.out; omega
                  clear hcell hy ej
                  go_wp2_with fail
                  refine bodyPost_ret (res_big_tmp rfl rfl rfl (setS (setO (by omega) y0 _) _)) rfl ⟨none, 0, by rw [HhV.out, HhO.out]; rfl, by rw [HhV.out]; exact own_nil, ?_⟩
                  exact (hB.setCell (p := ⟨w.heap.size + 1, 0, none⟩) (by show w.heap.size ≤ w.heap.size + 1; omega) _).setCell (p := ⟨w.heap.size, 0, none⟩) (Nat.le_refl _) _
theorem carried_s (v : Value) (l : List Int) (hl : l.length ≤ 1000) (hx : ∀ x ∈ l, 0 ≤ x ∧ x ≤ 1000000) (w : World) (hv : IRow w v l) : Calls Try.prog 90 #[v] w (fun e w' => ∃ A c, e = .returned (.tuple #[.agg #[.slice A (carV l).length c], .bool (carOk l)]) ∧ OwnI w' w.heap.size (.slice A (carV l).length c) (carV l) ∧ Below w.heap.size w w') := by
  have hlen := carryF_len l 0 (by omega) hx
  have y0 := heapN (heap_alloc_new w (.cells #[.slice none 0 0] 46)) (.cells #[.slice none 0 0] 46)
  have y1 := heap_new1 w (.cells #[.slice none 0 0] 46) (.cells #[.slice none 0 0] 46)
  have hB : Below w.heap.size w ((w.alloc (.cells #[.slice none 0 0] 46)).alloc (.cells #[.slice none 0 0] 46)) := ((Below.refl _ _).alloc (Nat.le_refl _) _).alloc (by simp) _
  have hs0 : w.heap.size + 2 = ((w.alloc (.cells #[.slice none 0 0] 46)).alloc (.cells #[.slice none 0 0] 46)).heap.size := by simp
  obtain ⟨A0, q0, e0, -⟩ := IRow.open hv
  subst e0
  obtain ⟨F, hF⟩ : ∃ F, carryF 0 l = F := ⟨_, rfl⟩
  rw [hF] at hlen
  have Hhx := Lib.hid hx; clear hx; have HhF := Lib.hid hF; clear hF
  go_enter Try.func90, Try.ntmps90
  go_wp2_with fail
  go_loopw [5, 6] (fun cc i wr => ∃ (c : Int) (D : List Int) (A : Option Addr) (q : Nat), cc = .int .i64 c ∧ i = .int .i64 (D.length : Int) ∧ 0 ≤ c ∧ c ≤ 1000000 ∧ wr.heap[w.heap.size + 1]? = some (.cells #[.slice A D.length q] 46 (0, 0)) ∧ wr.heap[w.heap.size]? = some (.cells #[.slice none 0 0] 46 (0, 0)) ∧ OwnI wr (w.heap.size + 2) (.slice A D.length q) D ∧ Below w.heap.size w wr ∧ w.heap.size + 2 ≤ wr.heap.size ∧ D ++ carryF c (l.drop D.length) = F) (fun cc i _ => (l.length - (intOf i).toNat) * 2000000 + (intOf cc).toNat)
  case atStart => exact ⟨0, [], none, 0, rfl, rfl, by omega, by omega, y1, y0, own_nil, hB, by omega, by simpa using HhF.out⟩
  case round =>
    clear y0 y1 hB hs0
    obtain ⟨c, D, A, q, rfl, rfl, hc0, hc1, y1, y0, hown, hB, hs, hd⟩ := hrel
    have z1 := cellAt y1 0; have f1 := frozen0 (j := 0) y1; have z0 := cellAt y0 0; have f0 := frozen0 (j := 0) y0
    have hDF : D.length ≤ F.length := by rw [← hd, List.length_append]; omega
    by_cases hlt : D.length < l.length
    · have g0 : (D.length : Int) < (l.length : Int) := by omega
      obtain ⟨_, _, e1, -, -, -, hA⟩ := IRow.open (hv.below hB)
      simp only [Value.slice.injEq] at e1
      obtain ⟨rfl, -, rfl⟩ := e1
      obtain ⟨b, off, rfl, h1⟩ := hA D.length hlt
      have u1 := h1 D.length hlt
      clear h1 hA
      have hxk := Hhx.out l[D.length] (List.getElem_mem hlt)
      have hd2 := carry_step hlt hd
      obtain ⟨x, hxe⟩ : ∃ x, l[D.length] = x := ⟨_, rfl⟩
      rw [hxe] at u1 hxk hd2
      have Hhd := Lib.hid hd; clear hd; have Hhd2 := Lib.hid hd2; clear hd2; have Hhxe := Lib.hid hxe; clear hxe
      go_wp2_with ((at_builtin; go_must (refine wp_append_one intT rfl _ _ rfl (w.heap.size + 2) _ D.length (D.map intV) rfl hown _ rfl rfl (by omega) hs ?_; intro v2 w2 hown2 hgr2 hb2; replace hown2 := own_push hown2; obtain ⟨A2, c2, rfl, -⟩ := IRow.open hown2.row; replace y0 := blockL hb2 (by omega) y0; replace y1 := blockL hb2 (by omega) y1; clear z0 z1 f0 f1; have z1 := cellAt y1 0; have f1 := frozen0 (j := 0) y1; have hsz := hb2.size; replace hB := hB.trans (hb2.mono (by omega)))))
      go_roundw
      case rel => exact ⟨(c + x) / 10, D ++ [(c + x) % 10], A2, c2, rfl, (by rw [List.length_append]; go_num), by omega, by omega, (by rw [show (D ++ [(c + x) % 10]).length = D.length + 1 by simp]; exact setS y1 _), setO (by omega) y0 _, own_set_low hown2 (by omega) _, hB.setCell (p := ⟨w.heap.size + 1, 0, none⟩) (by show w.heap.size ≤ w.heap.size + 1; omega) _, by simp; omega, (by rw [List.length_append]; exact Hhd2.out)⟩
      case measure => simp [intOf] <;> omega
    · by_cases hp : 0 < c
      · have dp : decide (0 < c) = true := by rw [decide_eq_true_eq]; exact hp
        have g0 : decide ((D.length : Int) < (l.length : Int)) = false := by rw [decide_eq_false_iff_not]; omega
        have g1 : decide (D.length < l.length) = false := by rw [decide_eq_false_iff_not]; exact hlt
        have hd2 := carry_tail (by omega) hp hd
        have Hhd := Lib.hid hd; clear hd; have Hhd2 := Lib.hid hd2; clear hd2
        go_wp2_with ((at_builtin; go_must (refine wp_append_one intT rfl _ _ rfl (w.heap.size + 2) _ D.length (D.map intV) rfl hown _ rfl rfl (by omega) hs ?_; intro v2 w2 hown2 hgr2 hb2; replace hown2 := own_push hown2; obtain ⟨A2, c2, rfl, -⟩ := IRow.open hown2.row; replace y0 := blockL hb2 (by omega) y0; replace y1 := blockL hb2 (by omega) y1; clear z0 z1 f0 f1; have z1 := cellAt y1 0; have f1 := frozen0 (j := 0) y1; have hsz := hb2.size; replace hB := hB.trans (hb2.mono (by omega)))))
        go_roundw
        case rel => exact ⟨c / 10, D ++ [c % 10], A2, c2, rfl, (by rw [List.length_append]; go_num), by omega, by omega, (by rw [show (D ++ [c % 10]).length = D.length + 1 by simp]; exact setS y1 _), setO (by omega) y0 _, own_set_low hown2 (by omega) _, hB.setCell (p := ⟨w.heap.size + 1, 0, none⟩) (by show w.heap.size ≤ w.heap.size + 1; omega) _, by simp; omega, (by rw [List.length_append]; exact Hhd2.out)⟩
        case measure => simp [intOf] <;> omega
      · have dp : decide (0 < c) = false := by rw [decide_eq_false_iff_not]; exact hp
        have g0 : decide ((D.length : Int) < (l.length : Int)) = false := by rw [decide_eq_false_iff_not]; omega
        have g1 : decide (D.length < l.length) = false := by rw [decide_eq_false_iff_not]; exact hlt
        have hDe := carry_end (by omega) (by omega) hd
        have hR : carR l = D.take (trimN D D.length) := by unfold carR; rw [HhF.out, ← hDe]
        clear hd
        rcases own_shape hown with ⟨rfl, rfl, hD0⟩ | ⟨g, rfl, hBg, hgl, hcap, hcap2, hcell⟩
        · -- nothing
          subst hD0
          have hV : carV l = [] := by unfold carV; rw [hR]; simp
          have hO : carOk l = true := by unfold carOk; rw [hR]; simp [trimN]
          have HhV := Lib.hid hV; clear hV; have HhO := Lib.hid hO; clear hO; have HhR := Lib.hid hR; clear hR; have HhDe := Lib.hid hDe; clear hDe
          go_wp2_with fail
          go_loopg [] 0 (fun (k : Nat) wx => wx = wr)
          case atStart => rfl
          case round =>
            subst hrel
            go_wp2_with fail
            refine bodyPost_ret (res_big_tmp rfl rfl rfl (setS y0 _)) rfl ⟨none, 0, by rw [HhV.out, HhO.out]; rfl, by rw [HhV.out]; exact own_nil, ?_⟩
            exact hB.setCell (p := ⟨w.heap.size, 0, none⟩) (Nat.le_refl _) _
        · have hrel0 : ∀ m, m ≤ D.length → OwnI wr (w.heap.size + 2) (.slice (some ⟨g, 0, none⟩) m q) (D.take m) := fun m hm => ownI_prefix hown hm
          clear hcell z1 f1 z0 f0 g0 g1 dp
          have HhR := Lib.hid hR; clear hR; have Hhown := Lib.hid hown; clear hown; have HhDe := Lib.hid hDe; clear hDe; have Hhrel0 := Lib.hid hrel0; clear hrel0
          go_wp2_with fail
          go_loopg [] D.length (fun (m : Nat) wx => m ≤ D.length ∧ trimN D D.length = trimN D m ∧ wx.heap[w.heap.size + 1]? = some (.cells #[.slice (some ⟨g, 0, none⟩) m q] 46 (0, 0)) ∧ wx.heap[w.heap.size]? = some (.cells #[.slice none 0 0] 46 (0, 0)) ∧ OwnI wx (w.heap.size + 2) (.slice (some ⟨g, 0, none⟩) m q) (D.take m) ∧ Below w.heap.size w wx)
          case atStart => exact ⟨Nat.le_refl _, rfl, y1, y0, Hhrel0.out _ (Nat.le_refl _), hB⟩
          case round =>
            obtain ⟨hm, ht, y1, y0, hown, hB⟩ := hrel
            have z1 := cellAt y1 0
            have f1 := frozen0 (j := 0) y1
            have z0 := cellAt y0 0
            have f0 := frozen0 (j := 0) y0
            have hsz := lt_of_heap y1
            have key : ∀ (hT : trimN D gk = gk), carR l = D.take gk := fun hT => by rw [HhR.out, ht, hT]
            cases gk with
            | zero =>
              have hR2 := key rfl
              have hO : carOk l = true := by unfold carOk; rw [hR2]; simp
              have hV : carV l = D.take 0 := by unfold carV; rw [hO, if_pos rfl, hR2]
              have hVl : (carV l).length = 0 := by rw [hV]; simp
              clear key ht
              have HhO := Lib.hid hO; clear hO; have HhV := Lib.hid hV; clear hV; have HhVl := Lib.hid hVl; clear hVl; have HhR2 := Lib.hid hR2; clear hR2; have Hhown := Lib.hid hown; clear hown
              go_wp2_with fail
              refine bodyPost_ret (res_big_tmp rfl rfl rfl (setS y0 _)) rfl ⟨some ⟨g, 0, none⟩, q, by rw [HhVl.out, HhO.out]; rfl, ?_, hB.setCell (p := ⟨w.heap.size, 0, none⟩) (Nat.le_refl _) _⟩
              rw [HhVl.out, HhV.out]; exact own_mono (own_set_low Hhown.out (by omega) _) (by omega)
            | succ j =>
              have hj : j < D.length := by omega
              have ej : ((j + 1 : Nat) : Int) = (j : Int) + 1 := by omega
              have el : (D.take (j + 1)).length = j + 1 := by simp; omega
              have u1 : wr.cell? ⟨g, j, none⟩ = some (.int .i64 D[j]) := by
                rcases own_shape hown with ⟨h, _⟩ | ⟨g', hg', _, _, _, _, hc⟩
                · cases h
                · simp at hg'
                  subst hg'
                  have := hc j (by omega)
                  rwa [List.getElem_take] at this
              have hpre : OwnI wr (w.heap.size + 2) (.slice (some ⟨g, 0, none⟩) j q) (D.take j) := by
                have h1 : OwnI wr (w.heap.size + 2) (.slice (some ⟨g, 0, none⟩) (D.take (j + 1)).length q) (D.take (j + 1)) := by rw [el]; exact hown
                have := ownI_prefix h1 (m := j) (by omega)
                rwa [List.take_take, Nat.min_eq_left (by omega)] at this
              obtain ⟨y, hy⟩ : ∃ y, D[j] = y := ⟨_, rfl⟩
              rw [hy] at u1
              by_cases h0 : y = 0
              · have ht2 : trimN D D.length = trimN D j := by rw [ht, trimN, if_pos (by simp [List.getD, hj, hy, h0])]
                subst h0
                clear key
                have Hht := Lib.hid ht; clear ht; have Hht2 := Lib.hid ht2; clear ht2; have Hhy := Lib.hid hy; clear hy; have Hhown := Lib.hid hown; clear hown; have Hhpre := Lib.hid hpre; clear hpre; have Hel := Lib.hid el; clear el
                go_wp2_with fail
                go_roundg j
                case measure => omega
                case rel => exact ⟨by omega, Hht2.out, setS y1 _, setO (by omega) y0 _, own_set_low Hhpre.out (by omega) _, hB.setCell (p := ⟨w.heap.size + 1, 0, none⟩) (by show w.heap.size ≤ w.heap.size + 1; omega) _⟩
              · have dy : (y == 0) = false := by rw [beq_eq_false_iff_ne]; exact h0
                have hT : trimN D (j + 1) = j + 1 := by rw [trimN, if_neg (by simp [List.getD, hj, hy, h0])]
                have hR2 := key hT
                have hlenR : (carR l).length = j + 1 := by rw [hR2]; exact el
                by_cases h60 : j + 1 ≤ 60
                · have hO : carOk l = true := by unfold carOk; rw [hlenR]; simpa using h60
                  have hV : carV l = D.take (j + 1) := by unfold carV; rw [hO, if_pos rfl, hR2]
                  have hVl : (carV l).length = j + 1 := by rw [hV]; exact el
                  have g60 : (j : Int) + 1 ≤ 60 := by omega
                  have dm3 : decide ((60 : Int) < (j : Int) + 1) = false := by rw [decide_eq_false_iff_not]; omega
                  clear key ht hpre
                  have HhO := Lib.hid hO; clear hO; have HhV := Lib.hid hV; clear hV; have HhVl := Lib.hid hVl; clear hVl; have HhR2 := Lib.hid hR2; clear hR2; have Hhown := Lib.hid hown; clear hown; have HhlenR := Lib.hid hlenR; clear hlenR; have HhT := Lib.hid hT; clear hT; have Hel := Lib.hid el; clear el; have Hhy := Lib.hid hy; clear hy; have Hh60 := Lib.hid h60; clear h60
                  go_wp2_with fail
                  refine bodyPost_ret (res_big_tmp rfl rfl rfl (setS y0 _)) rfl ⟨some ⟨g, 0, none⟩, q, by rw [HhVl.out, HhO.out]; rfl, ?_, hB.setCell (p := ⟨w.heap.size, 0, none⟩) (Nat.le_refl _) _⟩
                  rw [HhVl.out, HhV.out]; exact own_mono (own_set_low Hhown.out (by omega) _) (by omega)
                · have hO : carOk l = false := by unfold carOk; rw [hlenR]; simpa using h60
                  have hV : carV l = [] := by unfold carV; rw [hO]; rfl
                  have g60 : (60 : Int) < (j : Int) + 1 := by omega
                  have dm3 : decide ((60 : Int) < (j : Int) + 1) = true := by rw [decide_eq_true_eq]; omega
                  clear key ht hpre
                  have HhO := Lib.hid hO; clear hO; have HhV := Lib.hid hV; clear hV; have HhR2 := Lib.hid hR2; clear hR2; have Hhown := Lib.hid hown; clear hown; have HhlenR := Lib.hid hlenR; clear hlenR; have HhT := Lib.hid hT; clear hT; have Hel := Lib.hid el; clear el; have Hhy := Lib.hid hy; clear hy; have Hh60 := Lib.hid h60; clear h60
                  go_wp2_with fail
                  refine bodyPost_ret (res_big_tmp rfl rfl rfl (setS y0 _)) rfl ⟨none, 0, by rw [HhV.out, HhO.out]; rfl, by rw [HhV.out]; exact own_nil, hB.setCell (p := ⟨w.heap.size, 0, none⟩) (Nat.le_refl _) _⟩
end Go.Proofs.Ytkhphjapefijbaa
