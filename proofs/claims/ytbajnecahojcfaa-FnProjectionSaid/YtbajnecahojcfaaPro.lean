/- Project, the program's; columns picked, both. -/
import Derived.Test.YtbajnecahojcfaaUnion
import Derived.Test.YtbajnecahojcfaaCopy
import Derived.Test.YtbajnecahojcfaaRowE
namespace Go.Proofs.Ytbajnecahojcfaa
open Go.RowKit Go.Sort
set_option maxHeartbeats 8000000
set_option maxRecDepth 100000
def RetPr (ar : Int) (m : List (List Int)) (cols : List Int) (w : World) (e : Ending) (w' : World) : Prop := RetMB (proA ar m cols) (proM ar m cols) (proOk ar m cols) w e w'
theorem retPr_no {ar : Int} {m : List (List Int)} {cols : List Int} {w w' : World} {e : Ending} (h : proOk ar m cols = false) (he : e = .returned (.tuple #[.agg #[.int .i64 0, .slice none 0 0], .bool false])) (hb : Below w.heap.size w w') : RetPr ar m cols w e w' := by
  unfold RetPr proA proM
  rw [h]
  exact ⟨none, 0, he, OwnM.nil _ _, hb⟩
theorem retPr_new {ar : Int} {m M : List (List Int)} {cols : List Int} {w w' : World} {e : Ending} {A : Option Addr} {c : Nat} (h1 : relOk ar m = true) (h2 : colsOk ar cols = true) (hM : m.map (pick cols) = M) (he : e = .returned (.tuple #[.agg #[.int .i64 (newA cols.length M), .slice A (newM cols.length M).length c], .bool (newOk cols.length M)])) (hown : OwnM w' w.heap.size (.slice A (newM cols.length M).length c) (newM cols.length M)) (hb : Below w.heap.size w w') : RetPr ar m cols w e w' := by
  have e1 : proOk ar m cols = newOk cols.length M := by unfold proOk; rw [h1, h2, hM]; rfl
  have e2 : proA ar m cols = newA cols.length M := by unfold proA newA; rw [e1]
  have e3 : proM ar m cols = newM cols.length M := by unfold proM newM; rw [e1, hM]
  unfold RetPr
  rw [e1, e2, e3]
  exact ⟨A, c, he, hown, hb⟩
theorem proOk_rel {ar : Int} {m : List (List Int)} {cols : List Int} (h : relOk ar m = false) : proOk ar m cols = false := by unfold proOk; rw [h]; rfl
theorem proOk_cols {ar : Int} {m : List (List Int)} {cols : List Int} (h : colsOk ar cols = false) : proOk ar m cols = false := by unfold proOk; rw [h]; simp
theorem colsOk_long {ar : Int} {cols : List Int} (h : ¬ cols.length ≤ 5) : colsOk ar cols = false := by unfold colsOk; rw [show decide (cols.length ≤ 5) = false by rw [decide_eq_false_iff_not]; exact h]; rfl
theorem colsOk_bad {ar : Int} {cols : List Int} {k : Nat} (hk : k < cols.length) (h : inR cols[k] 0 (ar - 1) = false) : colsOk ar cols = false := by
  unfold colsOk
  have : cols.all (fun c => inR c 0 (ar - 1)) = false := by
    rw [Bool.eq_false_iff]; intro h'
    rw [List.all_eq_true] at h'
    rw [h' _ (List.getElem_mem hk)] at h; cases h
  rw [this, Bool.and_false]
theorem colsOk_end {ar : Int} {cols : List Int} (h : cols.length ≤ 5) (ha : (cols.take cols.length).all (fun c => inR c 0 (ar - 1)) = true) : colsOk ar cols = true := by
  unfold colsOk
  rw [List.take_length] at ha
  rw [ha, show decide (cols.length ≤ 5) = true by rw [decide_eq_true_eq]; exact h]; rfl
theorem cols_step {ar : Int} {cols : List Int} {k : Nat} (hk : k < cols.length) (h : (cols.take k).all (fun c => inR c 0 (ar - 1)) = true) (hd : inR cols[k] 0 (ar - 1) = true) : (cols.take (k + 1)).all (fun c => inR c 0 (ar - 1)) = true := by
  rw [List.take_succ_eq_append_getElem hk, List.all_append, h]
  simp [hd]
theorem cols_in {ar : Int} {cols : List Int} (h : colsOk ar cols = true) : cols.length ≤ 5 ∧ ∀ c ∈ cols, 0 ≤ c ∧ c ≤ ar - 1 := by
  unfold colsOk at h
  simp only [Bool.and_eq_true, decide_eq_true_eq, List.all_eq_true, inR_iff] at h
  exact h
theorem pick_len (cols r : List Int) : (pick cols r).length = cols.length := by simp [pick]
theorem pick_step {cols r : List Int} {k n : Nat} (hk : k < cols.length) (hc : cols[k] = (n : Int)) (hn : n < r.length) : pick (cols.take k) r ++ [r[n]] = pick (cols.take (k + 1)) r := by
  unfold pick
  rw [List.take_succ_eq_append_getElem hk, List.map_append]
  simp [hc, hn]
theorem pick_total (m : List (List Int)) (cols : List Int) (h : cols.length ≤ 5) : total (m.map (pick cols)) ≤ m.length * 5 := by
  have := total_le (B := 5) (m := m.map (pick cols)) fun r hr => by
    obtain ⟨x, _, rfl⟩ := List.mem_map.1 hr
    rw [pick_len]; exact h
  rwa [List.length_map] at this
theorem columnsFit_i (ar : Int) (h5 : 0 ≤ ar ∧ ar ≤ 5) (v : Value) (cols : List Int) (w : World) (hv : IRow w v cols) : Calls Try.prog 142 #[.int .i64 ar, v] w (RetB (.bool (colsOk ar cols)) w) := by
  obtain ⟨A, c, rfl, -, -, -, hA⟩ := IRow.open hv
  clear hv
  obtain ⟨h50, h51⟩ := h5
  by_cases hl : cols.length ≤ 5
  rotate_left
  · have e := colsOk_long (ar := ar) hl
    have g0 : (5 : Int) < (cols.length : Int) := by omega
    rw [e]
    have HhA := Lib.hid hA; clear hA; have He := Lib.hid e; clear e; have Hhl := Lib.hid hl; clear hl
    go_enter Try.func142, Try.ntmps142
    go_wp2_with fail
    go_ret
    exact ⟨rfl, Below.refl _ _⟩
  have g1 : ¬ (5 : Int) < (cols.length : Int) := by omega
  have hbad := fun k hk h => colsOk_bad (ar := ar) (cols := cols) (k := k) hk h
  have hend := fun h => colsOk_end (ar := ar) hl h
  generalize colsOk ar cols = Z at *
  have HhA := Lib.hid hA; clear hA; have Hhbad := Lib.hid hbad; clear hbad; have Hhend := Lib.hid hend; clear hend
  go_enter Try.func142, Try.ntmps142
  go_wp2_with fail
  go_loopw [12] (fun i wr => ∃ k : Nat, i = .int .i64 k ∧ k ≤ cols.length ∧ (cols.take k).all (fun c => inR c 0 (ar - 1)) = true ∧ Below w.heap.size w wr) (fun i _ => cols.length - (intOf i).toNat)
  case atStart => exact ⟨0, rfl, Nat.zero_le _, rfl, Below.refl _ _⟩
  case round =>
    obtain ⟨k, rfl, hk, hall, hb⟩ := hrel
    by_cases hlt : k < cols.length
    · have g0 : (k : Int) < (cols.length : Int) := by omega
      obtain ⟨b, off, rfl, h1⟩ := HhA.out k hlt
      have c1 := cellB hb (h1 k hlt)
      clear h1
      have k1 := fun W => within_any cols[k] 0 (ar - 1) W
      cases hq : inR cols[k] 0 (ar - 1) with
      | true =>
        have hs := cols_step hlt hall hq
        rw [hq] at k1
        generalize cols[k] = x at *
        have Hhall := Lib.hid hall; clear hall; have Hhq := Lib.hid hq; clear hq; have Hk1 := Lib.hid k1; clear k1; have Hhs := Lib.hid hs; clear hs
        go_wp2_with (go_at_call 96; ((with_reducible refine (Hk1.out _).mono ?_); rintro e w' ⟨rfl, rfl⟩))
        go_roundw
        case rel => exact ⟨k + 1, by go_num, by omega, Hhs.out, hb⟩
        case measure => simp [intOf] <;> omega
      | false =>
        have e := Hhbad.out k hlt hq
        rw [hq] at k1
        generalize cols[k] = x at *
        have Hhall := Lib.hid hall; clear hall; have Hhq := Lib.hid hq; clear hq; have Hk1 := Lib.hid k1; clear k1; have He := Lib.hid e; clear e
        go_wp2_with (go_at_call 96; ((with_reducible refine (Hk1.out _).mono ?_); rintro e w' ⟨rfl, rfl⟩))
        go_ret
        exact ⟨by rw [He.out]; rfl, hb⟩
    · obtain rfl : k = cols.length := by omega
      have g0 : ¬ (cols.length : Int) < (cols.length : Int) := by omega
      have e := Hhend.out hall
      have Hhall := Lib.hid hall; clear hall; have He := Lib.hid e; clear e
      go_wp2_with fail
      go_ret
      exact ⟨by rw [He.out]; rfl, hb⟩
theorem pick_i (u v : Value) (r cols : List Int) (hc : ∀ c ∈ cols, 0 ≤ c ∧ c < r.length) (hl : cols.length ≤ 1048576) (w : World) (hu : IRow w u r) (hv : IRow w v cols) : Calls Try.prog 143 #[u, v] w (fun e w' => ∃ A c, e = .returned (.slice A (pick cols r).length c) ∧ OwnI w' w.heap.size (.slice A (pick cols r).length c) (pick cols r) ∧ Below w.heap.size w w') := by
  obtain ⟨A, c, rfl, -, -, -, hA⟩ := IRow.open hu
  obtain ⟨A', c', rfl, -, -, -, hC⟩ := IRow.open hv
  clear hu hv
  have HhA := Lib.hid hA; clear hA; have HhC := Lib.hid hC; clear hC; have Hhc := Lib.hid hc; clear hc
  go_enter Try.func143, Try.ntmps143
  go_wp2_with fail
  go_loopw [5, 11] (fun o i wr => ∃ (k : Nat) (D : List Int), i = .int .i64 k ∧ k ≤ cols.length ∧ D.length ≤ k ∧ D = pick (cols.take k) r ∧ OwnI wr w.heap.size o D ∧ Below w.heap.size w wr) (fun _ i _ => cols.length - (intOf i).toNat)
  case atStart => exact ⟨0, [], rfl, Nat.zero_le _, Nat.le_refl _, rfl, own_nil' w (Nat.le_refl _), (Below.refl _ _).alloc (Nat.le_refl _) _⟩
  case round =>
    obtain ⟨k, D, rfl, hk, hDk, hD, hown, hb⟩ := hrel
    by_cases hlt : k < cols.length
    · have g0 : (k : Int) < (cols.length : Int) := by omega
      obtain ⟨b', off', rfl, h1⟩ := HhC.out k hlt
      have c1 := cellB hb (h1 k hlt)
      clear h1
      have hx := Hhc.out cols[k] (List.getElem_mem hlt)
      obtain ⟨n, hn⟩ := Int.eq_ofNat_of_zero_le hx.1
      have hn2 : n < r.length := by omega
      have hst := pick_step hlt hn hn2
      rw [← hD] at hst
      rw [hn] at c1
      have g1 : (n : Int) < (r.length : Int) := by omega
      obtain ⟨b, off, rfl, h2⟩ := HhA.out n hn2
      have c2 := cellB hb (h2 n hn2)
      clear h2
      generalize r[n] = x at *
      have HhD := Lib.hid hD; clear hD; have Hhx := Lib.hid hx; clear hx; have Hhn := Lib.hid hn; clear hn; have Hhst := Lib.hid hst; clear hst
      go_wp2_with (at_builtin; go_must (refine wp_append_one intT rfl _ _ rfl w.heap.size _ D.length (D.map intV) rfl hown _ rfl rfl (by omega) hb.size ?_; intro v3 w3 hown3 hgr3 hb3; replace hown3 := own_push hown3))
      go_roundw
      case rel => exact ⟨k + 1, _, by go_num, by omega, by simp; omega, Hhst.out, hown3, hb.trans hb3⟩
      case measure => simp [intOf] <;> omega
    · obtain rfl : k = cols.length := by omega
      have g0 : ¬ (cols.length : Int) < (cols.length : Int) := by omega
      rw [List.take_length] at hD
      subst hD
      obtain ⟨A9, c9, e9, -⟩ := IRow.open (OwnI.row hown)
      subst e9
      have Hhown := Lib.hid hown; clear hown
      go_wp2_with fail
      go_ret
      exact ⟨_, _, rfl, Hhown.out, hb⟩
theorem l5Cols_s (u v : Value) (r cols : List Int) (hc : ∀ c ∈ cols, 0 ≤ c ∧ c < r.length) (hl : cols.length ≤ 1048576) (w : World) (hu : IRow w u r) (hv : IRow w v cols) : Calls Try.prog 144 #[u, v] w (fun e w' => ∃ A c, e = .returned (.slice A (pick cols r).length c) ∧ OwnI w' w.heap.size (.slice A (pick cols r).length c) (pick cols r) ∧ Below w.heap.size w w') := by
  obtain ⟨A, c, rfl, -, -, -, hA⟩ := IRow.open hu
  obtain ⟨A', c', rfl, -, -, -, hC⟩ := IRow.open hv
  clear hu hv
  have HhA := Lib.hid hA; clear hA; have HhC := Lib.hid hC; clear hC; have Hhc := Lib.hid hc; clear hc
  go_enter Try.func144, Try.ntmps144
  go_wp2_with fail
  go_loopw [5, 6] (fun o i wr => ∃ (k : Nat) (D : List Int), i = .int .i64 k ∧ k ≤ cols.length ∧ D.length ≤ k ∧ D = pick (cols.take k) r ∧ OwnI wr w.heap.size o D ∧ Below w.heap.size w wr) (fun _ i _ => cols.length - (intOf i).toNat)
  case atStart => exact ⟨0, [], rfl, Nat.zero_le _, Nat.le_refl _, rfl, own_nil' w (Nat.le_refl _), (Below.refl _ _).alloc (Nat.le_refl _) _⟩
  case round =>
    obtain ⟨k, D, rfl, hk, hDk, hD, hown, hb⟩ := hrel
    by_cases hlt : k < cols.length
    · have g0 : (k : Int) < (cols.length : Int) := by omega
      obtain ⟨b', off', rfl, h1⟩ := HhC.out k hlt
      have c1 := cellB hb (h1 k hlt)
      clear h1
      have hx := Hhc.out cols[k] (List.getElem_mem hlt)
      obtain ⟨n, hn⟩ := Int.eq_ofNat_of_zero_le hx.1
      have hn2 : n < r.length := by omega
      have hst := pick_step hlt hn hn2
      rw [← hD] at hst
      rw [hn] at c1
      have g1 : (n : Int) < (r.length : Int) := by omega
      obtain ⟨b, off, rfl, h2⟩ := HhA.out n hn2
      have c2 := cellB hb (h2 n hn2)
      clear h2
      generalize r[n] = x at *
      have HhD := Lib.hid hD; clear hD; have Hhx := Lib.hid hx; clear hx; have Hhn := Lib.hid hn; clear hn; have Hhst := Lib.hid hst; clear hst
      go_wp2_with (at_builtin; go_must (refine wp_append_one intT rfl _ _ rfl w.heap.size _ D.length (D.map intV) rfl hown _ rfl rfl (by omega) hb.size ?_; intro v3 w3 hown3 hgr3 hb3; replace hown3 := own_push hown3))
      go_roundw
      case rel => exact ⟨k + 1, _, by go_num, by omega, by simp; omega, Hhst.out, hown3, hb.trans hb3⟩
      case measure => simp [intOf] <;> omega
    · obtain rfl : k = cols.length := by omega
      have g0 : ¬ (cols.length : Int) < (cols.length : Int) := by omega
      rw [List.take_length] at hD
      subst hD
      obtain ⟨A9, c9, e9, -⟩ := IRow.open (OwnI.row hown)
      subst e9
      have Hhown := Lib.hid hown; clear hown
      go_wp2_with fail
      go_ret
      exact ⟨_, _, rfl, Hhown.out, hb⟩
end Go.Proofs.Ytbajnecahojcfaa
