/- A table's relation looked up, both. (Written by mklkp.py.) -/
import Derived.Test.YtbajnecahojcfaaDbI
import Derived.Test.YtbajnecahojcfaaDbS
import Derived.Test.YtbajnecahojcfaaDbO
import Derived.Test.YtbajnecahojcfaaCopy
namespace Go.Proofs.Ytbajnecahojcfaa
open Go.RowKit Go.Sort
set_option maxHeartbeats 4000000
set_option maxRecDepth 100000
def lkT (T : List Tab) (N : List UInt8) : Option Tab := if dbOk T then T.find? (fun t => t.1 == N) else none
def lkA (T : List Tab) (N : List UInt8) : Int := match lkT T N with | some t => t.2.1 | none => 0
def lkM (T : List Tab) (N : List UInt8) : List (List Int) := match lkT T N with | some t => t.2.2 | none => []
def lkOk (T : List Tab) (N : List UInt8) : Bool := (lkT T N).isSome
theorem lkT_bad {T : List Tab} {N : List UInt8} (h : dbOk T = false) : lkT T N = none := by unfold lkT; rw [h]; rfl
theorem lkT_end {T : List Tab} {N : List UInt8} (h1 : ∀ i (hi : i < T.length), i < T.length → (T[i].1 == N) = false) : lkT T N = none := by
  unfold lkT
  split
  · rw [List.find?_eq_none]
    intro t ht
    obtain ⟨i, hi, rfl⟩ := List.mem_iff_getElem.1 ht
    rw [h1 i hi hi]; simp
  · rfl
theorem lkT_hit {T : List Tab} {N : List UInt8} {k : Nat} (h : dbOk T = true) (hk : k < T.length) (h1 : ∀ i (hi : i < T.length), i < k → (T[i].1 == N) = false) (h2 : (T[k].1 == N) = true) : lkT T N = some T[k] := by
  unfold lkT
  rw [h, if_pos rfl, List.find?_eq_some_iff_getElem]
  exact ⟨h2, k, hk, rfl, fun j hj => by rw [h1 j (by omega) hj]; rfl⟩
theorem lk_step {T : List Tab} {N : List UInt8} {k : Nat} (hk : k < T.length) (h1 : ∀ i (hi : i < T.length), i < k → (T[i].1 == N) = false) (h2 : (T[k].1 == N) = false) : ∀ i (hi : i < T.length), i < k + 1 → (T[i].1 == N) = false := by
  intro i hi hik
  rcases Nat.lt_or_ge i k with h' | h'
  · exact h1 i hi h'
  · have : i = k := by omega
    subst this; exact h2
theorem lkM_total (T : List Tab) (N : List UInt8) : (lkM T N).length + total (lkM T N) ≤ tsz T := by
  unfold lkM
  cases h : lkT T N with
  | none => simp [total]
  | some t =>
    unfold lkT at h
    split at h
    · have := tsz_mem (List.mem_of_find?_eq_some h)
      unfold tsz1 at this
      show t.2.2.length + total t.2.2 ≤ _
      omega
    · cases h
theorem retL_no {T : List Tab} {N : List UInt8} {w w' : World} {e : Ending} (h : lkT T N = none) (he : e = .returned (.tuple #[.agg #[.int .i64 0, .slice none 0 0], .bool false])) (hb : Below w.heap.size w w') : RetMB (lkA T N) (lkM T N) (lkOk T N) w e w' := by
  unfold RetMB lkA lkM lkOk
  rw [h]
  exact ⟨none, 0, he, OwnM.nil _ _, hb⟩
theorem retL_yes {T : List Tab} {N N2 : List UInt8} {ar : Int} {m : List (List Int)} {w w' : World} {e : Ending} {A : Option Addr} {c : Nat} (h : lkT T N = some (N2, ar, m)) (he : e = .returned (.tuple #[.agg #[.int .i64 ar, .slice A m.length c], .bool true])) (hown : OwnM w' w.heap.size (.slice A m.length c) m) (hb : Below w.heap.size w w') : RetMB (lkA T N) (lkM T N) (lkOk T N) w e w' := by
  unfold RetMB lkA lkM lkOk
  rw [h]
  exact ⟨A, c, he, hown, hb⟩
theorem LookupRelation_i (v : Value) (T : List Tab) (N : List UInt8) (hn : ∀ t ∈ T, t.1.length ≤ 1048576) (hl : tsz T ≤ 1048576) (w : World) (hv : TRow w v T) : Calls Try.prog 55 #[.agg #[v], .string ⟨N.toArray⟩] w (RetMB (lkA T N) (lkM T N) (lkOk T N) w) := by
  have y1 := heap_new1 w (.cells #[v] 52) (.cells #[.int .i64 0, .slice none 0 0] 44)
  have y0 := heapN (heap_alloc_new w (.cells #[v] 52)) (.cells #[.int .i64 0, .slice none 0 0] 44)
  have hB : Below w.heap.size w ((w.alloc (.cells #[v] 52)).alloc (.cells #[.int .i64 0, .slice none 0 0] 44)) := ((Below.refl _ _).alloc (Nat.le_refl _) _).alloc (by simp) _
  have hsz : w.heap.size + 2 ≤ ((w.alloc (.cells #[v] 52)).alloc (.cells #[.int .i64 0, .slice none 0 0] 44)).heap.size := by simp
  replace hv := hv.below hB
  have hlen := hv.len
  obtain ⟨A, c, rfl⟩ := TRow.opened hv
  have k1 := IsValidDatabase_i _ T hn _ hv
  cases hD : dbOk T with
  | false =>
    rw [hD] at k1
    have e := lkT_bad (N := N) hD
    have Hhv := Lib.hid hv; clear hv; have HhB := Lib.hid hB; clear hB; have Hy0 := Lib.hid y0; clear y0; have Hk1 := Lib.hid k1; clear k1; have HhD := Lib.hid hD; clear hD; have He := Lib.hid e; clear e; have Hhn := Lib.hid hn; clear hn; have Hhl := Lib.hid hl; clear hl; have Hhsz := Lib.hid hsz; clear hsz
    go_enter Try.func55, Try.ntmps55
    go_wp2_with (go_at_call 57; ((with_reducible refine (Hk1.out).mono ?_); rintro e w1 ⟨rfl, hb1⟩; (have z2 := blockB hb1 y1; have u0 := cellAt z2 0; have u1 := cellAt z2 1; have f0 := frozen0 (j := 0) z2; have f1 := frozen0 (j := 1) z2; have hB1 := below_tr HhB.out hb1)))
    refine bodyPost_ret (res_rel_tmp rfl rfl rfl (set1 (set0 z2 _) _)) rfl (retL_no He.out rfl ?_)
    exact (hB1.setCell (p := ⟨w.heap.size + 1, 0, none⟩) (by show w.heap.size ≤ w.heap.size + 1; omega) _).setCell (p := ⟨w.heap.size + 1, 1, none⟩) (by show w.heap.size ≤ w.heap.size + 1; omega) _
  | true =>
    rw [hD] at k1
    have Hhv := Lib.hid hv; clear hv; have HhB := Lib.hid hB; clear hB; have Hy0 := Lib.hid y0; clear y0; have Hy1 := Lib.hid y1; clear y1; have Hk1 := Lib.hid k1; clear k1; have HhD := Lib.hid hD; clear hD; have Hhn := Lib.hid hn; clear hn; have Hhl := Lib.hid hl; clear hl; have Hhsz := Lib.hid hsz; clear hsz
    go_enter Try.func55, Try.ntmps55
    go_wp2_with (go_at_call 57; ((with_reducible refine (Hk1.out).mono ?_); rintro e w1 ⟨rfl, hb1⟩; (have x0 := blockB hb1 Hy0.out; have x1 := blockB hb1 Hy1.out; have hB1 := below_tr HhB.out hb1; have hv1 := Hhv.out.below hb1; have t0 := cellAt x0 0; have hsz1 : w.heap.size + 2 ≤ w1.heap.size := by have := Hhsz.out; have := hb1.size; omega)))
    clear t0
    have Hx0 := Lib.hid x0
    have Hx1 := Lib.hid x1
    have HB1 := Lib.hid hB1
    have Hv1 := Lib.hid hv1
    clear x0 x1 hB1 hv1
    go_loopw [13] (fun i wr => ∃ k : Nat, i = .int .i64 k ∧ k ≤ T.length ∧ (∀ i (hi : i < T.length), i < k → (T[i].1 == N) = false) ∧ Below w1.heap.size w1 wr) (fun i _ => T.length - (intOf i).toNat)
    case atStart => exact ⟨0, rfl, Nat.zero_le _, fun i _ h => absurd h (Nat.not_lt_zero _), Below.refl _ _⟩
    case round =>
      obtain ⟨k, rfl, hk, hno, hb⟩ := hrel
      have z0 := blockB hb Hx0.out
      have z1 := blockB hb Hx1.out
      have z0c := cellAt z0 0
      by_cases hlt : k < T.length
      · have g0 : (k : Int) < (T.length : Int) := by omega
        have hv3 := Hv1.out.below hb
        obtain ⟨b, off, rfl, c0, c1, A1, q1, c2, hm⟩ := TRow.at hv3 k hlt
        have hsz1 := tsz_mem (List.getElem_mem hlt)
        have hit := fun hD h => lkT_hit (T := T) (N := N) (k := k) hD hlt hno h
        have hstep := fun h => lk_step (T := T) (N := N) (k := k) hlt hno h
        obtain ⟨t, ht⟩ : ∃ t, T[k] = t := ⟨_, rfl⟩
        rw [ht] at c0 c1 c2 hm hsz1 hit hstep
        obtain ⟨M, ar, m⟩ := t
        unfold tsz1 at hsz1
        simp only at c0 c1 c2 hm hsz1 hit hstep
        replace c0 : wr.cell? ⟨b, off + k * 3, none⟩ = some (.string ⟨M.toArray⟩) := c0
        have hml : m.length + total m ≤ 1099511627775 := by have := Hhl.out; omega
        have e0 := cellAt (heap_alloc_new wr (.cells #[.string ⟨M.toArray⟩, .int .i64 ar, .slice A1 m.length q1] 60)) 0
        have e1 := cellAt (heap_alloc_new wr (.cells #[.string ⟨M.toArray⟩, .int .i64 ar, .slice A1 m.length q1] 60)) 1
        have e2 := cellAt (heap_alloc_new wr (.cells #[.string ⟨M.toArray⟩, .int .i64 ar, .slice A1 m.length q1] 60)) 2
        have hmA := hm.alloc (.cells #[.string ⟨M.toArray⟩, .int .i64 ar, .slice A1 m.length q1] 60)
        have hbA := hb.alloc hb.size (.cells #[.string ⟨M.toArray⟩, .int .i64 ar, .slice A1 m.length q1] 60)
        have z1A := heapN z1 (.cells #[.string ⟨M.toArray⟩, .int .i64 ar, .slice A1 m.length q1] 60)
        have k3 := fun W h => copyRelation_i (.slice A1 m.length q1) ar m W h hml
        cases hMN : M == N with
        | false =>
          have hs := hstep hMN
          have Hhno := Lib.hid hno; clear hno; have Hhv3 := Lib.hid hv3; clear hv3; have Hhm := Lib.hid hm; clear hm; have HhmA := Lib.hid hmA; clear hmA; have Hhit := Lib.hid hit; clear hit; have Hhstep := Lib.hid hstep; clear hstep; have Hht := Lib.hid ht; clear ht; have Hk3 := Lib.hid k3; clear k3; have Hhs := Lib.hid hs; clear hs; have HhbA := Lib.hid hbA; clear hbA; have Hz1A := Lib.hid z1A; clear z1A; have Hhsz1 := Lib.hid hsz1; clear hsz1; have Hhml := Lib.hid hml; clear hml
          go_wp2_with fail
          go_roundw
          case rel => exact ⟨k + 1, by go_num, by omega, Hhs.out, HhbA.out⟩
          case measure => simp [intOf] <;> omega
        | true =>
          have hh := hit HhD.out hMN
          have Hhno := Lib.hid hno; clear hno; have Hhv3 := Lib.hid hv3; clear hv3; have Hhm := Lib.hid hm; clear hm; have HhmA := Lib.hid hmA; clear hmA; have Hhit := Lib.hid hit; clear hit; have Hhstep := Lib.hid hstep; clear hstep; have Hht := Lib.hid ht; clear ht; have Hk3 := Lib.hid k3; clear k3; have Hhh := Lib.hid hh; clear hh; have HhbA := Lib.hid hbA; clear hbA; have Hz1A := Lib.hid z1A; clear z1A; have Hhsz1 := Lib.hid hsz1; clear hsz1; have Hhml := Lib.hid hml; clear hml; have Hz0 := Lib.hid z0; clear z0; have Hz1 := Lib.hid z1; clear z1
          go_wp2_with (go_at_call 116; ((with_reducible refine (Hk3.out _ HhmA.out).mono ?_); rintro e w2 ⟨A2, q2, rfl, own2, hb2⟩; (have z2 := blockB hb2 Hz1A.out; have u0 := cellAt z2 0; have u1 := cellAt z2 1; have f0 := frozen0 (j := 0) z2; have f1 := frozen0 (j := 1) z2)))
          have h1 := SegM.setO (j := 0) own2 z2 (by decide) (by decide) (.int .i64 ar)
          have h2 := SegM.setO (j := 1) h1 (set0 z2 _) (by decide) (by decide) (.slice A2 m.length q2)
          have hB2 : Below w.heap.size w w2 := (HB1.out.trans (HhbA.out.mono HB1.out.size)).trans (hb2.mono (HB1.out.trans (HhbA.out.mono HB1.out.size)).size)
          refine bodyPost_ret (res_rel_tmp rfl rfl rfl (set1 (set0 z2 _) _)) rfl (retL_yes Hhh.out rfl (SegM.wide h2 (HB1.out.trans (HhbA.out.mono HB1.out.size)).size (by simp [World.setCell])) ?_)
          exact (hB2.setCell (p := ⟨w.heap.size + 1, 0, none⟩) (by show w.heap.size ≤ w.heap.size + 1; omega) _).setCell (p := ⟨w.heap.size + 1, 1, none⟩) (by show w.heap.size ≤ w.heap.size + 1; omega) _
      · obtain rfl : k = T.length := by omega
        have g0 : ¬ (T.length : Int) < (T.length : Int) := by omega
        have e := lkT_end hno
        have hB2 : Below w.heap.size w wr := HB1.out.trans (hb.mono HB1.out.size)
        have u0 := cellAt z1 0
        have u1 := cellAt z1 1
        have f0 := frozen0 (j := 0) z1
        have f1 := frozen0 (j := 1) z1
        have Hhno := Lib.hid hno; clear hno; have He := Lib.hid e; clear e; have HhB2 := Lib.hid hB2; clear hB2
        go_wp2_with fail
        refine bodyPost_ret (res_rel_tmp rfl rfl rfl (set1 (set0 z1 _) _)) rfl (retL_no He.out rfl ?_)
        exact (HhB2.out.setCell (p := ⟨w.heap.size + 1, 0, none⟩) (by show w.heap.size ≤ w.heap.size + 1; omega) _).setCell (p := ⟨w.heap.size + 1, 1, none⟩) (by show w.heap.size ≤ w.heap.size + 1; omega) _
theorem LookupRelation_s (v : Value) (T : List Tab) (N : List UInt8) (hn : ∀ t ∈ T, t.1.length ≤ 1048576) (hl : tsz T ≤ 1048576) (w : World) (hv : TRow w v T) : Calls Try.prog 60 #[.agg #[v], .string ⟨N.toArray⟩] w (RetMB (lkA T N) (lkM T N) (lkOk T N) w) := by
  have y1 := heap_new1 w (.cells #[v] 52) (.cells #[.int .i64 0, .slice none 0 0] 44)
  have y0 := heapN (heap_alloc_new w (.cells #[v] 52)) (.cells #[.int .i64 0, .slice none 0 0] 44)
  have hB : Below w.heap.size w ((w.alloc (.cells #[v] 52)).alloc (.cells #[.int .i64 0, .slice none 0 0] 44)) := ((Below.refl _ _).alloc (Nat.le_refl _) _).alloc (by simp) _
  have hsz : w.heap.size + 2 ≤ ((w.alloc (.cells #[v] 52)).alloc (.cells #[.int .i64 0, .slice none 0 0] 44)).heap.size := by simp
  replace hv := hv.below hB
  have hlen := hv.len
  obtain ⟨A, c, rfl⟩ := TRow.opened hv
  have Hhv := Lib.hid hv; clear hv; have HhB := Lib.hid hB; clear hB; have Hy0 := Lib.hid y0; clear y0; have Hy1 := Lib.hid y1; clear y1; have Hhn := Lib.hid hn; clear hn; have Hhl := Lib.hid hl; clear hl; have Hhsz := Lib.hid hsz; clear hsz
  go_enter Try.func60, Try.ntmps60
  go_wp2_with fail
  generalize (w.alloc (.cells #[.slice A T.length c] 52)).alloc (.cells #[.int .i64 0, .slice none 0 0] 44) = w0 at *
  go_loopw [6] (fun i wr => ∃ k : Nat, i = .int .i64 k ∧ k ≤ T.length ∧ (∀ i (hi : i < T.length), i < k → (T[i].1 == N) = false) ∧ Below w0.heap.size w0 wr) (fun i _ => T.length - (intOf i).toNat)
  case atStart => exact ⟨0, rfl, Nat.zero_le _, fun i _ h => absurd h (Nat.not_lt_zero _), Below.refl _ _⟩
  case round =>
    obtain ⟨k, rfl, hk, hno, hb⟩ := hrel
    have z0 := blockB hb Hy0.out
    have z1 := blockB hb Hy1.out
    have z0c := cellAt z0 0
    by_cases hlt : k < T.length
    · have g0 : (k : Int) < (T.length : Int) := by omega
      have hv3 := Hhv.out.below hb
      have k1 := IsValidDatabase_s _ T Hhn.out _ hv3
      obtain ⟨b, off, rfl, c0, c1, A1, q1, c2, hm⟩ := TRow.at hv3 k hlt
      have hsz1 := tsz_mem (List.getElem_mem hlt)
      have hit := fun hD h => lkT_hit (T := T) (N := N) (k := k) hD hlt hno h
      have hstep := fun h => lk_step (T := T) (N := N) (k := k) hlt hno h
      obtain ⟨t, ht⟩ : ∃ t, T[k] = t := ⟨_, rfl⟩
      rw [ht] at c0 c1 c2 hm hsz1 hit hstep
      obtain ⟨M, ar, m⟩ := t
      unfold tsz1 at hsz1
      simp only at c0 c1 c2 hm hsz1 hit hstep
      replace c0 : wr.cell? ⟨b, off + k * 3, none⟩ = some (.string ⟨M.toArray⟩) := c0
      have hml : m.length + total m ≤ 1099511627775 := by have := Hhl.out; omega
      have k3 := fun W h => l5Copy_s (.slice A1 m.length q1) ar m W h hml
      cases hD : dbOk T with
      | false =>
        rw [hD] at k1
        have e := lkT_bad (N := N) hD
        have Hhno := Lib.hid hno; clear hno; have Hhv3 := Lib.hid hv3; clear hv3; have Hhm := Lib.hid hm; clear hm; have Hhit := Lib.hid hit; clear hit; have Hhstep := Lib.hid hstep; clear hstep; have Hht := Lib.hid ht; clear ht; have Hk3 := Lib.hid k3; clear k3; have Hk1 := Lib.hid k1; clear k1; have HhD := Lib.hid hD; clear hD; have He := Lib.hid e; clear e; have Hhsz1 := Lib.hid hsz1; clear hsz1; have Hhml := Lib.hid hml; clear hml; have Hc0 := Lib.hid c0; clear c0; have Hc1 := Lib.hid c1; clear c1; have Hc2 := Lib.hid c2; clear c2; have Hz0 := Lib.hid z0; clear z0; have Hz1 := Lib.hid z1; clear z1
        go_wp2_with (go_at_call 83; ((with_reducible refine (Hk1.out).mono ?_); rintro e w1 ⟨rfl, hb1⟩; (have x0 := blockB hb1 Hz0.out; have t0 := cellAt x0 0; have x1 := blockB hb1 Hz1.out; have u0 := cellAt x1 0; have u1 := cellAt x1 1; have f0 := frozen0 (j := 0) x1; have f1 := frozen0 (j := 1) x1; have d0 := cellB hb1 Hc0.out; have d1 := cellB hb1 Hc1.out; have d2 := cellB hb1 Hc2.out; have hbB := hb.trans (hb1.mono hb.size))))
        have hB2 : Below w.heap.size w w1 := HhB.out.trans (hbB.mono HhB.out.size)
        refine bodyPost_ret (res_rel_tmp rfl rfl rfl (set1 (set0 x1 _) _)) rfl (retL_no He.out rfl ?_)
        exact (hB2.setCell (p := ⟨w.heap.size + 1, 0, none⟩) (by show w.heap.size ≤ w.heap.size + 1; omega) _).setCell (p := ⟨w.heap.size + 1, 1, none⟩) (by show w.heap.size ≤ w.heap.size + 1; omega) _
      | true =>
      rw [hD] at k1
      cases hMN : M == N with
      | false =>
        have hs := hstep hMN
        have Hhno := Lib.hid hno; clear hno; have Hhv3 := Lib.hid hv3; clear hv3; have Hhm := Lib.hid hm; clear hm; have Hhit := Lib.hid hit; clear hit; have Hhstep := Lib.hid hstep; clear hstep; have Hht := Lib.hid ht; clear ht; have Hk3 := Lib.hid k3; clear k3; have Hk1 := Lib.hid k1; clear k1; have HhD := Lib.hid hD; clear hD; have Hhs := Lib.hid hs; clear hs; have Hhsz1 := Lib.hid hsz1; clear hsz1; have Hhml := Lib.hid hml; clear hml; have Hc0 := Lib.hid c0; clear c0; have Hc1 := Lib.hid c1; clear c1; have Hc2 := Lib.hid c2; clear c2; have Hz0 := Lib.hid z0; clear z0; have Hz1 := Lib.hid z1; clear z1
        go_wp2_with (go_at_call 83; ((with_reducible refine (Hk1.out).mono ?_); rintro e w1 ⟨rfl, hb1⟩; (have x0 := blockB hb1 Hz0.out; have t0 := cellAt x0 0; have x1 := blockB hb1 Hz1.out; have u0 := cellAt x1 0; have u1 := cellAt x1 1; have f0 := frozen0 (j := 0) x1; have f1 := frozen0 (j := 1) x1; have d0 := cellB hb1 Hc0.out; have d1 := cellB hb1 Hc1.out; have d2 := cellB hb1 Hc2.out; have hbB := hb.trans (hb1.mono hb.size))))
        go_roundw
        case rel => exact ⟨k + 1, by go_num, by omega, Hhs.out, hbB⟩
        case measure => simp [intOf] <;> omega
      | true =>
        have hh := hit hD hMN
        have Hhno := Lib.hid hno; clear hno; have Hhv3 := Lib.hid hv3; clear hv3; have Hhm := Lib.hid hm; clear hm; have Hhit := Lib.hid hit; clear hit; have Hhstep := Lib.hid hstep; clear hstep; have Hht := Lib.hid ht; clear ht; have Hk3 := Lib.hid k3; clear k3; have Hk1 := Lib.hid k1; clear k1; have HhD := Lib.hid hD; clear hD; have Hhh := Lib.hid hh; clear hh; have Hhsz1 := Lib.hid hsz1; clear hsz1; have Hhml := Lib.hid hml; clear hml; have Hc0 := Lib.hid c0; clear c0; have Hc1 := Lib.hid c1; clear c1; have Hc2 := Lib.hid c2; clear c2; have Hz0 := Lib.hid z0; clear z0; have Hz1 := Lib.hid z1; clear z1
        go_wp2_with (first | (go_at_call 83; ((with_reducible refine (Hk1.out).mono ?_); rintro e w1 ⟨rfl, hb1⟩; (have x0 := blockB hb1 Hz0.out; have t0 := cellAt x0 0; have x1 := blockB hb1 Hz1.out; have u0 := cellAt x1 0; have u1 := cellAt x1 1; have f0 := frozen0 (j := 0) x1; have f1 := frozen0 (j := 1) x1; have d0 := cellB hb1 Hc0.out; have d1 := cellB hb1 Hc1.out; have d2 := cellB hb1 Hc2.out; have hbB := hb.trans (hb1.mono hb.size)))) | (go_at_call 120; ((with_reducible refine (Hk3.out _ (Hhm.out.below hb1)).mono ?_); rintro e w2 ⟨A2, q2, rfl, own2, hb2⟩; (have z2 := blockB hb2 x1; clear u0 u1 f0 f1; have u0 := cellAt z2 0; have u1 := cellAt z2 1; have f0 := frozen0 (j := 0) z2; have f1 := frozen0 (j := 1) z2))))
        have h1 := SegM.setO (j := 0) own2 z2 (by decide) (by decide) (.int .i64 ar)
        have h2 := SegM.setO (j := 1) h1 (set0 z2 _) (by decide) (by decide) (.slice A2 m.length q2)
        have hB1 : Below w.heap.size w w1 := HhB.out.trans (hbB.mono HhB.out.size)
        have hB2 : Below w.heap.size w w2 := hB1.trans (hb2.mono hB1.size)
        refine bodyPost_ret (res_rel_tmp rfl rfl rfl (set1 (set0 z2 _) _)) rfl (retL_yes Hhh.out rfl (SegM.wide h2 hB1.size (by simp [World.setCell])) ?_)
        exact (hB2.setCell (p := ⟨w.heap.size + 1, 0, none⟩) (by show w.heap.size ≤ w.heap.size + 1; omega) _).setCell (p := ⟨w.heap.size + 1, 1, none⟩) (by show w.heap.size ≤ w.heap.size + 1; omega) _
    · obtain rfl : k = T.length := by omega
      have g0 : ¬ (T.length : Int) < (T.length : Int) := by omega
      have e := lkT_end hno
      have hB2 : Below w.heap.size w wr := HhB.out.trans (hb.mono HhB.out.size)
      have u0 := cellAt z1 0
      have u1 := cellAt z1 1
      have f0 := frozen0 (j := 0) z1
      have f1 := frozen0 (j := 1) z1
      have Hhno := Lib.hid hno; clear hno; have He := Lib.hid e; clear e; have HhB2 := Lib.hid hB2; clear hB2
      go_wp2_with fail
      refine bodyPost_ret (res_rel_tmp rfl rfl rfl (set1 (set0 z1 _) _)) rfl (retL_no He.out rfl ?_)
      exact (HhB2.out.setCell (p := ⟨w.heap.size + 1, 0, none⟩) (by show w.heap.size ≤ w.heap.size + 1; omega) _).setCell (p := ⟨w.heap.size + 1, 1, none⟩) (by show w.heap.size ≤ w.heap.size + 1; omega) _
end Go.Proofs.Ytbajnecahojcfaa
