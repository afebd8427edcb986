/- The drawing cursor: what each of its functions leaves. -/
import Derived.Test.YtbajnecahojcfaaSl
import Derived.Test.YtbajnecahojcfaaNum
import Derived.BigQuiet
import Derived.Laws.BitsLemmas
namespace Go.Proofs.Ytbajnecahojcfaa
open Go.RowKit Go.Sort
set_option maxHeartbeats 1000000
set_option maxRecDepth 100000

theorem i64_and255 (n : Int) : bits .and .i64 n 255 = n % 256 := by
  have h127 : (BitVec.ofInt 64 255).toNat = 2 ^ 8 - 1 := by decide
  have key : (BitVec.ofInt 64 n &&& BitVec.ofInt 64 255).toNat = (n % ((2 ^ 64 : Nat) : Int)).toNat % 2 ^ 8 := by
    rw [BitVec.toNat_and, BitVec.toNat_ofInt, h127, Nat.and_two_pow_sub_one_eq_mod]
  show IntKind.i64.wrap ((BitVec.ofInt 64 n &&& BitVec.ofInt 64 255).toNat : Nat) = n % 256
  rw [key, IntKind.wrap_i64]
  omega
theorem i64_and30 (n : Int) : bits .and .i64 n 1073741823 = n % 1073741824 := by
  have h127 : (BitVec.ofInt 64 1073741823).toNat = 2 ^ 30 - 1 := by decide
  have key : (BitVec.ofInt 64 n &&& BitVec.ofInt 64 1073741823).toNat = (n % ((2 ^ 64 : Nat) : Int)).toNat % 2 ^ 30 := by
    rw [BitVec.toNat_and, BitVec.toNat_ofInt, h127, Nat.and_two_pow_sub_one_eq_mod]
  show IntKind.i64.wrap ((BitVec.ofInt 64 n &&& BitVec.ofInt 64 1073741823).toNat : Nat) = n % 1073741824
  rw [key, IntKind.wrap_i64]
  omega

/-- Bytes that came in, in blocks below g. -/
def SlB (g : Nat) (w : World) (v : Value) (bs : List UInt8) : Prop :=
  ∃ A c, v = .slice A bs.length c ∧ ∀ j (hj : j < bs.length), ∃ b off, A = some ⟨b, off, none⟩ ∧ b < g ∧ ∀ i (hi : i < bs.length), w.cell? ⟨b, off + i, none⟩ = some (.int .u8 (bs[i].toNat : Int))
theorem SlB.keep {g : Nat} {w w' : World} {v : Value} {bs : List UInt8} (h : SlB g w v bs) (hb : Below g w w') : SlB g w' v bs := by
  obtain ⟨A, c, h1, h2⟩ := h
  refine ⟨A, c, h1, fun j hj => ?_⟩
  obtain ⟨b, off, e, hl, h3⟩ := h2 j hj
  exact ⟨b, off, e, hl, fun i hi => (hb.cell (p := ⟨b, off + i, none⟩) hl).trans (h3 i hi)⟩
theorem SlB.up {g g' : Nat} {w : World} {v : Value} {bs : List UInt8} (h : SlB g w v bs) (hg : g ≤ g') : SlB g' w v bs := by
  obtain ⟨A, c, h1, h2⟩ := h
  refine ⟨A, c, h1, fun j hj => ?_⟩
  obtain ⟨b, off, e, hl, h3⟩ := h2 j hj
  exact ⟨b, off, e, by omega, h3⟩
def Cur (w : World) (g : Nat) : Prop :=
  ∃ (v : Value) (bs : List UInt8) (i : Nat) (h : Int), w.heap[g]? = some (.cells #[v, .int .i64 i, .int .i64 h] 124 (0, 0)) ∧ i ≤ bs.length ∧ bs.length ≤ 1048576 ∧ (-9223372036854775808 ≤ h ∧ h ≤ 9223372036854775807) ∧ SlB g w v bs
theorem grown_of_below {w w' : World} (h : Below w.heap.size w w') (r : Option Nat) : w.grownBy w' r := ⟨h.os, h.tape, h.output, h.size, fun k hk _ => h.block k hk⟩
theorem below_of_grown {B g : Nat} {w w' : World} (h : w.grownBy w' (some g)) (hB : B ≤ g) (hs : B ≤ w.heap.size) : Below B w w' := (Below.refl _ _).grown h hs fun k hk => by cases hk; exact hB
theorem Cur.lt {w : World} {g : Nat} (h : Cur w g) : g < w.heap.size := by
  obtain ⟨v, bs, i, hh, h1, _⟩ := h
  exact lt_of_heap h1
theorem Cur.below {w w' : World} {g : Nat} (h : Cur w g) (hb : Below w.heap.size w w') : Cur w' g := by
  have hl := h.lt
  obtain ⟨v, bs, i, hh, h1, h2, h3, h4, h5⟩ := h
  exact ⟨v, bs, i, hh, blockB hb h1, h2, h3, h4, h5.keep (hb.mono (by omega))⟩
theorem wrap64_bd (n : Int) : -9223372036854775808 ≤ wrap64 n ∧ wrap64 n ≤ 9223372036854775807 := by unfold wrap64; omega

theorem below_drewN {B : Nat} {a w : World} (h : Below B a w) (n : Nat) : Below B a (w.drewN n) := ⟨h.os, h.tape, h.output, h.size, h.block⟩
theorem grown_set (w : World) (g j : Nat) (u : Value) : w.grownBy (w.setCell ⟨g, j, none⟩ u) (some g) := ⟨rfl, rfl, rfl, by simp [World.setCell], fun k _ hk => Below.heap_setCell w ⟨g, j, none⟩ u k (fun e => hk (by rw [e]))⟩
theorem grown_drewN {w w' : World} {r : Option Nat} (h : w.grownBy w' r) (n : Nat) : w.grownBy (w'.drewN n) r := ⟨h.os, h.tape, h.output, h.size, h.block⟩
theorem heap_drewN {w : World} {g n : Nat} {o : Obj} (h : w.heap[g]? = some o) : (w.drewN n).heap[g]? = some o := h
theorem l1Byte_s (g : Nat) (w : World) (hc : Cur w g) : Calls Try.prog 145 #[.pointer (some ⟨g, 0, none⟩)] w (fun e w' => ∃ x : Int, e = .returned (.int .i64 x) ∧ (0 ≤ x ∧ x ≤ 255) ∧ Cur w' g ∧ w.grownBy w' (some g)) := by
  obtain ⟨v, bs, i, h, y, hi, hbs, hh, hsl⟩ := hc
  obtain ⟨A, c, rfl, hA⟩ := id hsl
  have c0 := cellAt y 0
  have c1 := cellAt y 1
  have c2 := cellAt y 2
  have f1 := frozen0 (j := 1) y
  have f2 := frozen0 (j := 2) y
  have r2 := setCell_at c2 rfl
  have Hhsl := Lib.hid hsl; clear hsl; have Hy := Lib.hid y; clear y; have HhA := Lib.hid hA; clear hA
  go_enter Try.func145, Try.ntmps145
  go_wp2_with fail
  go_quiet (fail)
  go_wp2_with fail
  generalize hX : bits BinOp.and IntKind.i64 _ 255 = X
  generalize hH : wrap64 (wrap64 (h * 6364136223846793005) + 1442695040888963407) = H at *
  have hXb : 0 ≤ X ∧ X ≤ 255 := by rw [← hX, i64_and255]; omega
  have hHb : -9223372036854775808 ≤ H ∧ H ≤ 9223372036854775807 := by rw [← hH]; exact wrap64_bd _
  clear hX hH
  have c1' : ∀ v, (w.setCell ⟨g, 2, none⟩ v).cell? ⟨g, 1, none⟩ = some (.int .i64 i) := fun v => by rw [World.cell?_setCell_other]; exact c1; simp
  have c0' : ∀ v, (w.setCell ⟨g, 2, none⟩ v).cell? ⟨g, 0, none⟩ = some (.slice A bs.length c) := fun v => by rw [World.cell?_setCell_other]; exact c0; simp
  by_cases hlt : i < bs.length
  · have g0 : (i : Int) < (bs.length : Int) := by omega
    obtain ⟨b, off, rfl, hbl, hcell⟩ := HhA.out i hlt
    have c3 : ∀ v, (w.setCell ⟨g, 2, none⟩ v).cell? ⟨b, off + i, none⟩ = some (.int .u8 (bs[i].toNat : Int)) := fun v => setC (a := ⟨b, off + i, none⟩) (by show b ≠ g; omega) (hcell i hlt) v
    have hb8 := bs[i].toNat_lt
    clear hcell
    go_quiet (fail)
    go_wp2_with fail
    go_quiet (fail)
    go_wp2_with fail
    go_ret
    refine ⟨_, rfl, by rw [i64_and255]; omega, ⟨_, bs, i + 1, H, heap_setCell_same _ g 1 _ _ _ (heap_drewN (heap_setCell_same w g 2 _ _ _ Hy.out)), by omega, hbs, hHb, ?_⟩, grown_trans (grown_drewN (grown_set _ _ _ _) _) (grown_set _ _ _ _)⟩
    exact Hhsl.out.keep ((below_drewN ((Below.refl g w).setCell (p := ⟨g, 2, none⟩) (Nat.le_refl _) _) _).setCell (p := ⟨g, 1, none⟩) (Nat.le_refl _) _)
  · have g0 : ¬ (i : Int) < (bs.length : Int) := by omega
    go_quiet (fail)
    go_wp2_with fail
    go_ret
    refine ⟨_, rfl, hXb, ⟨_, bs, i, H, heap_drewN (heap_setCell_same w g 2 _ _ _ Hy.out), by omega, hbs, hHb, ?_⟩, grown_drewN (grown_set _ _ _ _) _⟩
    exact Hhsl.out.keep (below_drewN ((Below.refl g w).setCell (p := ⟨g, 2, none⟩) (Nat.le_refl _) _) _)

theorem l1Below_s (g : Nat) (n : Int) (hn : n ≤ 4294967296) (w : World) (hc : Cur w g) : Calls Try.prog 102 #[.pointer (some ⟨g, 0, none⟩), .int .i64 n] w (fun e w' => ∃ x : Int, e = .returned (.int .i64 x) ∧ (0 ≤ x ∧ (x < n ∨ x = 0 ∧ n ≤ 0)) ∧ Cur w' g ∧ w.grownBy w' (some g)) := by
  by_cases h0 : n ≤ 0
  · have Hhc := Lib.hid hc; clear hc
    go_enter Try.func102, Try.ntmps102
    go_wp2_with fail
    go_ret
    exact ⟨0, rfl, ⟨Int.le_refl _, .inr ⟨rfl, h0⟩⟩, Hhc.out, World.grownBy.refl _ _⟩
  · by_cases h1 : n ≤ 256
    · have Hhc := Lib.hid hc; clear hc
      go_enter Try.func102, Try.ntmps102
      go_wp2_with (go_at_call 145; ((with_reducible refine (l1Byte_s g _ Hhc.out).mono ?_); rintro e w1 ⟨x, rfl, hx, hc1, hg1⟩))
      go_ret
      exact ⟨_, rfl, ⟨Int.emod_nonneg _ (by omega), .inl (Int.emod_lt_of_pos _ (by omega))⟩, hc1, hg1⟩
    · have hG := World.grownBy.refl w (some g)
      go_enter Try.func102, Try.ntmps102
      go_wp2_with (go_at_call 145; ((with_reducible refine (l1Byte_s g _ hc).mono ?_); rintro e w1 ⟨x, rfl, hx, hc1, hg1⟩; (replace hc := hc1; replace hG := grown_trans hG hg1; clear hc1 hg1)))
      go_ret
      exact ⟨_, rfl, ⟨Int.emod_nonneg _ (by omega), .inl (Int.emod_lt_of_pos _ (by omega))⟩, hc, hG⟩

theorem l1Once_s (g : Nat) (n : Int) (hn : n ≤ 4294967296) (w : World) (hc : Cur w g) : Calls Try.prog 104 #[.pointer (some ⟨g, 0, none⟩), .int .i64 n] w (fun e w' => ∃ b : Bool, e = .returned (.bool b) ∧ Cur w' g ∧ w.grownBy w' (some g)) := by
  go_enter Try.func104, Try.ntmps104
  go_wp2_with (go_at_call 102; ((with_reducible refine (l1Below_s g n hn _ hc).mono ?_); rintro e w1 ⟨x, rfl, hx, hc1, hg1⟩))
  go_ret
  exact ⟨_, rfl, hc1, hg1⟩

theorem l1PickInt_s (g : Nat) (v : Value) (B : Nat) (l : List Int) (h0 : 0 < l.length) (h1 : l.length ≤ 1000) (w : World) (hc : Cur w g) (hv : OwnI w B v l) : Calls Try.prog 134 #[.pointer (some ⟨g, 0, none⟩), v] w (fun e w' => ∃ x : Int, e = .returned (.int .i64 x) ∧ x ∈ l ∧ Cur w' g ∧ w.grownBy w' (some g)) := by
  obtain ⟨q, cap, rfl, hq, hlt, hle, hcap, hcell⟩ := own_open hv (by simpa using h0)
  have hne : q ≠ g := by
    rintro rfl
    obtain ⟨v', bs, i, hh, y, _⟩ := hc
    rcases hv.2 with ⟨e, _⟩ | ⟨g', cap', cur, e, _, hx, _⟩
    · simp at e
    · simp at e
      rw [← e.1, y] at hx
      simp at hx
  have Hhv := Lib.hid hv; clear hv; have Hhcell := Lib.hid hcell; clear hcell
  go_enter Try.func134, Try.ntmps134
  go_wp2_with (go_at_call 102; ((with_reducible refine (l1Below_s g l.length (by omega) _ hc).mono ?_); rintro e w1 ⟨x, rfl, hx, hc1, hg1⟩; (obtain ⟨k, rfl⟩ := Int.eq_ofNat_of_zero_le hx.1; have hk : k < l.length := (by omega); have c1 : w1.cell? ⟨q, k, none⟩ = some (.int .i64 l[k]) := (World.cell?_of_block (hg1.block q hlt (by simpa using hne))).trans (Hhcell.out k _ (by simp [intV, hk])))))
  go_ret
  exact ⟨_, rfl, List.getElem_mem _, hc1, hg1⟩

theorem l1New_s (v : Value) (bs : List UInt8) (w : World) (hl : bs.length ≤ 1048576) (hv : SlB w.heap.size w v bs) : Calls Try.prog 100 #[v] w (fun e w' => ∃ g, e = .returned (.pointer (some ⟨g, 0, none⟩)) ∧ w.heap.size ≤ g ∧ Cur w' g ∧ Below w.heap.size w w') := by
  obtain ⟨A, c, rfl, hA⟩ := id hv
  have Hhv := Lib.hid hv; clear hv; have HhA := Lib.hid hA; clear hA
  go_enter Try.func100, Try.ntmps100
  go_wp2_with fail
  go_loop [3, 4] (fun h i => ∃ (k : Nat) (x : Int), i = .int .i64 k ∧ h = .int .i64 x ∧ k ≤ bs.length ∧ 0 ≤ x ∧ x ≤ 1073741823) (fun _ i => bs.length - (intOf i).toNat)
  case atStart => exact ⟨0, _, rfl, rfl, Nat.zero_le _, by omega, by omega⟩
  case round =>
    obtain ⟨k, x, rfl, rfl, hk, hx0, hx1⟩ := hrel
    by_cases hlt : k < bs.length
    · have g0 : (k : Int) < (bs.length : Int) := by omega
      obtain ⟨b, off, rfl, hbl, hcell⟩ := HhA.out k hlt
      have c3 := hcell k hlt
      have hb8 := bs[k].toNat_lt
      clear hcell
      by_cases h4 : k < 4000
      · have g4 : (k : Int) < 4000 := by omega
        have hm := fun z => i64_and30 z
        go_wp2_with fail
        go_round
        case rel => exact ⟨k + 1, _, by go_num, rfl, by omega, by omega, by omega⟩
        case measure => simp [intOf] <;> omega
      · have g4 : ¬ (k : Int) < 4000 := by omega
        go_wp2_with fail
        go_ret
        exact ⟨_, rfl, Nat.le_refl _, ⟨_, bs, 0, x, heap_alloc_new _ _, Nat.zero_le _, hl, by omega, Hhv.out.keep ((Below.refl _ _).alloc (Nat.le_refl _) _)⟩, (Below.refl _ _).alloc (Nat.le_refl _) _⟩
    · obtain rfl : k = bs.length := by omega
      have g0 : ¬ (bs.length : Int) < (bs.length : Int) := by omega
      go_wp2_with fail
      go_ret
      exact ⟨_, rfl, Nat.le_refl _, ⟨_, bs, 0, x, heap_alloc_new _ _, Nat.zero_le _, hl, by omega, Hhv.out.keep ((Below.refl _ _).alloc (Nat.le_refl _) _)⟩, (Below.refl _ _).alloc (Nat.le_refl _) _⟩
end Go.Proofs.Ytbajnecahojcfaa
