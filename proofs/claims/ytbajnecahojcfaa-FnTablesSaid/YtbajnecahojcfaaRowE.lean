/- Rows encoded and decoded, both. -/
import Derived.Test.YtbajnecahojcfaaRow
namespace Go.Proofs.Ytbajnecahojcfaa
open Go.RowKit Go.Sort
set_option maxHeartbeats 1000000
set_option maxRecDepth 100000

def encL (l : List Int) : List UInt8 := l.map fun x => UInt8.ofNat (x + 1).toNat
def encRow (l : List Int) : List UInt8 := if vrow l then encL l else []
theorem encL_len (l : List Int) : (encL l).length = l.length := by simp [encL]
theorem encL_take {l : List Int} {k : Nat} (h : k < l.length) : encL (l.take (k + 1)) = encL (l.take k) ++ [UInt8.ofNat (l[k] + 1).toNat] := by
  unfold encL; rw [List.take_succ_eq_append_getElem h, List.map_append]; rfl
theorem encVal_ok {x : Int} (h : 0 ≤ x ∧ x ≤ 99) : encVal x = [UInt8.ofNat (x + 1).toNat] := if_pos h
theorem encRow_yes {l : List Int} (h : vrow l = true) : encRow l = encL l := by unfold encRow; rw [if_pos h]
theorem encRow_no {l : List Int} (h : vrow l = false) : encRow l = [] := by unfold encRow; rw [h]; rfl
theorem EncodeRow_i (v : Value) (l : List Int) (hl : l.length ≤ 1048576) (w : World) (hv : IRow w v l) : Calls Try.prog 34 #[v] w (RetB (.string ⟨(encRow l).toArray⟩) w) := by
  have k1 := fun W h => AreValidValues_i v l W h
  have hv2 := hv
  obtain ⟨A, c, rfl, -, -, -, hA⟩ := IRow.open hv
  clear hv
  cases hq : vrow l with
  | false =>
    rw [hq] at k1
    rw [encRow_no hq]
    have HhA := Lib.hid hA; clear hA; have Hk1 := Lib.hid k1; clear k1; have Hhv2 := Lib.hid hv2; clear hv2; have Hhq := Lib.hid hq; clear hq
    go_enter Try.func34, Try.ntmps34
    go_wp2_with (go_at_call 29; ((with_reducible refine (Hk1.out _ Hhv2.out).mono ?_); rintro e w' ⟨rfl, rfl⟩))
    go_ret
    exact ⟨rfl, Below.refl _ _⟩
  | true =>
    rw [hq] at k1
    rw [encRow_yes hq]
    have hq2 := vrow_yes hq
    have HhA := Lib.hid hA; clear hA; have Hk1 := Lib.hid k1; clear k1; have Hhv2 := Lib.hid hv2; clear hv2; have Hhq := Lib.hid hq; clear hq; have Hhq2 := Lib.hid hq2; clear hq2
    go_enter Try.func34, Try.ntmps34
    go_wp2_with (go_at_call 29; ((with_reducible refine (Hk1.out _ Hhv2.out).mono ?_); rintro e w' ⟨rfl, rfl⟩))
    go_loopw [3, 11] (fun s i wr => ∃ (k : Nat) (S : List UInt8), s = .string ⟨S.toArray⟩ ∧ i = .int .i64 k ∧ k ≤ l.length ∧ S = encL (l.take k) ∧ Below w.heap.size w wr) (fun _ i _ => l.length - (intOf i).toNat)
    case atStart => exact ⟨0, [], rfl, rfl, Nat.zero_le _, rfl, Below.refl _ _⟩
    case round =>
      obtain ⟨k, S, rfl, rfl, hk, hS, hb⟩ := hrel
      by_cases hlt : k < l.length
      · have g0 : (k : Int) < (l.length : Int) := by omega
        obtain ⟨b, off, rfl, h1⟩ := HhA.out k hlt
        have c1 := cellB hb (h1 k hlt)
        clear h1
        have hx := Hhq2.out l[k] (List.getElem_mem hlt)
        have hn : S ++ [UInt8.ofNat (l[k] + 1).toNat] = encL (l.take (k + 1)) := by rw [encL_take hlt, hS]
        have hlS : S.length ≤ 1048576 := by rw [hS, encL_len]; simp; omega
        obtain ⟨x, hxx⟩ : ∃ x, l[k] = x := ⟨_, rfl⟩
        rw [hxx] at c1 hx hn
        have k2 := fun W => EncodeValue_i x W
        rw [encVal_ok hx] at k2
        have HhS := Lib.hid hS; clear hS; have Hhxx := Lib.hid hxx; clear hxx; have Hhx := Lib.hid hx; clear hx; have Hhn := Lib.hid hn; clear hn; have Hk2 := Lib.hid k2; clear k2
        go_wp2_with (go_at_call 45; ((with_reducible refine (Hk2.out _).mono ?_); rintro e w2 ⟨rfl, hb2⟩))
        go_roundw
        case rel => exact ⟨k + 1, _, str_app _ _, by go_num, by omega, Hhn.out, hb.trans (hb2.mono hb.size)⟩
        case measure => simp [intOf] <;> omega
      · obtain rfl : k = l.length := by omega
        have g0 : ¬ (l.length : Int) < (l.length : Int) := by omega
        rw [List.take_length] at hS
        have HhS := Lib.hid hS; clear hS
        go_wp2_with fail
        go_ret
        exact ⟨by rw [HhS.out]; rfl, hb⟩
theorem EncodeRow_s (v : Value) (l : List Int) (hl : l.length ≤ 1048576) (w : World) (hv : IRow w v l) : Calls Try.prog 33 #[v] w (RetB (.string ⟨(encRow l).toArray⟩) w) := by
  have k1 := fun W h => AreValidValues_s v l W h
  have hv2 := hv
  obtain ⟨A, c, rfl, -, -, -, hA⟩ := IRow.open hv
  clear hv
  cases hq : vrow l with
  | false =>
    rw [hq] at k1
    rw [encRow_no hq]
    have hlt : 0 < l.length := by cases l with | nil => simp [vrow] at hq | cons a t => simp
    have g0 : (0 : Int) < (l.length : Int) := by omega
    have HhA := Lib.hid hA; clear hA; have Hk1 := Lib.hid k1; clear k1; have Hhv2 := Lib.hid hv2; clear hv2; have Hhq := Lib.hid hq; clear hq; have Hhlt := Lib.hid hlt; clear hlt
    go_enter Try.func33, Try.ntmps33
    go_wp2_with fail
    go_loopw [3, 4] (fun s i wr => s = .string ⟨([] : List UInt8).toArray⟩ ∧ i = .int .i64 0 ∧ w = wr) (fun _ i _ => 0)
    case atStart => exact ⟨rfl, rfl, rfl⟩
    case round =>
      obtain ⟨rfl, rfl, rfl⟩ := hrel
      go_wp2_with (go_at_call 27; ((with_reducible refine (Hk1.out _ Hhv2.out).mono ?_); rintro e w' ⟨rfl, rfl⟩))
      go_ret
      exact ⟨rfl, Below.refl _ _⟩
  | true =>
    rw [hq] at k1
    rw [encRow_yes hq]
    have hq2 := vrow_yes hq
    have HhA := Lib.hid hA; clear hA; have Hk1 := Lib.hid k1; clear k1; have Hhv2 := Lib.hid hv2; clear hv2; have Hhq := Lib.hid hq; clear hq; have Hhq2 := Lib.hid hq2; clear hq2
    go_enter Try.func33, Try.ntmps33
    go_wp2_with fail
    go_loopw [3, 4] (fun s i wr => ∃ (k : Nat) (S : List UInt8), s = .string ⟨S.toArray⟩ ∧ i = .int .i64 k ∧ k ≤ l.length ∧ S = encL (l.take k) ∧ Below w.heap.size w wr) (fun _ i _ => l.length - (intOf i).toNat)
    case atStart => exact ⟨0, [], rfl, rfl, Nat.zero_le _, rfl, Below.refl _ _⟩
    case round =>
      obtain ⟨k, S, rfl, rfl, hk, hS, hb⟩ := hrel
      by_cases hlt : k < l.length
      · have g0 : (k : Int) < (l.length : Int) := by omega
        have hv3 := Hhv2.out.below hb
        obtain ⟨b, off, rfl, h1⟩ := HhA.out k hlt
        have c1 := cellB hb (h1 k hlt)
        clear h1
        have hx := Hhq2.out l[k] (List.getElem_mem hlt)
        have hn : S ++ [UInt8.ofNat (l[k] + 1).toNat] = encL (l.take (k + 1)) := by rw [encL_take hlt, hS]
        have hlS : S.length ≤ 1048576 := by rw [hS, encL_len]; simp; omega
        obtain ⟨x, hxx⟩ : ∃ x, l[k] = x := ⟨_, rfl⟩
        rw [hxx] at c1 hx hn
        have k2 := fun W => EncodeValue_s x W
        rw [encVal_ok hx] at k2
        have HhS := Lib.hid hS; clear hS; have Hhxx := Lib.hid hxx; clear hxx; have Hhx := Lib.hid hx; clear hx; have Hhn := Lib.hid hn; clear hn; have Hk2 := Lib.hid k2; clear k2; have Hhv3 := Lib.hid hv3; clear hv3
        go_wp2_with (first | (go_at_call 27; ((with_reducible refine (Hk1.out _ Hhv3.out).mono ?_); rintro e w' ⟨rfl, rfl⟩)) | (go_at_call 98; ((with_reducible refine (Hk2.out _).mono ?_); rintro e w2 ⟨rfl, hb2⟩)))
        go_roundw
        case rel => exact ⟨k + 1, _, str_app _ _, by go_num, by omega, Hhn.out, hb.trans (hb2.mono hb.size)⟩
        case measure => simp [intOf] <;> omega
      · obtain rfl : k = l.length := by omega
        have g0 : ¬ (l.length : Int) < (l.length : Int) := by omega
        rw [List.take_length] at hS
        have HhS := Lib.hid hS; clear hS
        go_wp2_with fail
        go_ret
        exact ⟨by rw [HhS.out]; rfl, hb⟩

def bOk (b : UInt8) : Bool := decide (1 ≤ b.toNat ∧ b.toNat ≤ 100)
def decRowOk (l : List UInt8) (n : Int) : Bool := decide ((l.length : Int) = n) && l.all bOk
def decL (l : List UInt8) : List Int := l.map fun b => (b.toNat : Int) - 1
def decRow (l : List UInt8) (n : Int) : List Int := if decRowOk l n then decL l else []
theorem decL_len (l : List UInt8) : (decL l).length = l.length := by simp [decL]
theorem decRow_len (l : List UInt8) (n : Int) : (decRow l n).length ≤ l.length := by
  unfold decRow; split
  · rw [decL_len]; omega
  · simp
theorem decL_take {l : List UInt8} {k : Nat} (h : k < l.length) : decL (l.take (k + 1)) = decL (l.take k) ++ [(l[k].toNat : Int) - 1] := by
  unfold decL; rw [List.take_succ_eq_append_getElem h, List.map_append]; rfl
theorem dec_at {l : List UInt8} {k : Nat} (h : k < l.length) : decOk l (k : Int) = bOk l[k] := by
  unfold decOk bOk
  rw [show l.getD ((k : Nat) : Int).toNat 0 = l[k] by simp [h], decide_eq_decide]
  omega
theorem decV_at {l : List UInt8} {k : Nat} (h : k < l.length) (hb : bOk l[k] = true) : decVal l (k : Int) = (l[k].toNat : Int) - 1 := by
  unfold decVal
  rw [dec_at h, if_pos hb, show l.getD ((k : Nat) : Int).toNat 0 = l[k] by simp [h]]
theorem decRow_bad {l : List UInt8} {n : Int} {k : Nat} (h : k < l.length) (hb : bOk l[k] = false) : decRowOk l n = false := by
  unfold decRowOk
  have : l.all bOk = false := by
    rw [Bool.eq_false_iff]; intro h'
    rw [List.all_eq_true] at h'
    rw [h' _ (List.getElem_mem h)] at hb; cases hb
  rw [this, Bool.and_false]
theorem decRow_end {l : List UInt8} {n : Int} (h : (l.length : Int) = n) (ha : (l.take l.length).all bOk = true) : decRowOk l n = true := by
  unfold decRowOk; rw [List.take_length] at ha; rw [ha, show decide ((l.length : Int) = n) = true by rw [decide_eq_true_eq]; exact h]; rfl
theorem bOk_step {l : List UInt8} {k : Nat} (hk : k < l.length) (h : (l.take k).all bOk = true) (hd : bOk l[k] = true) : (l.take (k + 1)).all bOk = true := by
  rw [List.take_succ_eq_append_getElem hk, List.all_append, h]
  simp [hd]
theorem decRow_no {l : List UInt8} {n : Int} (h : decRowOk l n = false) : decRow l n = [] := by unfold decRow; rw [h]; rfl
theorem decRow_yes {l : List UInt8} {n : Int} (h : decRowOk l n = true) : decRow l n = decL l := by unfold decRow; rw [if_pos h]
theorem own_push {w : World} {B : Nat} {v : Value} {l : List Int} {x : Int} (h : w.ownsRow B 3 1 v (l.length + 1) (l.map intV ++ [.int .i64 x])) : OwnI w B v (l ++ [x]) := by
  unfold OwnI
  rw [List.length_append, List.map_append]
  exact h
theorem own_nil {w : World} {B : Nat} : OwnI w B (.slice none 0 0) [] := World.ownsRow_nil _ _ _ _
theorem own_nil' (w : World) {B : Nat} (hB : B ≤ w.heap.size) : OwnI (w.alloc (.cells #[] 3)) B (.slice (some ⟨w.heap.size, 0, none⟩) 0 0) [] := World.ownsRow_lit w #[] 0 hB (by decide) rfl
def RetI (l : List Int) (ok : Bool) (w : World) (e : Ending) (w' : World) : Prop := ∃ A c, e = .returned (.tuple #[.slice A l.length c, .bool ok]) ∧ OwnI w' w.heap.size (.slice A l.length c) l ∧ Below w.heap.size w w'
theorem retI_of {l : List Int} {ok : Bool} {w w' : World} {v : Value} {e : Ending} (he : e = .returned (.tuple #[v, .bool ok])) (hown : OwnI w' w.heap.size v l) (hb : Below w.heap.size w w') : RetI l ok w e w' := by
  obtain ⟨A, c, rfl, -⟩ := IRow.open hown.row
  exact ⟨A, c, he, hown, hb⟩
theorem DecodeRow_i (l : List UInt8) (hl : l.length ≤ 1048576) (n : Int) (w : World) : Calls Try.prog 36 #[.string ⟨l.toArray⟩, .int .i64 n] w (RetI (decRow l n) (decRowOk l n) w) := by
  by_cases hn : (l.length : Int) = n
  rotate_left
  · have e : decRowOk l n = false := by unfold decRowOk; rw [show decide ((l.length : Int) = n) = false by rw [decide_eq_false_iff_not]; exact hn]; rfl
    rw [decRow_no e, e]
    have d1 : ((l.length : Int) != n) = true := by rw [bne_iff_ne]; exact hn
    clear e
    go_enter Try.func36, Try.ntmps36
    go_wp2_with fail
    go_ret2
    first
    | exact retI_of rfl own_nil (Below.refl _ _)
    | exact retI_of rfl (own_nil' w (Nat.le_refl _)) ((Below.refl _ _).alloc (Nat.le_refl _) _)
  have d1 : ((l.length : Int) != n) = false := by simp [hn]
  go_enter Try.func36, Try.ntmps36
  go_wp2_with fail
  go_loopw [6, 7] (fun v i wr => ∃ (k : Nat) (R : List Int), i = .int .i64 k ∧ k ≤ l.length ∧ (l.take k).all bOk = true ∧ R = decL (l.take k) ∧ OwnI wr w.heap.size v R ∧ Below w.heap.size w wr) (fun _ i _ => l.length - (intOf i).toNat)
  case atStart =>
    first
    | exact ⟨0, [], rfl, Nat.zero_le _, rfl, rfl, own_nil, Below.refl _ _⟩
    | exact ⟨0, [], rfl, Nat.zero_le _, rfl, rfl, own_nil' w (Nat.le_refl _), (Below.refl _ _).alloc (Nat.le_refl _) _⟩
  case round =>
    obtain ⟨k, R, rfl, hk, hall, hR, hown, hb⟩ := hrel
    by_cases hlt : k < l.length
    · have g0 : (k : Int) < (l.length : Int) := by omega
      have k1 := fun W => DecodeValue_i l hl (k : Int) W
      rw [dec_at hlt] at k1
      cases hq : bOk l[k] with
      | false =>
        rw [hq] at k1
        have e := decRow_bad (n := n) hlt hq
        have e2 := decRow_no e
        have Hhall := Lib.hid hall; clear hall; have Hhq := Lib.hid hq; clear hq; have HhR := Lib.hid hR; clear hR; have Hk1 := Lib.hid k1; clear k1; have He := Lib.hid e; clear e; have He2 := Lib.hid e2; clear e2
        go_wp2_with (go_at_call 43; ((with_reducible refine (Hk1.out _).mono ?_); rintro e w' ⟨rfl, rfl⟩))
        go_ret2
        rw [He.out, He2.out]
        first
        | exact retI_of rfl own_nil hb
        | exact retI_of rfl (own_nil' _ hb.size) (hb.alloc hb.size _)
      | true =>
        rw [decV_at hlt hq] at k1
        rw [hq] at k1
        have h3 := bOk_step hlt hall hq
        have h4 : R ++ [(l[k].toNat : Int) - 1] = decL (l.take (k + 1)) := by rw [decL_take hlt, hR]
        have hlR : R.length + 1 ≤ 1048577 := by rw [hR, decL_len]; simp; omega
        generalize (l[k].toNat : Int) - 1 = x at *
        have Hhall := Lib.hid hall; clear hall; have Hhq := Lib.hid hq; clear hq; have HhR := Lib.hid hR; clear hR; have Hk1 := Lib.hid k1; clear k1; have Hh3 := Lib.hid h3; clear h3; have Hh4 := Lib.hid h4; clear h4
        go_wp2_with (first | (go_at_call 43; ((with_reducible refine (Hk1.out _).mono ?_); rintro e w' ⟨rfl, rfl⟩)) | (at_builtin; go_must (refine wp_append_one intT rfl _ _ rfl w.heap.size _ R.length (R.map intV) rfl hown _ rfl rfl (by omega) hb.size ?_; intro v2 w2 hown2 hgr2 hb2; replace hown2 := own_push hown2)))
        go_roundw
        case rel => exact ⟨k + 1, _, by go_num, by omega, Hh3.out, Hh4.out, hown2, hb.trans hb2⟩
        case measure => simp [intOf] <;> omega
    · obtain rfl : k = l.length := by omega
      have g0 : ¬ (l.length : Int) < (l.length : Int) := by omega
      have e := decRow_end hn hall
      have e2 := decRow_yes e
      rw [List.take_length] at hR
      subst hR
      have Hhall := Lib.hid hall; clear hall; have He := Lib.hid e; clear e; have He2 := Lib.hid e2; clear e2
      go_wp2_with fail
      go_ret2
      rw [He.out, He2.out]
      exact retI_of rfl hown hb
theorem DecodeRow_s (l : List UInt8) (hl : l.length ≤ 1048576) (n : Int) (w : World) : Calls Try.prog 35 #[.string ⟨l.toArray⟩, .int .i64 n] w (RetI (decRow l n) (decRowOk l n) w) := by
  by_cases hn : (l.length : Int) = n
  rotate_left
  · have e : decRowOk l n = false := by unfold decRowOk; rw [show decide ((l.length : Int) = n) = false by rw [decide_eq_false_iff_not]; exact hn]; rfl
    rw [decRow_no e, e]
    have d1 : ((l.length : Int) != n) = true := by rw [bne_iff_ne]; exact hn
    clear e
    go_enter Try.func35, Try.ntmps35
    go_wp2_with fail
    go_ret2
    first
    | exact retI_of rfl own_nil (Below.refl _ _)
    | exact retI_of rfl (own_nil' w (Nat.le_refl _)) ((Below.refl _ _).alloc (Nat.le_refl _) _)
  have d1 : ((l.length : Int) != n) = false := by simp [hn]
  go_enter Try.func35, Try.ntmps35
  go_wp2_with fail
  go_loopw [6, 7] (fun v i wr => ∃ (k : Nat) (R : List Int), i = .int .i64 k ∧ k ≤ l.length ∧ (l.take k).all bOk = true ∧ R = decL (l.take k) ∧ OwnI wr w.heap.size v R ∧ Below w.heap.size w wr) (fun _ i _ => l.length - (intOf i).toNat)
  case atStart =>
    first
    | exact ⟨0, [], rfl, Nat.zero_le _, rfl, rfl, own_nil, Below.refl _ _⟩
    | exact ⟨0, [], rfl, Nat.zero_le _, rfl, rfl, own_nil' w (Nat.le_refl _), (Below.refl _ _).alloc (Nat.le_refl _) _⟩
  case round =>
    obtain ⟨k, R, rfl, hk, hall, hR, hown, hb⟩ := hrel
    by_cases hlt : k < l.length
    · have g0 : (k : Int) < (l.length : Int) := by omega
      have k1 := fun W => DecodeValue_s l hl (k : Int) W
      rw [dec_at hlt] at k1
      cases hq : bOk l[k] with
      | false =>
        rw [hq] at k1
        have e := decRow_bad (n := n) hlt hq
        have e2 := decRow_no e
        have Hhall := Lib.hid hall; clear hall; have Hhq := Lib.hid hq; clear hq; have HhR := Lib.hid hR; clear hR; have Hk1 := Lib.hid k1; clear k1; have He := Lib.hid e; clear e; have He2 := Lib.hid e2; clear e2
        go_wp2_with (go_at_call 99; ((with_reducible refine (Hk1.out _).mono ?_); rintro e w' ⟨rfl, rfl⟩))
        go_ret2
        rw [He.out, He2.out]
        first
        | exact retI_of rfl own_nil hb
        | exact retI_of rfl (own_nil' _ hb.size) (hb.alloc hb.size _)
      | true =>
        rw [decV_at hlt hq] at k1
        rw [hq] at k1
        have h3 := bOk_step hlt hall hq
        have h4 : R ++ [(l[k].toNat : Int) - 1] = decL (l.take (k + 1)) := by rw [decL_take hlt, hR]
        have hlR : R.length + 1 ≤ 1048577 := by rw [hR, decL_len]; simp; omega
        generalize (l[k].toNat : Int) - 1 = x at *
        have Hhall := Lib.hid hall; clear hall; have Hhq := Lib.hid hq; clear hq; have HhR := Lib.hid hR; clear hR; have Hk1 := Lib.hid k1; clear k1; have Hh3 := Lib.hid h3; clear h3; have Hh4 := Lib.hid h4; clear h4
        go_wp2_with (first | (go_at_call 99; ((with_reducible refine (Hk1.out _).mono ?_); rintro e w' ⟨rfl, rfl⟩)) | (at_builtin; go_must (refine wp_append_one intT rfl _ _ rfl w.heap.size _ R.length (R.map intV) rfl hown _ rfl rfl (by omega) hb.size ?_; intro v2 w2 hown2 hgr2 hb2; replace hown2 := own_push hown2)))
        go_roundw
        case rel => exact ⟨k + 1, _, by go_num, by omega, Hh3.out, Hh4.out, hown2, hb.trans hb2⟩
        case measure => simp [intOf] <;> omega
    · obtain rfl : k = l.length := by omega
      have g0 : ¬ (l.length : Int) < (l.length : Int) := by omega
      have e := decRow_end hn hall
      have e2 := decRow_yes e
      rw [List.take_length] at hR
      subst hR
      have Hhall := Lib.hid hall; clear hall; have He := Lib.hid e; clear e; have He2 := Lib.hid e2; clear e2
      go_wp2_with fail
      go_ret2
      rw [He.out, He2.out]
      exact retI_of rfl hown hb
end Go.Proofs.Ytbajnecahojcfaa
