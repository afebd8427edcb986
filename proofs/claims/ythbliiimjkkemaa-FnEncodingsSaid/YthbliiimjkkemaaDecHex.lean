/- DecodeHex, both. -/
import Derived.Test.YthbliiimjkkemaaHex
namespace Go.Proofs.Ythbliiimjkkemaa
open Go.RowKit Go.Sort
set_option maxHeartbeats 400000
set_option maxRecDepth 100000

def hexN (n : Nat) : Int := if 48 ≤ n ∧ n ≤ 57 then (n : Int) - 48 else if 97 ≤ n ∧ n ≤ 102 then (n : Int) - 87 else -1
def hexV (b : UInt8) : Int := hexN b.toNat
theorem hexN_bd (n : Nat) : -1 ≤ hexN n ∧ hexN n ≤ 15 := by unfold hexN; split <;> (try split) <;> omega
theorem hexV_bd (b : UInt8) : -1 ≤ hexV b ∧ hexV b ≤ 15 := hexN_bd _
theorem hexN_hexd : ∀ k, k < 16 → hexN (hexd k).toNat = k := by decide
theorem hexd_hexN : ∀ n, n < 256 → 0 ≤ hexN n → (hexd (hexN n).toNat).toNat = n := by decide +kernel
theorem hexV_yes {b : UInt8} {k : Nat} (hk : k < 16) (h : hexd k = b) : hexV b = k := by rw [← h]; exact hexN_hexd k hk
theorem hexV_no {b : UInt8} (h : ∀ k, k < 16 → hexd k ≠ b) : hexV b = -1 := by
  have h1 := hexV_bd b
  by_cases h0 : 0 ≤ hexV b
  · have h2 := hexd_hexN b.toNat b.toNat_lt h0
    exact absurd (UInt8.toNat_inj.1 h2) (h _ (by have : hexN b.toNat = hexV b := rfl; omega))
  · omega

def decHexL : List UInt8 → Option (List UInt8)
  | [] => some []
  | [_] => none
  | a :: b :: r => if hexV a < 0 ∨ hexV b < 0 then none else (decHexL r).map fun t => UInt8.ofNat (16 * hexV a + hexV b).toNat :: t
def decHexS (l : List UInt8) : List UInt8 := (decHexL l).getD []
def decHexB (l : List UInt8) : Bool := (decHexL l).isSome
theorem decHex_odd : ∀ (k : Nat) (l : List UInt8), l.length = 2 * k + 1 → decHexL l = none := by
  intro k
  induction k with
  | zero => intro l h; match l, h with | [_], _ => rfl
  | succ k ih =>
    intro l h
    match l, h with
    | a :: b :: r, h =>
      rw [decHexL]; split
      · rfl
      · rw [ih r (by simp at h; omega)]; rfl
theorem decHex_len : ∀ (k : Nat) (l r : List UInt8), l.length ≤ k → decHexL l = some r → r.length ≤ l.length := by
  intro k
  induction k with
  | zero => intro l r h e; have : l = [] := List.eq_nil_of_length_eq_zero (by omega); subst this; cases e; simp
  | succ k ih =>
    intro l r h e
    match l, h, e with
    | [], _, e => cases e; simp
    | [_], _, e => cases e
    | a :: b :: t, h, e =>
      rw [decHexL] at e
      split at e
      · cases e
      · obtain ⟨u, hu, rfl⟩ := Option.map_eq_some_iff.1 e
        have := ih t u (by simp at h; omega) hu
        simp; omega
theorem dec_at {l : List UInt8} {j : Nat} (h : j + 1 < l.length) : decHexL (l.drop j) = if hexV l[j] < 0 ∨ hexV l[j + 1] < 0 then none else (decHexL (l.drop (j + 2))).map fun t => UInt8.ofNat (16 * hexV l[j] + hexV l[j + 1]).toNat :: t := by
  rw [List.drop_eq_getElem_cons (by omega), List.drop_eq_getElem_cons (i := j + 1) h, decHexL]
theorem dec_bad {l : List UInt8} {j : Nat} {bs : List UInt8} (h : j + 1 < l.length) (hv : (decHexL (l.drop j)).map (bs ++ ·) = decHexL l) (hn : hexV l[j] < 0 ∨ hexV l[j + 1] < 0) : decHexL l = none := by
  rw [← hv, dec_at h, if_pos hn]; rfl
theorem dec_good {l : List UInt8} {j : Nat} {bs : List UInt8} (h : j + 1 < l.length) (hv : (decHexL (l.drop j)).map (bs ++ ·) = decHexL l) (hn : ¬ (hexV l[j] < 0 ∨ hexV l[j + 1] < 0)) :
    (decHexL (l.drop (j + 2))).map ((bs ++ [UInt8.ofNat (16 * hexV l[j] + hexV l[j + 1]).toNat]) ++ ·) = decHexL l := by
  rw [← hv, dec_at h, if_neg hn, Option.map_map]
  congr 1
  funext t
  simp

theorem hexValue_i (b : UInt8) (w : World) : Calls Try.prog 47 #[.int .u8 (b.toNat : Int)] w (Ret (.int .i64 (hexV b)) w) := by
  have hb := b.toNat_lt
  unfold hexV hexN
  by_cases h1 : (48 : Int) ≤ b.toNat ∧ (b.toNat : Int) ≤ 57
  · rw [if_pos (by omega)]
    have d1 : decide ((48 : Int) ≤ b.toNat) = true := by rw [decide_eq_true_eq]; omega
    have d2 : decide ((b.toNat : Int) ≤ 57) = true := by rw [decide_eq_true_eq]; omega
    have h2 : (48 : Int) ≤ b.toNat := h1.1
    clear h1
    go_enter Try.func47, Try.ntmps47
    go_wp2_with fail
    go_ret
    exact ⟨rfl, rfl⟩
  · rw [if_neg (by omega)]
    by_cases h3 : (97 : Int) ≤ b.toNat ∧ (b.toNat : Int) ≤ 102
    · rw [if_pos (by omega)]
      have d1 : decide ((48 : Int) ≤ b.toNat) = true := by rw [decide_eq_true_eq]; omega
      have d2 : decide ((b.toNat : Int) ≤ 57) = false := by rw [decide_eq_false_iff_not]; omega
      have d3 : decide ((97 : Int) ≤ b.toNat) = true := by rw [decide_eq_true_eq]; omega
      have d4 : decide ((b.toNat : Int) ≤ 102) = true := by rw [decide_eq_true_eq]; omega
      have h2 : (97 : Int) ≤ b.toNat := h3.1
      clear h1 h3
      go_enter Try.func47, Try.ntmps47
      go_wp2_with fail
      go_ret
      exact ⟨ret_int (by omega), rfl⟩
    · rw [if_neg (by omega)]
      by_cases h4 : (48 : Int) ≤ b.toNat
      · have d1 : decide ((48 : Int) ≤ b.toNat) = true := by rw [decide_eq_true_eq]; omega
        have d2 : decide ((b.toNat : Int) ≤ 57) = false := by rw [decide_eq_false_iff_not]; omega
        by_cases h5 : (97 : Int) ≤ b.toNat
        · have d3 : decide ((97 : Int) ≤ b.toNat) = true := by rw [decide_eq_true_eq]; omega
          have d4 : decide ((b.toNat : Int) ≤ 102) = false := by rw [decide_eq_false_iff_not]; omega
          clear h1 h3 h4 h5
          go_enter Try.func47, Try.ntmps47
          go_wp2_with fail
          go_ret
          exact ⟨rfl, rfl⟩
        · have d3 : decide ((97 : Int) ≤ b.toNat) = false := by rw [decide_eq_false_iff_not]; omega
          clear h1 h3 h4 h5
          go_enter Try.func47, Try.ntmps47
          go_wp2_with fail
          go_ret
          exact ⟨rfl, rfl⟩
      · have d1 : decide ((48 : Int) ≤ b.toNat) = false := by rw [decide_eq_false_iff_not]; omega
        have d3 : decide ((97 : Int) ≤ b.toNat) = false := by rw [decide_eq_false_iff_not]; omega
        clear h1 h3 h4
        go_enter Try.func47, Try.ntmps47
        go_wp2_with fail
        go_ret
        exact ⟨rfl, rfl⟩

theorem l1FromHex_s (b : UInt8) (w : World) : Calls Try.prog 46 #[.int .u8 (b.toNat : Int)] w (Ret (.int .i64 (hexV b)) w) := by
  go_enter Try.func46, Try.ntmps46
  go_wp2_with fail
  go_loop [3] (fun i => ∃ k : Nat, k ≤ 16 ∧ i = .int .i64 k ∧ ∀ j, j < k → hexd j ≠ b) (fun i => 16 - (intOf i).toNat)
  case atStart => exact ⟨0, by omega, rfl, fun j h => by omega⟩
  case round =>
    obtain ⟨k, hk, rfl, hall⟩ := hrel
    have Hhall := Lib.hid hall; clear hall
    by_cases hlt : k < 16
    · by_cases he : hexd k = b
      · have hv := hexV_yes hlt he
        have d1 : (((hexd k).toNat : Int) == (b.toNat : Int)) = true := by rw [he]; simp
        have Hhv := Lib.hid hv; clear hv; have Hhe := Lib.hid he; clear he
        go_wp2_with (go_at_call 44; ((with_reducible refine (l1Digit_s (k : Int) (by omega) (by omega) _).mono ?_); rintro e w' ⟨rfl, rfl⟩))
        go_ret
        exact ⟨ret_int Hhv.out.symm, rfl⟩
      · have d1 : (((hexd k).toNat : Int) == (b.toNat : Int)) = false := by
          rw [beq_eq_false_iff_ne]; intro h; exact he (UInt8.toNat_inj.1 (by omega))
        have hn : ∀ j, j < k + 1 → hexd j ≠ b := fun j hj => by
          by_cases hjk : j = k
          · rw [hjk]; exact he
          · exact Hhall.out j (by omega)
        have Hhn := Lib.hid hn; clear hn; have Hhe := Lib.hid he; clear he
        go_wp2_with (go_at_call 44; ((with_reducible refine (l1Digit_s (k : Int) (by omega) (by omega) _).mono ?_); rintro e w' ⟨rfl, rfl⟩))
        go_round
        case rel => exact ⟨k + 1, by omega, by go_num, Hhn.out⟩
        case measure => simp [intOf] <;> omega
    · obtain rfl : k = 16 := by omega
      have hv := hexV_no Hhall.out
      have Hhv := Lib.hid hv; clear hv
      go_wp2_with fail
      go_ret
      exact ⟨ret_int Hhv.out.symm, rfl⟩

theorem hexValue_s' (b : UInt8) : ∀ w : World, Calls Try.prog 46 #[.int .u8 (b.toNat : Int)] w (Ret (.int .i64 (hexV b)) w) := l1FromHex_s b
theorem hexValue_i' (b : UInt8) : ∀ w : World, Calls Try.prog 47 #[.int .u8 (b.toNat : Int)] w (Ret (.int .i64 (hexV b)) w) := hexValue_i b

theorem DecodeHex_s (l : List UInt8) (hl : l.length ≤ 1048576) (w : World) : Calls Try.prog 34 #[.string ⟨l.toArray⟩] w (RetB (.tuple #[.string ⟨(decHexS l).toArray⟩, .bool (decHexB l)]) w) := by
  by_cases hodd : l.length % 2 = 1
  · have e := decHex_odd (l.length / 2) l (by omega)
    have e1 : decHexS l = [] := by unfold decHexS; rw [e]; rfl
    have e2 : decHexB l = false := by unfold decHexB; rw [e]; rfl
    have d0 : ((l.length : Int) % 2 == 1) = true := by rw [beq_iff_eq]; omega
    rw [e1, e2]
    clear e e1 e2 hodd
    go_enter Try.func34, Try.ntmps34
    go_wp2_with fail
    go_ret2
    exact ⟨rfl, (Below.refl _ _).alloc (Nat.le_refl _) _⟩
  · have d0 : ((l.length : Int) % 2 == 1) = false := by rw [beq_eq_false_iff_ne]; omega
    go_enter Try.func34, Try.ntmps34
    go_wp2_with fail
    clear d0
    go_loopw [4, 5] (fun v i wr => ∃ (j : Nat) (bs : List UInt8), j % 2 = 0 ∧ j ≤ l.length ∧ bs.length ≤ j ∧ i = .int .i64 j ∧ wr.ownsRow w.heap.size 5 1 v bs.length (bs.map byteV) ∧ (decHexL (l.drop j)).map (bs ++ ·) = decHexL l ∧ Below w.heap.size w wr) (fun _ i _ => l.length - (intOf i).toNat)
    case atStart => exact ⟨0, [], rfl, Nat.zero_le _, Nat.le_refl _, rfl, World.ownsRow_lit _ _ 0 (Nat.le_refl _) (by decide) rfl, by simp, (Below.refl _ _).alloc (Nat.le_refl _) _⟩
    case round =>
      obtain ⟨j, bs, hj2, hj, hbl, rfl, hown, hv, hb⟩ := hrel
      by_cases hlt : j < l.length
      · have hj1 : j + 1 < l.length := by omega
        have g0 : (j : Int) < (l.length : Int) := by omega
        have g1 : (j : Int) + 1 < (l.length : Int) := by omega
        have hbad := dec_bad hj1 hv
        have hgood := dec_good hj1 hv
        obtain ⟨a, ha⟩ : ∃ a, l[j] = a := ⟨_, rfl⟩
        obtain ⟨b, hb'⟩ : ∃ b, l[j + 1] = b := ⟨_, rfl⟩
        rw [ha, hb'] at hbad hgood
        have ba := hexV_bd a
        have bb := hexV_bd b
        have ea := hexValue_s' a
        have eb := hexValue_s' b
        generalize hexV a = x at *
        generalize hexV b = y at *
        have Hhv := Lib.hid hv; clear hv; have Hhbad := Lib.hid hbad; clear hbad; have Hhgood := Lib.hid hgood; clear hgood; have Hea := Lib.hid ea; clear ea; have Heb := Lib.hid eb; clear eb

        by_cases hx : x < 0
        · have e := Hhbad.out (.inl hx)
          have e1 : decHexS l = [] := by unfold decHexS; rw [e]; rfl
          have e2 : decHexB l = false := by unfold decHexB; rw [e]; rfl
          have He1 := Lib.hid e1; clear e1; have He2 := Lib.hid e2; clear e2
          clear e
          have d1 : decide (x < 0) = true := by rw [decide_eq_true_eq]; omega
          go_wp2_with (first | (go_at_call 46; ((with_reducible refine (Hea.out _).mono ?_); rintro e w' ⟨rfl, rfl⟩)) | (go_at_call 46; ((with_reducible refine (Heb.out _).mono ?_); rintro e w' ⟨rfl, rfl⟩)))
          go_ret2
          exact ⟨by rw [He1.out, He2.out]; rfl, hb⟩
        · have d1 : decide (x < 0) = false := by rw [decide_eq_false_iff_not]; omega
          by_cases hy : y < 0
          · have e := Hhbad.out (.inr hy)
            have e1 : decHexS l = [] := by unfold decHexS; rw [e]; rfl
            have e2 : decHexB l = false := by unfold decHexB; rw [e]; rfl
            have He1 := Lib.hid e1; clear e1; have He2 := Lib.hid e2; clear e2
            clear e
            have d2 : decide (y < 0) = true := by rw [decide_eq_true_eq]; omega
            go_wp2_with (first | (go_at_call 46; ((with_reducible refine (Hea.out _).mono ?_); rintro e w' ⟨rfl, rfl⟩)) | (go_at_call 46; ((with_reducible refine (Heb.out _).mono ?_); rintro e w' ⟨rfl, rfl⟩)))
            go_ret2
            exact ⟨by rw [He1.out, He2.out]; rfl, hb⟩
          · have d2 : decide (y < 0) = false := by rw [decide_eq_false_iff_not]; omega
            have hg := Hhgood.out (by omega)
            have Hhg := Lib.hid hg; clear hg
            go_wp2_with (first | (go_at_call 46; ((with_reducible refine (Hea.out _).mono ?_); rintro e w' ⟨rfl, rfl⟩)) | (go_at_call 46; ((with_reducible refine (Heb.out _).mono ?_); rintro e w' ⟨rfl, rfl⟩)) | (at_builtin; go_must (refine wp_append_bytes rfl _ _ rfl w.heap.size _ _ _ rfl hown _ [UInt8.ofNat (16 * x + y).toNat] (by simp [byteV]; omega) _ _ rfl rfl (by simp; omega) hb.size ?_; intro v2 w2 hown2 hb2)))
            go_roundw
            case rel => exact ⟨j + 2, bs ++ [UInt8.ofNat (16 * x + y).toNat], by omega, by omega, by simp; omega, by go_num, by simpa using hown2, Hhg.out, (hb).trans hb2⟩
            case measure => simp [intOf] <;> omega
      · obtain rfl : j = l.length := by omega
        rw [List.drop_length] at hv
        have e1 : decHexS l = bs := by unfold decHexS; rw [← hv]; simp [decHexL]
        have e2 : decHexB l = true := by unfold decHexB; rw [← hv]; rfl
        have He1 := Lib.hid e1; clear e1; have He2 := Lib.hid e2; clear e2
        clear hv
        go_wp2_with ((with_reducible show wpList _ _ _ _ _ _); refine wp_bytes_string hown rfl _ rfl rfl ?_)
        go_ret2
        exact ⟨by rw [He1.out, He2.out]; rfl, hb⟩

theorem DecodeHex_i (l : List UInt8) (hl : l.length ≤ 1048576) (w : World) : Calls Try.prog 35 #[.string ⟨l.toArray⟩] w (RetB (.tuple #[.string ⟨(decHexS l).toArray⟩, .bool (decHexB l)]) w) := by
  by_cases hodd : l.length % 2 = 1
  · have e := decHex_odd (l.length / 2) l (by omega)
    have e1 : decHexS l = [] := by unfold decHexS; rw [e]; rfl
    have e2 : decHexB l = false := by unfold decHexB; rw [e]; rfl
    have d0 : ((l.length : Int) % 2 != 0) = true := by rw [bne_iff_ne]; omega
    rw [e1, e2]
    clear e e1 e2 hodd
    go_enter Try.func35, Try.ntmps35
    go_wp2_with fail
    go_ret2
    exact ⟨rfl, Below.refl _ _⟩
  · have d0 : ((l.length : Int) % 2 != 0) = false := by rw [bne_eq_false_iff_eq]; omega
    go_enter Try.func35, Try.ntmps35
    go_wp2_with fail
    clear d0
    go_loopw [4, 5] (fun v i wr => ∃ (j : Nat) (bs : List UInt8), j % 2 = 0 ∧ j ≤ l.length ∧ bs.length ≤ j ∧ i = .int .i64 j ∧ wr.ownsRow w.heap.size 5 1 v bs.length (bs.map byteV) ∧ (decHexL (l.drop j)).map (bs ++ ·) = decHexL l ∧ Below w.heap.size w wr) (fun _ i _ => l.length - (intOf i).toNat)
    case atStart => exact ⟨0, [], rfl, Nat.zero_le _, Nat.le_refl _, rfl, World.ownsRow_nil _ _ _ _, by simp, Below.refl _ _⟩
    case round =>
      obtain ⟨j, bs, hj2, hj, hbl, rfl, hown, hv, hb⟩ := hrel
      by_cases hlt : j < l.length
      · have hj1 : j + 1 < l.length := by omega
        have g0 : (j : Int) < (l.length : Int) := by omega
        have g1 : (j : Int) + 1 < (l.length : Int) := by omega
        have hbad := dec_bad hj1 hv
        have hgood := dec_good hj1 hv
        obtain ⟨a, ha⟩ : ∃ a, l[j] = a := ⟨_, rfl⟩
        obtain ⟨b, hb'⟩ : ∃ b, l[j + 1] = b := ⟨_, rfl⟩
        rw [ha, hb'] at hbad hgood
        have ba := hexV_bd a
        have bb := hexV_bd b
        have ea := hexValue_i' a
        have eb := hexValue_i' b
        generalize hexV a = x at *
        generalize hexV b = y at *
        have Hhv := Lib.hid hv; clear hv; have Hhbad := Lib.hid hbad; clear hbad; have Hhgood := Lib.hid hgood; clear hgood; have Hea := Lib.hid ea; clear ea; have Heb := Lib.hid eb; clear eb
        go_wp2_with fail
        have z1 : IntKind.i64.wrap ((j : Int) + 1) = (j : Int) + 1 := IntWalk.i64_in _ (by omega)
        have z2 : 0 ≤ (j : Int) + 1 := by omega
        have z3 : ((j : Int) + 1).toNat = j + 1 := by omega
        refine wp_region_below (by kernel_rfl) (by kernel_rfl) ?_; (repeat (quiet_step (first | with_reducible exact regR (Hea.out _) | with_reducible exact regR (Heb.out _)))); refine wpQuiet_nil ?_
        intro w1 hb1
        clear z1 z2 z3
        have hown1 := own_below hown hb1
        by_cases hx : x < 0
        · have e := Hhbad.out (.inl hx)
          have e1 : decHexS l = [] := by unfold decHexS; rw [e]; rfl
          have e2 : decHexB l = false := by unfold decHexB; rw [e]; rfl
          have He1 := Lib.hid e1; clear e1; have He2 := Lib.hid e2; clear e2
          clear e
          have d1 : decide (x < 0) = true := by rw [decide_eq_true_eq]; omega
          go_wp2_with fail
          go_ret2
          exact ⟨by rw [He1.out, He2.out]; rfl, below_tr hb hb1⟩
        · have d1 : decide (x < 0) = false := by rw [decide_eq_false_iff_not]; omega
          by_cases hy : y < 0
          · have e := Hhbad.out (.inr hy)
            have e1 : decHexS l = [] := by unfold decHexS; rw [e]; rfl
            have e2 : decHexB l = false := by unfold decHexB; rw [e]; rfl
            have He1 := Lib.hid e1; clear e1; have He2 := Lib.hid e2; clear e2
            clear e
            have d2 : decide (y < 0) = true := by rw [decide_eq_true_eq]; omega
            go_wp2_with fail
            go_ret2
            exact ⟨by rw [He1.out, He2.out]; rfl, below_tr hb hb1⟩
          · have d2 : decide (y < 0) = false := by rw [decide_eq_false_iff_not]; omega
            have hg := Hhgood.out (by omega)
            have Hhg := Lib.hid hg; clear hg
            go_wp2_with (at_builtin; go_must (refine wp_append_bytes rfl _ _ rfl w.heap.size _ _ _ rfl hown1 _ [UInt8.ofNat (16 * x + y).toNat] (by simp [byteV]; omega) _ _ rfl rfl (by simp; omega) (Nat.le_trans hb.size hb1.size) ?_; intro v2 w2 hown2 hb2))
            go_roundw
            case rel => exact ⟨j + 2, bs ++ [UInt8.ofNat (16 * x + y).toNat], by omega, by omega, by simp; omega, by go_num, by simpa using hown2, Hhg.out, (below_tr hb hb1).trans hb2⟩
            case measure => simp [intOf] <;> omega
      · obtain rfl : j = l.length := by omega
        rw [List.drop_length] at hv
        have e1 : decHexS l = bs := by unfold decHexS; rw [← hv]; simp [decHexL]
        have e2 : decHexB l = true := by unfold decHexB; rw [← hv]; rfl
        have He1 := Lib.hid e1; clear e1; have He2 := Lib.hid e2; clear e2
        clear hv
        go_wp2_with ((with_reducible show wpList _ _ _ _ _ _); refine wp_bytes_string hown rfl _ rfl rfl ?_)
        go_ret2
        exact ⟨by rw [He1.out, He2.out]; rfl, hb⟩
end Go.Proofs.Ythbliiimjkkemaa
