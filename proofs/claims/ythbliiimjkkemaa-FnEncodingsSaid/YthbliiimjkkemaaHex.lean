/- EncodeHex, DecodeHex, both. -/
import Derived.Test.YthbliiimjkkemaaBase
import Derived.Test.YthbliiimjkkemaaQuiet
namespace Go.Proofs.Ythbliiimjkkemaa
open Go.RowKit Go.Sort
set_option maxHeartbeats 400000
set_option maxRecDepth 100000

def hexList : List UInt8 := [48, 49, 50, 51, 52, 53, 54, 55, 56, 57, 97, 98, 99, 100, 101, 102]
def hexd (k : Nat) : UInt8 := hexList.getD k 0
theorem hexList_get (n : Nat) (h : n < hexList.length) : hexList[n] = hexd n := by simp [hexd, h]
def encHex (l : List UInt8) : List UInt8 := l.flatMap fun b => [hexd (b.toNat / 16), hexd (b.toNat % 16)]

theorem encHex_cons (b : UInt8) (l : List UInt8) : encHex (b :: l) = hexd (b.toNat / 16) :: hexd (b.toNat % 16) :: encHex l := rfl
theorem encHex_step {l bs : List UInt8} {k : Nat} (h : bs ++ encHex (l.drop k) = encHex l) (hlt : k < l.length) {b : UInt8} (hb : l[k] = b) :
    (bs ++ [hexd ((b.toNat : Int) / 16).toNat, hexd ((b.toNat : Int) % 16).toNat]) ++ encHex (l.drop (k + 1)) = encHex l := by
  rw [← h, List.drop_eq_getElem_cons hlt, hb, encHex_cons, show ((b.toNat : Int) / 16).toNat = b.toNat / 16 by omega, show ((b.toNat : Int) % 16).toNat = b.toNat % 16 by omega, List.append_assoc]
  rfl
theorem encHex_len (l : List UInt8) : (encHex l).length = 2 * l.length := by
  induction l with
  | nil => rfl
  | cons b l ih => rw [encHex_cons]; simp [ih]; omega

theorem l1Digit_s (k : Int) (h0 : 0 ≤ k) (h1 : k < 16) (w : World) : Calls Try.prog 44 #[.int .i64 k] w (Ret (.int .u8 ((hexd k.toNat).toNat : Int)) w) := by
  obtain ⟨n, rfl⟩ := Int.eq_ofNat_of_zero_le h0
  have hn : n < hexList.length := by show n < 16; omega
  have e : hexd n = hexList[n] := by simp [hexd, hn]
  rw [Int.toNat_natCast, e]
  go_enter Try.func44, Try.ntmps44
  go_wp2_with fail
  go_ret
  exact ⟨rfl, rfl⟩

theorem EncodeHex_s (l : List UInt8) (hl : l.length ≤ 1048576) (w : World) : Calls Try.prog 20 #[.string ⟨l.toArray⟩] w (RetB (.string ⟨(encHex l).toArray⟩) w) := by
  go_enter Try.func20, Try.ntmps20
  go_wp2_with fail
  go_loopw [3, 4] (fun v i wr => ∃ (k : Nat) (bs : List UInt8), k ≤ l.length ∧ i = .int .i64 k ∧ wr.ownsRow w.heap.size 5 1 v bs.length (bs.map byteV) ∧ bs ++ encHex (l.drop k) = encHex l ∧ Below w.heap.size w wr) (fun _ i _ => l.length - (intOf i).toNat)
  case atStart => 
    refine ⟨0, [], Nat.zero_le _, rfl, ?_, rfl, ?_⟩
    · exact World.ownsRow_lit _ _ 0 (Nat.le_refl _) (by decide) rfl
    · exact (Below.refl _ _).alloc (Nat.le_refl _) _
  case round =>
    obtain ⟨k, bs, hk, rfl, hown, hv, hb⟩ := hrel
    have hbl : bs.length ≤ 2097152 := by have := congrArg List.length hv; rw [List.length_append, encHex_len l] at this; omega
    have HV := Lib.hid hv
    clear hv
    by_cases hlt : k < l.length
    · have h0 : (k : Int) < (l.length : Int) := by omega
      obtain ⟨b, hbk⟩ : ∃ b, l[k] = b := ⟨_, rfl⟩
      have hb8 := b.toNat_lt
      have e1 : IntKind.i64.wrap ((b.toNat : Int) / 16) = (b.toNat : Int) / 16 := IntWalk.i64_in _ (by omega)
      have e3 : (b.toNat : Int).tmod 16 = (b.toNat : Int) % 16 := Int.tmod_eq_emod_of_nonneg (by omega)
      have e2 : IntKind.i64.wrap ((b.toNat : Int) % 16) = (b.toNat : Int) % 16 := IntWalk.i64_in _ (by omega)
      go_wp2_with fail
      refine wp_region_below_tail1 13 _ (by kernel_rfl) (by kernel_rfl) (by kernel_rfl) (by kernel_rfl) (fun _ _ _ h => h) rfl (by intro w'; go_simp; rfl) ?_
      simp only [List.take_succ_cons, List.take_zero, List.drop_succ_cons, List.drop_zero]
      repeat (quiet_step (first
        | with_reducible exact regR (l1Digit_s ((b.toNat : Int) / 16) (by omega) (by omega) _)
        | with_reducible exact regR (l1Digit_s ((b.toNat : Int) % 16) (by omega) (by omega) _)))
      refine wpQuiet_nil ?_
      intro w1 hb1
      have hown1 := own_below hown hb1
      go_wp2_with (first
        | (at_builtin; go_must (refine wp_append_bytes rfl _ _ rfl w.heap.size _ _ _ rfl hown1 _ [hexd ((b.toNat : Int) / 16).toNat, hexd ((b.toNat : Int) % 16).toNat] rfl _ _ rfl rfl (by simp; omega) (Nat.le_trans hb.size hb1.size) ?_; intro v2 w2 hown2 hb2)))
      go_roundw
      case rel => exact ⟨k + 1, bs ++ [hexd ((b.toNat : Int) / 16).toNat, hexd ((b.toNat : Int) % 16).toNat], by omega, by go_num, by simpa using hown2, encHex_step HV.out hlt hbk, (hb.trans (hb1.mono hb.size)).trans hb2⟩
      case measure => simp [intOf] <;> omega
    · go_wp2_with ((with_reducible show wpList _ _ _ _ _ _); refine wp_bytes_string hown rfl _ rfl rfl ?_)
      go_ret
      exact ⟨ret_str (by rw [← HV.out, List.drop_of_length_le (by omega)]; simp [encHex]), hb⟩

theorem EncodeHex_i (l : List UInt8) (hl : l.length ≤ 1048576) (w : World) : Calls Try.prog 21 #[.string ⟨l.toArray⟩] w (RetB (.string ⟨(encHex l).toArray⟩) w) := by
  go_enter Try.func21, Try.ntmps21
  go_wp2_with fail
  go_loopw [3, 4] (fun v i wr => ∃ (k : Nat) (bs : List UInt8), k ≤ l.length ∧ i = .int .i64 k ∧ wr.ownsRow w.heap.size 5 1 v bs.length (bs.map byteV) ∧ bs ++ encHex (l.drop k) = encHex l ∧ Below w.heap.size w wr) (fun _ i _ => l.length - (intOf i).toNat)
  case atStart => exact ⟨0, [], Nat.zero_le _, rfl, World.ownsRow_nil _ _ _ _, rfl, Below.refl _ _⟩
  case round =>
    obtain ⟨k, bs, hk, rfl, hown, hv, hb⟩ := hrel
    have hbl : bs.length ≤ 2097152 := by have := congrArg List.length hv; rw [List.length_append, encHex_len l] at this; omega
    have HV := Lib.hid hv
    clear hv
    by_cases hlt : k < l.length
    · have h0 : (k : Int) < (l.length : Int) := by omega
      obtain ⟨b, hbk⟩ : ∃ b, l[k] = b := ⟨_, rfl⟩
      have hb8 := b.toNat_lt
      have g0 := u8_mask15 b
      have g3 : 0 ≤ (b.toNat : Int) % 16 := by omega
      have g4 : (b.toNat : Int) % 16 < 16 := by omega
      have g1 : 0 ≤ (b.toNat : Int) / 16 := by omega
      have g2 : (b.toNat : Int) / 16 < 16 := by omega
      go_wp2_with fail
      refine wp_region_below_tail1 11 _ (by kernel_rfl) (by kernel_rfl) (by kernel_rfl) (by kernel_rfl) (fun _ _ _ h => h) rfl (by intro w'; go_simp; rfl) ?_
      simp only [List.take_succ_cons, List.take_zero, List.drop_succ_cons, List.drop_zero]
      repeat (quiet_step (fail))
      refine wpQuiet_nil ?_
      intro w1 hb1
      have hown1 := own_below hown hb1
      go_wp2_with (first
        | (at_builtin; go_must (refine wp_append_bytes rfl _ _ rfl w.heap.size _ _ _ rfl hown1 _ [hexList[((b.toNat : Int) / 16).toNat]'(by show _ < 16; omega), hexList[((b.toNat : Int) % 16).toNat]'(by show _ < 16; omega)] rfl _ _ rfl rfl (by simp; omega) (Nat.le_trans hb.size hb1.size) ?_; intro v2 w2 hown2 hb2)))
      rw [hexList_get, hexList_get] at hown2
      go_roundw
      case rel => exact ⟨k + 1, bs ++ [hexd ((b.toNat : Int) / 16).toNat, hexd ((b.toNat : Int) % 16).toNat], by omega, by go_num, by simpa using hown2, encHex_step HV.out hlt hbk, (hb.trans (hb1.mono hb.size)).trans hb2⟩
      case measure => simp [intOf] <;> omega
    · go_wp2_with ((with_reducible show wpList _ _ _ _ _ _); refine wp_bytes_string hown rfl _ rfl rfl ?_)
      go_ret
      exact ⟨ret_str (by rw [← HV.out, List.drop_of_length_le (by omega)]; simp [encHex]), hb⟩
end Go.Proofs.Ythbliiimjkkemaa
