/- The draw of a text. -/
import Derived.Test.YtbajnecahojcfaaDraw
import Derived.Test.YtbajnecahojcfaaDrawG
namespace Go.Proofs.Ytbajnecahojcfaa
open Go.RowKit Go.Sort
set_option maxHeartbeats 4000000
set_option maxRecDepth 100000
theorem byteV_of {z : Int} (h : 0 ≤ z ∧ z ≤ 255) : Value.int .u8 z = byteV (UInt8.ofNat z.toNat) := by
  unfold byteV
  rw [UInt8.toNat_ofNat', Nat.mod_eq_of_lt (by omega)]
  congr 1
  omega
theorem l1Text_s (g : Nat) (most : Int) (hm : 0 ≤ most ∧ most ≤ 1000) (w : World) (hc : Cur w g) : Calls Try.prog 105 #[.pointer (some ⟨g, 0, none⟩), .int .i64 most] w (fun e w' => ∃ l : List UInt8, e = .returned (.string ⟨l.toArray⟩) ∧ (l.length : Int) ≤ most ∧ Cur w' g ∧ w.grownBy w' (some g)) := by
  have hlt := hc.lt
  have hG := World.grownBy_alloc w (.cells #[] 5) (some g)
  replace hc := hc.below ((Below.refl _ _).alloc (Nat.le_refl _) (.cells #[] 5))
  have hown : (w.alloc (.cells #[] 5)).ownsRow w.heap.size 5 1 (.slice (some ⟨w.heap.size, 0, none⟩) 0 0) 0 (([] : List UInt8).map byteV) := World.ownsRow_lit w #[] 0 (Nat.le_refl _) (by decide) rfl
  obtain ⟨hm0, hm1⟩ := hm
  have Hhc := Lib.hid hc; clear hc; have HhG := Lib.hid hG; clear hG; have Hhown := Lib.hid hown; clear hown
  go_enter Try.func105, Try.ntmps105
  go_wp2_with (first
    | (go_at_call 102; ((with_reducible refine (l1Below_s g 4 (by omega) _ Hhc.out).mono ?_); rintro e w1 ⟨st, rfl, hst, hc1, hg1⟩; (have hG1 := Lib.hid (grown_trans HhG.out hg1); have own1 := Lib.hid (ownR_grown Hhown.out hg1 hlt); clear hst hg1)))
    | (go_at_call 102; ((with_reducible refine (l1Below_s g (most + 1) (by omega) _ hc1).mono ?_); rintro e w2 ⟨x, rfl, hx, hc2, hg2⟩; (have hx5 : 0 ≤ x ∧ x ≤ most := (by omega); have hG2 := Lib.hid (grown_trans hG1.out hg2); have own2 := Lib.hid (ownR_grown own1.out hg2 hlt); clear hx hg2))))
  go_loopw [5, 7] (fun v n wr => ∃ (D : List UInt8) (z : Int), n = .int .i64 z ∧ 0 ≤ z ∧ (D.length : Int) + z ≤ most ∧ wr.ownsRow w.heap.size 5 1 v D.length (D.map byteV) ∧ Cur wr g ∧ w.grownBy wr (some g)) (fun _ n _ => (intOf n).toNat)
  case atStart => exact ⟨[], x, rfl, hx5.1, by simp; omega, own2.out, hc2, hG2.out⟩
  case round =>
    obtain ⟨D, z, rfl, hz, hDz, hown, hc, hG⟩ := hrel
    have hz100 : z ≤ 1000 := by omega
    by_cases hp : 0 < z
    · have Hhown := Lib.hid hown; clear hown; have HhG := Lib.hid hG; clear hG; have HhDz := Lib.hid hDz; clear hDz
      go_wp2_with (first
        | (go_at_call 145; ((with_reducible refine (l1Byte_s g _ hc).mono ?_); rintro e w3 ⟨y, rfl, hy, hc3, hg3⟩; (have own3 := ownR_grown Hhown.out hg3 hlt; have hG3 := grown_trans HhG.out hg3; have hs3 := hG3.size)))
        | (at_builtin; go_must ((first | (refine wp_append_bytes rfl _ _ rfl w.heap.size _ D.length D rfl own3 _ [UInt8.ofNat (y).toNat] (congrArg (fun t => [t]) (byteV_of (show 0 ≤ y ∧ y ≤ 255 by omega))) _ _ rfl rfl (by have := HhDz.out; simp; omega) hs3 ?_) | (refine wp_append_bytes rfl _ _ rfl w.heap.size _ D.length D rfl own3 _ [UInt8.ofNat (y % 2).toNat] (congrArg (fun t => [t]) (byteV_of (show 0 ≤ y % 2 ∧ y % 2 ≤ 255 by omega))) _ _ rfl rfl (by have := HhDz.out; simp; omega) hs3 ?_) | (refine wp_append_bytes rfl _ _ rfl w.heap.size _ D.length D rfl own3 _ [UInt8.ofNat (97 + y % 4).toNat] (congrArg (fun t => [t]) (byteV_of (show 0 ≤ 97 + y % 4 ∧ 97 + y % 4 ≤ 255 by omega))) _ _ rfl rfl (by have := HhDz.out; simp; omega) hs3 ?_)); intro v5 w5 own5 hb5)))
      all_goals
        go_roundw
        case rel => exact ⟨D ++ [_], z - 1, by go_num, by omega, by have := HhDz.out; simp; omega, by rw [List.length_append]; exact own5, Cur.low hc3 hb5 hlt, grown_low hG3 hb5 (Nat.le_refl _)⟩
        case measure => simp [intOf] <;> omega
    · have HhG := Lib.hid hG; clear hG; have HhDz := Lib.hid hDz; clear hDz
      go_wp2_with ((with_reducible show wpList _ _ _ _ _ _); refine wp_bytes_string hown rfl _ rfl rfl ?_)
      go_ret
      exact ⟨D, rfl, by have := HhDz.out; omega, hc, HhG.out⟩
end Go.Proofs.Ytbajnecahojcfaa
