/- The draws: what stays through them; a row drawn. -/
import Derived.Test.YtbajnecahojcfaaDrawG
import Derived.Test.YtbajnecahojcfaaCopy
import Derived.Test.YtbajnecahojcfaaRowE
import Derived.Deep.LoopGhost
import Derived.Deep.RegionLaw
namespace Go.Proofs.Ytbajnecahojcfaa
open Go.RowKit Go.Sort
set_option maxHeartbeats 4000000
set_option maxRecDepth 100000
theorem segM_draw {w w' : World} {lo hi g : Nat} {v : Value} {m : List (List Int)} (h : SegM w lo hi v m) (hg : w.grownBy w' (some g)) (hB : g < lo) : SegM w' lo hi v m := by
  obtain ⟨ps, h1, h2, h3, h4⟩ := h
  exact ⟨ps, h1, ownR_grown h2 hg hB, h3, fun p hp => ⟨ownR_grown (h4.1 p hp).1 hg hB, (h4.1 p hp).2⟩, h4.2⟩
theorem ownM_draw {w w' : World} {lo g : Nat} {v : Value} {m : List (List Int)} (h : OwnM w lo v m) (hg : w.grownBy w' (some g)) (hB : g < lo) : OwnM w' lo v m := SegM.wide (segM_draw h hg hB) (Nat.le_refl _) hg.size
def lenV : Value → Nat
  | .slice _ n _ => n
  | _ => 0
theorem lenV_slice (A : Option Addr) (n c : Nat) : lenV (.slice A n c) = n := rfl
theorem mem_snoc {r : List Int} {x : Int} {P : Int → Prop} (h : ∀ y ∈ r, P y) (hx : P x) : ∀ y ∈ r ++ [x], P y := fun y hy => by
  rcases List.mem_append.1 hy with hy | hy
  · exact h y hy
  · rw [List.mem_singleton.1 hy]; exact hx
theorem own_int_open {w : World} {B : Nat} {v : Value} {l : List Int} (h : OwnI w B v l) : ∃ A c, v = .slice A l.length c := by
  obtain ⟨A, c, e, -⟩ := IRow.open (OwnI.row h)
  exact ⟨A, c, e⟩
/-- A row that a draw hands back. -/
def RowD (n lo hi : Int) (g : Nat) (w : World) (e : Ending) (w' : World) : Prop := ∃ (r : List Int) (A : Option Addr) (c : Nat), e = .returned (.slice A r.length c) ∧ (r.length : Int) ≤ n ∧ (∀ x ∈ r, lo ≤ x ∧ x ≤ hi) ∧ OwnI w' w.heap.size (.slice A r.length c) r ∧ Cur w' g ∧ w.grownBy w' (some g)
theorem l4Row_s (g n most : Nat) (hn : n ≤ 1000) (hm : 1 ≤ most) (hm2 : most ≤ 1000) (w : World) (hc : Cur w g) : Calls Try.prog 101 #[.pointer (some ⟨g, 0, none⟩), .int .i64 (n : Int), .int .i64 (most : Int)] w (fun e w' => ∃ (r : List Int) (A : Option Addr) (c : Nat), e = .returned (.slice A r.length c) ∧ r.length = n ∧ (∀ x ∈ r, 0 ≤ x ∧ x < (most : Int)) ∧ OwnI w' w.heap.size (.slice A r.length c) r ∧ Cur w' g ∧ w.grownBy w' (some g)) := by
  have hlt := hc.lt
  have hG := World.grownBy_alloc w (.cells #[] 3) (some g)
  replace hc := hc.below ((Below.refl _ _).alloc (Nat.le_refl _) (.cells #[] 3))
  have hown : OwnI (w.alloc (.cells #[] 3)) w.heap.size (.slice (some ⟨w.heap.size, 0, none⟩) 0 0) [] := own_nil' w (Nat.le_refl _)
  have Hhc := Lib.hid hc; clear hc; have HhG := Lib.hid hG; clear hG; have Hhown := Lib.hid hown; clear hown
  go_enter Try.func101, Try.ntmps101
  go_wp2_with fail
  go_loopw [7] (fun v wr => ∃ (D : List Int) (A : Option Addr) (q : Nat), v = .slice A D.length q ∧ D.length ≤ n ∧ (∀ x ∈ D, 0 ≤ x ∧ x < (most : Int)) ∧ OwnI wr w.heap.size (.slice A D.length q) D ∧ Cur wr g ∧ w.grownBy wr (some g)) (fun v _ => n - lenV v)
  case atStart => exact ⟨[], some ⟨w.heap.size, 0, none⟩, 0, rfl, Nat.zero_le _, fun x hx => by simp at hx, Hhown.out, Hhc.out, HhG.out⟩
  case round =>
    obtain ⟨D, A, q, rfl, hD, hbd, hown, hc, hG⟩ := hrel
    by_cases hl : D.length < n
    · have g0 : (D.length : Int) < (n : Int) := by omega
      have hsz := hG.size
      have Hhbd := Lib.hid hbd; clear hbd; have Hhown := Lib.hid hown; clear hown; have HhG := Lib.hid hG; clear hG
      go_wp2_with (first
        | (go_at_call 102; ((with_reducible refine (l1Below_s g most (by omega) _ hc).mono ?_); rintro e w1 ⟨x, rfl, hx, hc1, hg1⟩; (have hown1 := own_grown Hhown.out hg1 hlt; have hG1 := grown_trans HhG.out hg1; have hs1 := hG1.size)))
        | (at_builtin; go_must (refine wp_append_one intT rfl _ _ rfl w.heap.size _ D.length (D.map intV) rfl hown1 _ rfl rfl (by omega) hs1 ?_; intro v3 w3 hown3 hgr3 hb3; replace hown3 := own_push hown3; obtain ⟨A3, q3, e3⟩ := own_int_open hown3; subst e3)))
      go_roundw
      case rel => exact ⟨D ++ [x], A3, q3, by rw [List.length_append]; rfl, by simp; omega, mem_snoc Hhbd.out (by omega), hown3, Cur.low hc1 hb3 hlt, grown_low hG1 hb3 (Nat.le_refl _)⟩
      case measure => simp [lenV] <;> omega
    · have hDn : D.length = n := by omega
      have g0 : ¬ (D.length : Int) < (n : Int) := by omega
      have Hhbd := Lib.hid hbd; clear hbd; have Hhown := Lib.hid hown; clear hown; have HhG := Lib.hid hG; clear hG; have HhDn := Lib.hid hDn; clear hDn
      go_wp2_with fail
      go_ret
      exact ⟨D, A, q, rfl, HhDn.out, Hhbd.out, Hhown.out, hc, HhG.out⟩
theorem l4Row_i (g : Nat) (n most : Int) (hn : 0 ≤ n ∧ n ≤ 1000) (hm : 1 ≤ most ∧ most ≤ 1000) (w : World) (hc : Cur w g) : Calls Try.prog 101 #[.pointer (some ⟨g, 0, none⟩), .int .i64 n, .int .i64 most] w (fun e w' => ∃ (r : List Int) (A : Option Addr) (c : Nat), e = .returned (.slice A r.length c) ∧ (r.length : Int) = n ∧ (∀ x ∈ r, 0 ≤ x ∧ x < most) ∧ OwnI w' w.heap.size (.slice A r.length c) r ∧ Cur w' g ∧ w.grownBy w' (some g)) := by
  obtain ⟨k, rfl⟩ := Int.eq_ofNat_of_zero_le hn.1
  obtain ⟨l, rfl⟩ := Int.eq_ofNat_of_zero_le (show 0 ≤ most by omega)
  refine (l4Row_s g k l (by omega) (by omega) (by omega) w hc).mono fun e w' ⟨r, A, c, h1, h2, h3⟩ => ⟨r, A, c, h1, by omega, h3⟩
end Go.Proofs.Ytbajnecahojcfaa
