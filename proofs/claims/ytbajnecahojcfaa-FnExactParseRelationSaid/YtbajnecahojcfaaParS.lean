/- ParseRelation, the reference's. -/
import Derived.Test.YtbajnecahojcfaaParI
namespace Go.Proofs.Ytbajnecahojcfaa
open Go.RowKit Go.Sort
set_option maxHeartbeats 4000000
set_option maxRecDepth 100000
theorem strs_own {w : World} {B : Nat} {v : Value} {L : List (List UInt8)} (h : w.ownsRow B 9 1 v L.length (L.map strV)) : ∃ A c, v = .slice A L.length c := by
  obtain ⟨A, c, e, -⟩ := VRow.str (VRow.own h)
  exact ⟨A, c, e⟩
def RetS (L : List (List UInt8)) (w : World) (e : Ending) (w' : World) : Prop := ∃ A c, e = .returned (.slice A L.length c) ∧ w'.ownsRow w.heap.size 9 1 (.slice A L.length c) L.length (L.map strV) ∧ Below w.heap.size w w'
theorem retS_of {L : List (List UInt8)} {w w' : World} {v : Value} {e : Ending} (he : e = .returned v) (h : w'.ownsRow w.heap.size 9 1 v L.length (L.map strV)) (hb : Below w.heap.size w w') : RetS L w e w' := by
  obtain ⟨A, c, rfl⟩ := strs_own h
  exact ⟨A, c, he, h, hb⟩
theorem l5Cut_s (l : List UInt8) (c : UInt8) (hl : l.length ≤ 1048576) (w : World) : Calls Try.prog 106 #[.string ⟨l.toArray⟩, .int .u8 (c.toNat : Int)] w (RetS (splitL c l) w) := by
  go_enter Try.func106, Try.ntmps106
  go_wp2_with fail
  go_loopw [5, 6, 7] (fun v f i wr => ∃ (k fr : Nat) (pre : List (List UInt8)), i = .int .i64 k ∧ f = .int .i64 fr ∧ wr.ownsRow w.heap.size 9 1 v pre.length (pre.map strV) ∧ Below w.heap.size w wr ∧ k ≤ l.length ∧ pre.length ≤ k ∧ fr ≤ k ∧ splitL c l = pre ++ spl c ((l.drop fr).take (k - fr)) (l.drop k)) (fun _ _ i _ => l.length - (intOf i).toNat)
  case atStart => exact ⟨0, 0, [], rfl, rfl, World.ownsRow_lit w #[] 0 (Nat.le_refl _) (by decide) rfl, (Below.refl _ _).alloc (Nat.le_refl _) _, by omega, by simp, by omega, by simp [splitL]⟩
  case round =>
    obtain ⟨k, fr, pre, rfl, rfl, hown, hb, hk, hpl, hfk, hs⟩ := hrel
    by_cases h3 : k < l.length
    · have g3 : (k : Int) < (l.length : Int) := by omega
      by_cases hc : l[k] = c
      · have hx := split_step hs hfk h3 hc
        have d1 : ((l[k].toNat : Int) == (c.toNat : Int)) = true := by rw [beq_iff_eq, hc]
        have d2 : (l[k].toNat == c.toNat) = true := by rw [beq_iff_eq, hc]
        have Hhs := Lib.hid hs; clear hs; have Hhx := Lib.hid hx; clear hx; have Hhc := Lib.hid hc; clear hc
        go_wp2_with ((at_builtin; go_must (refine wp_append_one strT rfl _ _ rfl w.heap.size _ pre.length (pre.map strV) rfl hown _ rfl rfl (by omega) hb.size ?_; intro v2 w2 hown2 hgr2 hb2)))
        go_roundw
        case rel => exact ⟨k + 1, k + 1, pre ++ [(l.drop fr).take (k - fr)], by go_num, by go_num, by rw [List.map_append, List.length_append]; exact hown2, hb.trans hb2, by omega, by simp; omega, by omega, Hhx.out⟩
        case measure => simp [intOf] <;> omega
      · have hx := split_skip hs hfk h3 hc
        have d1 : ((l[k].toNat : Int) == (c.toNat : Int)) = false := by rw [beq_eq_false_iff_ne]; intro h; exact hc (UInt8.toNat_inj.1 (by omega))
        have d2 : (l[k].toNat == c.toNat) = false := by rw [beq_eq_false_iff_ne]; intro h; exact hc (UInt8.toNat_inj.1 h)
        have Hhs := Lib.hid hs; clear hs; have Hhx := Lib.hid hx; clear hx; have Hhc := Lib.hid hc; clear hc
        go_wp2_with fail
        go_roundw
        case rel => exact ⟨k + 1, fr, pre, by go_num, rfl, hown, hb, by omega, by omega, by omega, Hhx.out⟩
        case measure => simp [intOf] <;> omega
    · obtain rfl : k = l.length := by omega
      have g3 : ¬ (l.length : Int) < (l.length : Int) := by omega
      have hx := split_end hs
      have Hhs := Lib.hid hs; clear hs; have Hhx := Lib.hid hx; clear hx
      go_wp2_with ((at_builtin; go_must (refine wp_append_one strT rfl _ _ rfl w.heap.size _ pre.length (pre.map strV) rfl hown _ rfl rfl (by omega) hb.size ?_; intro v2 w2 hown2 hgr2 hb2)))
      go_ret
      exact retS_of rfl (by rw [Hhx.out, List.map_append, List.length_append]; exact hown2) (hb.trans hb2)
def Fact.strs (B : Nat) (L : List (List UInt8)) : Fact :=
  ⟨fun v w => ∃ A c, v = .slice A L.length c ∧ w.ownsRow B 9 1 (.slice A L.length c) L.length (L.map strV), fun _ _ _ ⟨A, c, h1, h2⟩ hb => ⟨A, c, h1, own_below h2 hb⟩⟩
theorem wordS_long {x : List UInt8} (h : 2 < x.length) : wordS x = (splitL 44 (innerT x)).map parseV := by unfold wordS; rw [if_pos h]
theorem wordS_short {x : List UInt8} (h : ¬ 2 < x.length) : wordS x = [] := by unfold wordS; rw [if_neg h]
theorem ints_strs {w w' : World} {B B2 n k : Nat} {v u : Value} {xs ys : List Value} (ho : w.ownsRow B 3 1 v n xs) (hg : w.grownBy w' v.ownBlock) (hu : w.ownsRow B2 9 1 u k ys) : w'.ownsRow B2 9 1 u k ys := own_grown_ne hu hg fun g h1 h2 => own_ne_block ho hu (by decide) h2 h1
theorem segM_low {w w' : World} {lo hi : Nat} {v : Value} {m : List (List Int)} (h : SegM w lo hi v m) (hb : Below hi w w') : SegM w' lo hi v m := by
  have keep : ∀ {e n size xs u}, w.ownsRow lo e size u n xs → (∀ g, u.ownBlock = some g → g < hi) → w'.ownsRow lo e size u n xs := fun {e n size xs u} h hl => by
    obtain ⟨h1, h2⟩ := h
    refine ⟨h1, ?_⟩
    rcases h2 with h2 | ⟨g, cap, cur, hv, hg, hh, r⟩
    · exact .inl h2
    · exact .inr ⟨g, cap, cur, hv, hg, blockL hb (hl g (by rw [hv]; rfl)) hh, r⟩
  obtain ⟨ps, h1, h2, h3, h4⟩ := h
  exact ⟨ps, h1, keep h2 h3, h3, fun p hp => ⟨keep (h4.1 p hp).1 (h4.1 p hp).2, (h4.1 p hp).2⟩, h4.2⟩
end Go.Proofs.Ytbajnecahojcfaa
