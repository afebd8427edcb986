/- The draws of the law on encoded rows. -/
import Derived.Test.YtbajnecahojcfaaDrawT
import Derived.Test.YtbajnecahojcfaaTextD
namespace Go.Proofs.Ytbajnecahojcfaa
open Go.RowKit Go.Sort
set_option maxHeartbeats 4000000
set_option maxRecDepth 100000
theorem DrawCompareRows_s (v : Value) (bs : List UInt8) (w : World) (hl : bs.length ≤ 1048576) (hv : SlB w.heap.size w v bs) : Calls Try.prog 40 #[v] w (fun e w' => ∃ (r1 : List Int) (A1 : Option Addr) (c1 : Nat) (r2 : List Int) (A2 : Option Addr) (c2 : Nat), e = .returned (.tuple #[.slice A1 r1.length c1, .slice A2 r2.length c2]) ∧ (r1.length ≤ 4 ∧ vrow r1 = true) ∧ (r2.length ≤ 4 ∧ vrow r2 = true) ∧ OwnI w' w.heap.size (.slice A1 r1.length c1) r1 ∧ OwnI w' w.heap.size (.slice A2 r2.length c2) r2 ∧ Below w.heap.size w w') := by
  go_enter Try.func40, Try.ntmps40
  go_wp2_with (first
    | (go_at_call 100; ((with_reducible refine (l1New_s _ bs _ hl hv).mono ?_); rintro e w1 ⟨g, rfl, hgw, hc, hb1⟩; (have hB := Lib.hid hb1; have hs := Lib.hid hb1.size; clear hb1)))
    | (go_at_call 102; ((with_reducible refine (l1Below_s g 4 (by omega) _ hc).mono ?_); rintro e w2 ⟨x, rfl, hx, hc2, hg2⟩; (have hx2 : 0 ≤ x ∧ x ≤ 1000 := (by omega); have hx4 : x ≤ 4 := (by omega); have hgl := hc.lt; have hB2 := Lib.hid (hB.out.trans (below_of_grown hg2 hgw hs.out)); have hs2 := Lib.hid (Nat.le_trans hs.out hg2.size); clear hx hg2)))
    | (go_at_call 101; ((with_reducible refine (l4Row_i g x 3 hx2 (by omega) _ hc2).mono ?_); rintro e w3 ⟨r1, A1, c1, rfl, hl1, hr1, own1, hc3, hg3⟩; (have hv1 := Lib.hid (vrow_of fun y hy => by have := hr1 y hy; omega); have own1a := Lib.hid own1; have hgl2 := hc2.lt; have hB3 := Lib.hid (hB2.out.trans (below_of_grown hg3 hgw hs2.out)); have hs3 := Lib.hid (Nat.le_trans hs2.out hg3.size); clear hr1 hg3 own1)))
    | (go_at_call 102; ((with_reducible refine (l1Below_s g 4 (by omega) _ hc3).mono ?_); rintro e w4 ⟨z, rfl, hz, hc4, hg4⟩; (have hz2 : 0 ≤ z ∧ z ≤ 1000 := (by omega); have hz4 : z ≤ 4 := (by omega); have own1b := Lib.hid (own_grown own1a.out hg4 hgl2); have hB4 := Lib.hid (hB3.out.trans (below_of_grown hg4 hgw hs3.out)); have hs4 := Lib.hid (Nat.le_trans hs3.out hg4.size); clear hz hg4)))
    | (go_at_call 101; ((with_reducible refine (l4Row_i g z 3 hz2 (by omega) _ hc4).mono ?_); rintro e w5 ⟨r2, A2, c2, rfl, hl2, hr2, own2, hc5, hg5⟩; (have hv2 := Lib.hid (vrow_of fun y hy => by have := hr2 y hy; omega); have own1c := Lib.hid (own_grown own1b.out hg5 hgl2); have own2a := Lib.hid own2; have hB5 := Lib.hid (hB4.out.trans (below_of_grown hg5 hgw hs4.out)); clear hr2 hg5 own2))))
  go_ret2
  exact ⟨r1, A1, c1, r2, A2, c2, rfl, ⟨by omega, hv1.out⟩, ⟨by omega, hv2.out⟩, own_mono own1c.out hs2.out, own_mono own2a.out hs4.out, hB5.out⟩
theorem DrawEncodeRow_s (v : Value) (bs : List UInt8) (w : World) (hl : bs.length ≤ 1048576) (hv : SlB w.heap.size w v bs) : Calls Try.prog 41 #[v] w (fun e w' => ∃ (r : List Int) (A : Option Addr) (c : Nat), e = .returned (.slice A r.length c) ∧ r.length ≤ 4 ∧ OwnI w' w.heap.size (.slice A r.length c) r ∧ Below w.heap.size w w') := by
  go_enter Try.func41, Try.ntmps41
  go_wp2_with (first
    | (go_at_call 100; ((with_reducible refine (l1New_s _ bs _ hl hv).mono ?_); rintro e w1 ⟨g, rfl, hgw, hc, hb1⟩; (have hB := Lib.hid hb1; have hs := Lib.hid hb1.size; clear hb1)))
    | (go_at_call 103; ((with_reducible refine (l4Any_s g _ hc).mono ?_); rintro e w2 ⟨r, A, c, rfl, hrl, hrb, own2, hc2, hg2⟩; (have hB2 := Lib.hid (hB.out.trans (below_of_grown hg2 hgw hs.out)); have own2a := Lib.hid (own_mono own2 hs.out); clear hrb hg2 own2))))
  go_ret
  exact ⟨r, A, c, rfl, hrl, own2a.out, hB2.out⟩
theorem encRow_len (r : List Int) : (encRow r).length ≤ r.length := by
  cases h : vrow r with
  | true => rw [encRow_yes h, encL_len]; exact Nat.le_refl _
  | false => rw [encRow_no h]; exact Nat.zero_le _
theorem DrawDecodeRow_s (v : Value) (bs : List UInt8) (w : World) (hl : bs.length ≤ 1048576) (hv : SlB w.heap.size w v bs) : Calls Try.prog 42 #[v] w (fun e w' => ∃ (l : List UInt8) (n : Int), e = .returned (.tuple #[.string ⟨l.toArray⟩, .int .i64 n]) ∧ l.length ≤ 4 ∧ (-1 ≤ n ∧ n ≤ 4) ∧ Below w.heap.size w w') := by
  go_enter Try.func42, Try.ntmps42
  go_wp2_with (first
    | (go_at_call 100; ((with_reducible refine (l1New_s _ bs _ hl hv).mono ?_); rintro e w1 ⟨g, rfl, hgw, hc, hb1⟩; (have hB := Lib.hid hb1; clear hb1)))
    | (go_at_call 103; ((with_reducible refine (l4Any_s g _ hc).mono ?_); rintro e w2 ⟨r, A, c, rfl, hrl, hrb, own2, hc2, hg2⟩; (replace hB := Lib.hid (hB.out.trans (below_of_grown hg2 hgw hB.out.size)); replace hc := hc2; have hrow := Lib.hid (OwnI.row own2); have henc := encRow_len r; obtain ⟨l, hle⟩ : ∃ l, encRow r = l := ⟨_, rfl⟩; have hll : l.length ≤ 4 := (by rw [← hle]; omega); have k1 := Lib.hid (fun W h => hle ▸ EncodeRow_s (.slice A r.length c) r (by omega) W h); have Hle := Lib.hid hle; clear hrb hg2 own2 hc2 hle henc)))
    | (go_at_call 33; ((with_reducible refine (k1.out _ hrow.out).mono ?_); rintro e w3 ⟨rfl, hb3⟩; (replace hB := Lib.hid (hB.out.trans (hb3.mono hB.out.size)); replace hc := hc.below hb3; clear hb3)))
    | (go_at_call 104; ((with_reducible refine (l1Once_s g 4 (by omega) _ hc).mono ?_); rintro e w4 ⟨b4, rfl, hc4, hg4⟩; (replace hB := Lib.hid (hB.out.trans (below_of_grown hg4 hgw hB.out.size)); replace hc := hc4; clear hg4 hc4)))
    | (go_at_call 105; ((with_reducible refine (l1Text_s g 4 (by omega) _ hc).mono ?_); rintro e w5 ⟨l5, rfl, hl5, hc5, hg5⟩; (replace hB := Lib.hid (hB.out.trans (below_of_grown hg5 hgw hB.out.size)); replace hc := hc5; clear hg5 hc5)))
    | (go_at_call 104; ((with_reducible refine (l1Once_s g 5 (by omega) _ hc).mono ?_); rintro e w6 ⟨b6, rfl, hc6, hg6⟩; (replace hB := Lib.hid (hB.out.trans (below_of_grown hg6 hgw hB.out.size)); replace hc := hc6; clear hg6 hc6)))
    | (go_at_call 102; ((with_reducible refine (l1Below_s g 5 (by omega) _ hc).mono ?_); rintro e w7 ⟨x, rfl, hx, hc7, hg7⟩; (replace hB := Lib.hid (hB.out.trans (below_of_grown hg7 hgw hB.out.size)); have hx4 : 0 ≤ x ∧ x ≤ 4 := (by omega); clear hg7 hx))))
  all_goals
    go_ret2
    exact ⟨_, _, rfl, by omega, by omega, hB.out⟩
end Go.Proofs.Ytbajnecahojcfaa
