/- The draws of the encodings, told by the code alone. -/
import Derived.Test.YthbliiimjkkemaaDrawX
namespace Go.Proofs.Ythbliiimjkkemaa
open Go.RowKit Go.Sort
set_option maxHeartbeats 4000000
set_option maxRecDepth 100000
theorem DrawEncodeVarint_f (bs : List UInt8) (hl : bs.length ≤ 1048576) : ∃ x : Int, (-9223372036854775808 ≤ x ∧ x ≤ 9223372036854775807) ∧ ∀ v w, SlB w.heap.size w v bs → Calls Try.prog 39 #[v] w (RetB (.int .i64 x) w) := by
  obtain ⟨s0, k0⟩ := l1New_f bs hl
  obtain ⟨x, s1, hx, k1⟩ := l1Num_f s0
  refine ⟨x, hx, fun v w hv => ?_⟩
  clear hx hl
  have Hhv := Lib.hid hv; clear hv; have Hk0 := Lib.hid k0; clear k0; have Hk1 := Lib.hid k1; clear k1
  go_enter Try.func39, Try.ntmps39
  go_wp2_with (first
    | (go_at_call 48; ((with_reducible refine (Hk0.out v _ Hhv.out).mono ?_); rintro e w1 ⟨g, rfl, hgw, hc, hb⟩))
    | (go_at_call 49; ((with_reducible refine (Hk1.out g _ hc).mono ?_); rintro e w2 ⟨rfl, hc2, hg2⟩)))
  go_ret
  exact ⟨rfl, hb.trans (below_of_grown hg2 hgw hb.size)⟩
theorem DrawEncodeHex_f (bs : List UInt8) (hl : bs.length ≤ 1048576) : ∃ l : List UInt8, l.length ≤ 40 ∧ ∀ v w, SlB w.heap.size w v bs → Calls Try.prog 40 #[v] w (RetB (.string ⟨l.toArray⟩) w) := by
  obtain ⟨s0, k0⟩ := l1New_f bs hl
  obtain ⟨l, s1, hx, k1⟩ := l1Text_f 40 (by omega) s0
  refine ⟨l, by omega, fun v w hv => ?_⟩
  clear hx hl
  have Hhv := Lib.hid hv; clear hv; have Hk0 := Lib.hid k0; clear k0; have Hk1 := Lib.hid k1; clear k1
  go_enter Try.func40, Try.ntmps40
  go_wp2_with (first
    | (go_at_call 48; ((with_reducible refine (Hk0.out v _ Hhv.out).mono ?_); rintro e w1 ⟨g, rfl, hgw, hc, hb⟩))
    | (go_at_call 50; ((with_reducible refine (Hk1.out g _ hc).mono ?_); rintro e w2 ⟨rfl, hc2, hg2⟩)))
  go_ret
  exact ⟨rfl, hb.trans (below_of_grown hg2 hgw hb.size)⟩
theorem DrawDecodeVarint_f (bs : List UInt8) (hl : bs.length ≤ 1048576) : ∃ l : List UInt8, l.length ≤ 1000 ∧ ∀ v w, SlB w.heap.size w v bs → Calls Try.prog 41 #[v] w (RetB (.string ⟨l.toArray⟩) w) := by
  obtain ⟨s0, k0⟩ := l1New_f bs hl
  obtain ⟨x, s1, hx, k1⟩ := l1Num_f s0
  obtain ⟨l, s2, hl2, k2⟩ := l1Text_f 4 (by omega) s1
  obtain ⟨b, s3, k3⟩ := l1Once_f 4 (by omega) s2
  have hE : (encVarint x).length ≤ 7 := by
    unfold encVarint
    split
    · simp
    · exact varint_len7 (by omega)
  have kE := fun W => EncodeVarint_s x W
  generalize encVarint x = E at *
  have hlen : (E ++ l).length ≤ 11 := by rw [List.length_append]; omega
  have hsum : E.length + l.length ≤ 11 := by omega
  clear hx hl hl2 hE
  cases b with
  | false =>
    refine ⟨E ++ l, by omega, fun v w hv => ?_⟩
    clear hlen
    have Hhv := Lib.hid hv; clear hv; have Hk0 := Lib.hid k0; clear k0; have Hk1 := Lib.hid k1; clear k1; have Hk2 := Lib.hid k2; clear k2; have Hk3 := Lib.hid k3; clear k3; have HkE := Lib.hid kE; clear kE
    go_enter Try.func41, Try.ntmps41
    go_wp2_with (first
      | (go_at_call 48; ((with_reducible refine (Hk0.out v _ Hhv.out).mono ?_); rintro e w1 ⟨g, rfl, hgw, hc, hb⟩))
      | (go_at_call 49; ((with_reducible refine (Hk1.out g _ hc).mono ?_); rintro e w2 ⟨rfl, hc2, hg2⟩; (have hb2 := hb.trans (below_of_grown hg2 hgw hb.size))))
      | (go_at_call 26; ((with_reducible refine (HkE.out _).mono ?_); rintro e w3 ⟨rfl, hb3⟩; (have hc3 := hc2.below hb3; have hb4 := below_tr hb2 hb3)))
      | (go_at_call 50; ((with_reducible refine (Hk2.out g _ hc3).mono ?_); rintro e w4 ⟨rfl, hc4, hg4⟩; (have hb5 := hb4.trans (below_of_grown hg4 hgw hb4.size))))
      | (go_at_call 51; ((with_reducible refine (Hk3.out g _ hc4).mono ?_); rintro e w5 ⟨rfl, hc5, hg5⟩; (have hb6 := hb5.trans (below_of_grown hg5 hgw hb5.size)))))
    go_ret
    exact ⟨ret_ba (by rw [bytes_app]), hb6⟩
  | true =>
    obtain ⟨r, s4, hr, k4⟩ := l1Spoil_f (E ++ l) (by omega) s3
    refine ⟨r, by omega, fun v w hv => ?_⟩
    clear hlen hr
    have Hhv := Lib.hid hv; clear hv; have Hk0 := Lib.hid k0; clear k0; have Hk1 := Lib.hid k1; clear k1; have Hk2 := Lib.hid k2; clear k2; have Hk3 := Lib.hid k3; clear k3; have Hk4 := Lib.hid k4; clear k4; have HkE := Lib.hid kE; clear kE
    go_enter Try.func41, Try.ntmps41
    go_wp2_with (first
      | (go_at_call 48; ((with_reducible refine (Hk0.out v _ Hhv.out).mono ?_); rintro e w1 ⟨g, rfl, hgw, hc, hb⟩))
      | (go_at_call 49; ((with_reducible refine (Hk1.out g _ hc).mono ?_); rintro e w2 ⟨rfl, hc2, hg2⟩; (have hb2 := hb.trans (below_of_grown hg2 hgw hb.size))))
      | (go_at_call 26; ((with_reducible refine (HkE.out _).mono ?_); rintro e w3 ⟨rfl, hb3⟩; (have hc3 := hc2.below hb3; have hb4 := below_tr hb2 hb3)))
      | (go_at_call 50; ((with_reducible refine (Hk2.out g _ hc3).mono ?_); rintro e w4 ⟨rfl, hc4, hg4⟩; (have hb5 := hb4.trans (below_of_grown hg4 hgw hb4.size))))
      | (go_at_call 51; ((with_reducible refine (Hk3.out g _ hc4).mono ?_); rintro e w5 ⟨rfl, hc5, hg5⟩; (have hb6 := hb5.trans (below_of_grown hg5 hgw hb5.size))))
      | (rw [ByteArray.mk_append_mk]; (go_at_call 52; ((with_reducible refine (Hk4.out g _ hc5).mono ?_); rintro e w6 ⟨rfl, hc6, hg6⟩; (have hb7 := hb6.trans (below_of_grown hg6 hgw hb6.size)))))
      | (go_at_call 52; ((with_reducible refine (Hk4.out g _ hc5).mono ?_); rintro e w6 ⟨rfl, hc6, hg6⟩; (have hb7 := hb6.trans (below_of_grown hg6 hgw hb6.size)))))
    go_ret
    exact ⟨rfl, hb7⟩
end Go.Proofs.Ythbliiimjkkemaa
