/- Relations written as texts, both. -/
import Derived.Test.YtbajnecahojcfaaTextP
import Derived.Test.YtbajnecahojcfaaDecimal
import Derived.Test.YtbajnecahojcfaaRelV
namespace Go.Proofs.Ytbajnecahojcfaa
open Go.RowKit Go.Sort
set_option maxHeartbeats 2000000
set_option maxRecDepth 100000
theorem str_app3 (x y z : List UInt8) : Value.string (⟨x.toArray⟩ ++ ⟨y.toArray⟩ ++ ⟨z.toArray⟩) = .string ⟨(x ++ y ++ z).toArray⟩ := by rw [ByteArray.mk_append_mk, ByteArray.mk_append_mk]
/-- Slices of strings that can be read, laid open. -/
theorem VRow.str {w : World} {v : Value} {L : List (List UInt8)} (h : VRow w v (L.map strV)) : ∃ A c, v = .slice A L.length c ∧ ∀ i (_ : i < L.length), ∃ b off, A = some ⟨b, off, none⟩ ∧ ∀ j (hj : j < L.length), w.cell? ⟨b, off + j, none⟩ = some (strV L[j]) := by
  obtain ⟨A, c, h1, h2, h3, h4, h5⟩ := h
  refine ⟨A, c, by rw [h1, List.length_map], fun i hi => ?_⟩
  obtain ⟨b, off, rfl, h6⟩ := VRow.at h5 (by rw [List.length_map]; omega)
  exact ⟨b, off, rfl, fun j hj => h6 j _ (by simp [hj])⟩
theorem join_i (v : Value) (L : List (List UInt8)) (by_ : List UInt8) (hby : by_.length ≤ 1) (hL : L.length ≤ 1048576) (hx : ∀ x ∈ L, x.length ≤ 1048576) (w : World) (hv : VRow w v (L.map strV)) : Calls Try.prog 132 #[v, .string ⟨by_.toArray⟩] w (RetB (.string ⟨(joinL by_ L).toArray⟩) w) := by
  obtain ⟨A, c, rfl, hA⟩ := VRow.str hv
  clear hv
  have hlen : ∀ k, k ≤ L.length → (joinL by_ (L.take k)).length ≤ 1048576 * 1048577 := fun k hk => by
    have h1 := joinL_len by_ hby 1048576 (L.take k) fun x h => hx x (List.mem_of_mem_take h)
    have h2 : (L.take k).length * (1048576 + 1) ≤ 1048576 * 1048577 := Nat.mul_le_mul (by rw [List.length_take]; omega) (Nat.le_refl _)
    exact Nat.le_trans h1 h2
  have HhA := Lib.hid hA; clear hA; have Hhlen := Lib.hid hlen; clear hlen; have Hhx := Lib.hid hx; clear hx
  go_enter Try.func132, Try.ntmps132
  go_wp2_with fail
  go_loopw [5, 10] (fun s i wr => ∃ (k : Nat) (S : List UInt8), s = .string ⟨S.toArray⟩ ∧ i = .int .i64 k ∧ k ≤ L.length ∧ S = joinL by_ (L.take k) ∧ Below w.heap.size w wr) (fun _ i _ => L.length - (intOf i).toNat)
  case atStart => exact ⟨0, [], rfl, rfl, Nat.zero_le _, rfl, Below.refl _ _⟩
  case round =>
    obtain ⟨k, S, rfl, rfl, hk, hS, hb⟩ := hrel
    have hlS := Hhlen.out k hk
    rw [← hS] at hlS
    by_cases hlt : k < L.length
    · have g0 : (k : Int) < (L.length : Int) := by omega
      have hlx := Hhx.out L[k] (List.getElem_mem hlt)
      obtain ⟨b, off, rfl, h1⟩ := HhA.out k hlt
      have c1 := cellB hb (h1 k hlt)
      clear h1
      by_cases h0 : 0 < k
      · have g1 : (0 : Int) < (k : Int) := by omega
        have hn := joinL_take by_ hlt h0
        rw [← hS] at hn
        obtain ⟨x, hx⟩ : ∃ x, L[k] = x := ⟨_, rfl⟩
        rw [hx] at c1 hn hlx
        have HhS := Lib.hid hS; clear hS; have Hhn := Lib.hid hn; clear hn; have Hhx := Lib.hid hx; clear hx
        go_wp2_with fail
        go_roundw
        case rel => exact ⟨k + 1, _, str_app3 _ _ _, by go_num, by omega, Hhn.out.symm, hb⟩
        case measure => simp [intOf] <;> omega
      · obtain rfl : k = 0 := by omega
        rw [Nat.add_zero] at c1
        have hn := joinL_take0 by_ hlt
        have hS0 : S = [] := by rw [hS]; rfl
        subst hS0
        obtain ⟨x, hx⟩ : ∃ x, L[0] = x := ⟨_, rfl⟩
        rw [hx] at c1 hn hlx
        have HhS := Lib.hid hS; clear hS; have Hhn := Lib.hid hn; clear hn; have Hhx := Lib.hid hx; clear hx
        go_wp2_with fail
        go_roundw
        case rel => exact ⟨1, _, str_app _ _, by go_num, by omega, by rw [Hhn.out]; rfl, hb⟩
        case measure => simp [intOf] <;> omega
    · obtain rfl : k = L.length := by omega
      have g0 : ¬ (L.length : Int) < (L.length : Int) := by omega
      rw [List.take_length] at hS
      have HhS := Lib.hid hS; clear hS
      go_wp2_with fail
      go_ret
      exact ⟨by rw [HhS.out]; rfl, hb⟩
theorem formatList_i (v : Value) (r : List Int) (by_ : List UInt8) (hby : by_.length ≤ 1) (w : World) (hv : IRow w v r) (hr : vrow r = true) (hl : r.length ≤ 1048576) : Calls Try.prog 130 #[v, .string ⟨by_.toArray⟩] w (RetB (.string ⟨(joinL by_ (r.map fmtInt)).toArray⟩) w) := by
  obtain ⟨A, c, rfl, -, -, -, hA⟩ := IRow.open hv
  clear hv
  have hr2 := vrow_yes hr
  clear hr
  have hfl : ∀ x ∈ r.map fmtInt, x.length ≤ 1048576 := fun x hx => by
    obtain ⟨n, hn, rfl⟩ := List.mem_map.1 hx
    have h1 := hr2 n hn
    have := fmt_len n (by omega)
    omega
  have hrl : (r.map fmtInt).length ≤ 1048576 := by rw [List.length_map]; exact hl
  have HhA := Lib.hid hA; clear hA; have Hhr2 := Lib.hid hr2; clear hr2; have Hhfl := Lib.hid hfl; clear hfl; have Hhrl := Lib.hid hrl; clear hrl
  go_enter Try.func130, Try.ntmps130
  go_wp2_with fail
  go_loopw [5, 10] (fun o i wr => ∃ (k : Nat) (D : List (List UInt8)), i = .int .i64 k ∧ k ≤ r.length ∧ D = (r.take k).map fmtInt ∧ wr.ownsRow w.heap.size 9 1 o D.length (D.map strV) ∧ Below w.heap.size w wr) (fun _ i _ => r.length - (intOf i).toNat)
  case atStart => exact ⟨0, [], rfl, Nat.zero_le _, rfl, World.ownsRow_nil _ _ _ _, Below.refl _ _⟩
  case round =>
    obtain ⟨k, D, rfl, hk, hD, hown, hb⟩ := hrel
    have hDl : D.length = k := by rw [hD]; simp; omega
    by_cases hlt : k < r.length
    · have g0 : (k : Int) < (r.length : Int) := by omega
      obtain ⟨b, off, rfl, h1⟩ := HhA.out k hlt
      have c1 := cellB hb (h1 k hlt)
      clear h1
      have hx := Hhr2.out r[k] (List.getElem_mem hlt)
      have hn : D ++ [fmtInt r[k]] = (r.take (k + 1)).map fmtInt := by rw [List.take_succ_eq_append_getElem hlt, List.map_append, hD]; rfl
      obtain ⟨x, hxx⟩ : ∃ x, r[k] = x := ⟨_, rfl⟩
      rw [hxx] at c1 hx hn
      have k1 := fun W => FormatInt_i x (by omega) W
      have HhD := Lib.hid hD; clear hD; have Hhn := Lib.hid hn; clear hn; have Hhxx := Lib.hid hxx; clear hxx; have Hhx := Lib.hid hx; clear hx; have Hk1 := Lib.hid k1; clear k1; have Hhown := Lib.hid hown; clear hown
      go_wp2_with (first
        | (go_at_call 131; ((with_reducible refine (Hk1.out _).mono ?_); rintro e w1 ⟨rfl, hb1⟩; (have hown := own_below Hhown.out hb1; have hs1 := hb1.size)))
        | (at_builtin; go_must (refine wp_append_one strT rfl _ _ rfl w.heap.size _ D.length (D.map strV) rfl hown _ rfl rfl (by omega) (by have := hb.size; omega) ?_; intro v2 w2 hown2 hgr2 hb2)))
      go_roundw
      case rel => exact ⟨k + 1, D ++ [fmtInt x], by go_num, by omega, Hhn.out, by rw [List.map_append, List.length_append]; exact hown2, (hb.trans (hb1.mono hb.size)).trans hb2⟩
      case measure => simp [intOf] <;> omega
    · obtain rfl : k = r.length := by omega
      have g0 : ¬ (r.length : Int) < (r.length : Int) := by omega
      rw [List.take_length] at hD
      subst hD
      have hv2 := VRow.own hown
      have Hhown := Lib.hid hown; clear hown; have HhDl := Lib.hid hDl; clear hDl
      go_wp2_with (go_at_call 132; ((with_reducible refine (join_i _ _ _ hby Hhrl.out Hhfl.out _ hv2).mono ?_); rintro e w2 ⟨rfl, hb2⟩))
      go_ret
      exact ⟨rfl, hb.trans (hb2.mono hb.size)⟩

theorem rowTx_bd {r : List Int} (h : vrow r = true) (hl : r.length ≤ 5) : (rowTx r).length ≤ 112 := by
  unfold rowTx
  have h1 := joinL_len [44] (by decide) 21 (r.map fmtInt) fun x hx => by
    obtain ⟨n, hn, rfl⟩ := List.mem_map.1 hx
    have := vrow_yes h n hn
    exact fmt_len n (by omega)
  rw [List.length_map] at h1
  rw [List.length_append, List.length_append, List.length_singleton, List.length_singleton]
  omega
theorem rows_len {ar : Int} {m : List (List Int)} (h : relOk ar m = true) : ∀ x ∈ m.map rowTx, x.length ≤ 112 := fun x hx => by
  obtain ⟨r, hr, rfl⟩ := List.mem_map.1 hx
  obtain ⟨a1, a2, a3, a4⟩ := relOk_iff.1 h
  have := a3 r hr
  exact rowTx_bd this.2 (by omega)
theorem mem_take_map {α β : Type} {f : α → β} {l : List α} {k : Nat} {P : β → Prop} (h : ∀ x ∈ l.map f, P x) : ∀ x ∈ (l.take k).map f, P x := fun x hx => by
  obtain ⟨r, hr, rfl⟩ := List.mem_map.1 hx
  exact h _ (List.mem_map.2 ⟨r, List.mem_of_mem_take hr, rfl⟩)
theorem FormatRelation_i (v : Value) (ar : Int) (m : List (List Int)) (w : World) (hv : MRow w v m) : Calls Try.prog 73 #[.agg #[.int .i64 ar, v]] w (RetB (.string ⟨(fmtRel ar m).toArray⟩) w) := by
  have hv2 := hv.alloc (.cells #[.int .i64 ar, v] 44)
  have y0 := heap_alloc_new w (.cells #[.int .i64 ar, v] 44)
  have hB : Below w.heap.size w (w.alloc (.cells #[.int .i64 ar, v] 44)) := (Below.refl _ _).alloc (Nat.le_refl _) _
  have k1 := IsValidRelation_i _ ar m _ hv2
  obtain ⟨A, c, rfl, -, -, -, hA⟩ := MRow.open hv2
  clear hv hv2
  unfold fmtRel
  cases h1 : relOk ar m with
  | false =>
    rw [h1] at k1
    rw [if_neg (by decide)]
    have HhA := Lib.hid hA; clear hA; have Hk1 := Lib.hid k1; clear k1; have Hh1 := Lib.hid h1; clear h1; have HhB := Lib.hid hB; clear hB
    go_enter Try.func73, Try.ntmps73
    go_wp2_with (go_at_call 68; ((with_reducible refine (Hk1.out).mono ?_); rintro e w1 ⟨rfl, hb1⟩))
    go_ret
    exact ⟨rfl, below_tr HhB.out hb1⟩
  | true =>
    rw [h1] at k1
    rw [if_pos rfl]
    have hrl := rows_len h1
    obtain ⟨a1, a2, a3, a4⟩ := relOk_iff.1 h1
    have HhA := Lib.hid hA; clear hA; have Hk1 := Lib.hid k1; clear k1; have Hh1 := Lib.hid h1; clear h1; have HhB := Lib.hid hB; clear hB; have Hhrl := Lib.hid hrl; clear hrl; have Ha3 := Lib.hid a3; clear a3; have Ha4 := Lib.hid a4; clear a4
    go_enter Try.func73, Try.ntmps73
    go_wp2_with (go_at_call 68; ((with_reducible refine (Hk1.out).mono ?_); rintro e w1 ⟨rfl, hb1⟩; (have z0 := blockB hb1 y0; have t0 := cellAt z0 0; have t1 := cellAt z0 1)))
    clear t0 t1
    go_loopw [3, 12] (fun o i wr => ∃ (k : Nat) (D : List (List UInt8)), i = .int .i64 k ∧ k ≤ m.length ∧ D = (m.take k).map rowTx ∧ wr.ownsRow w1.heap.size 9 1 o D.length (D.map strV) ∧ Below w1.heap.size w1 wr) (fun _ i _ => m.length - (intOf i).toNat)
    case atStart => exact ⟨0, [], rfl, Nat.zero_le _, rfl, World.ownsRow_nil _ _ _ _, Below.refl _ _⟩
    case round =>
      obtain ⟨k, D, rfl, hk, hD, hown, hb⟩ := hrel
      have hDl : D.length = k := by rw [hD]; simp; omega
      by_cases hlt : k < m.length
      · have g0 : (k : Int) < (m.length : Int) := by omega
        obtain ⟨b, off, rfl, h3⟩ := HhA.out k hlt
        obtain ⟨A1, q1, c1, r1⟩ := h3 k hlt
        have hbb := hb1.trans (hb.mono hb1.size)
        replace r1 := r1.below hbb
        replace c1 := cellB hbb c1
        clear h3 hbb
        have hx := Ha3.out m[k] (List.getElem_mem hlt)
        have hn : D ++ [rowTx m[k]] = (m.take (k + 1)).map rowTx := by rw [List.take_succ_eq_append_getElem hlt, List.map_append, hD]; rfl
        obtain ⟨r, hr⟩ : ∃ r, m[k] = r := ⟨_, rfl⟩
        rw [hr] at c1 r1 hx hn
        have hrb := rowTx_bd hx.2 (by omega)
        have hjb : (joinL [44] (r.map fmtInt)).length ≤ 110 := by
          unfold rowTx at hrb
          rw [List.length_append, List.length_append, List.length_singleton, List.length_singleton] at hrb; omega
        have hl5 : r.length ≤ 1048576 := by omega
        have k2 := fun W h => formatList_i (.slice A1 r.length q1) r [44] (by decide) W h hx.2 hl5
        have ht : Value.string (⟨#[40]⟩ ++ ⟨(joinL [44] (r.map fmtInt)).toArray⟩ ++ ⟨#[41]⟩) = strV (rowTx r) := str_app3 [40] _ [41]
        generalize hJ : joinL [44] (r.map fmtInt) = J at *
        have HhD := Lib.hid hD; clear hD; have Hhn := Lib.hid hn; clear hn; have Hhr := Lib.hid hr; clear hr; have Hhx := Lib.hid hx; clear hx; have Hk2 := Lib.hid k2; clear k2; have Hhown := Lib.hid hown; clear hown; have Hr1 := Lib.hid r1; clear r1; have Hht := Lib.hid ht; clear ht; have HhJ := Lib.hid hJ; clear hJ; have Hhrb := Lib.hid hrb; clear hrb
        go_wp2_with (first
          | (go_at_call 130; ((with_reducible refine (Hk2.out _ Hr1.out).mono ?_); rintro e w2 ⟨rfl, hb2⟩; (have hown := own_below Hhown.out hb2; have hs2 := hb2.size)))
          | (at_builtin; go_must (refine wp_append_one strT rfl _ _ rfl w1.heap.size _ D.length (D.map strV) rfl hown _ rfl rfl (by omega) (by have := hb.size; omega) ?_; intro v3 w3 hown3 hgr3 hb3)))
        go_roundw
        case rel => exact ⟨k + 1, D ++ [rowTx r], by go_num, by omega, Hhn.out, by rw [List.map_append, List.length_append]; rw [Hht.out] at hown3; exact hown3, (hb.trans (hb2.mono hb.size)).trans hb3⟩
        case measure => simp [intOf] <;> omega
      · obtain rfl : k = m.length := by omega
        have g0 : ¬ (m.length : Int) < (m.length : Int) := by omega
        rw [List.take_length] at hD
        subst hD
        have z1 := blockB hb z0
        have t0 := cellAt z1 0
        have k2 := fun W => FormatInt_i ar (by omega) W
        have hjl := joinL_len [32] (by decide) 112 _ Hhrl.out
        rw [hDl] at hjl
        have hfl := fmt_len ar (by omega)
        have k3 := fun W v h => join_i v (m.map rowTx) [32] (by decide) (by rw [hDl]; omega) (fun x hx => by have := Hhrl.out x hx; omega) W h
        unfold relTx
        have ht := fun J => str_app3 (fmtInt ar) [58] J
        generalize hF : fmtInt ar = F at *
        generalize hJ : joinL [32] (m.map rowTx) = J at *
        have hown2 := hown
        have Hhown := Lib.hid hown; clear hown; have HhDl := Lib.hid hDl; clear hDl; have Hk2 := Lib.hid k2; clear k2; have Hk3 := Lib.hid k3; clear k3; have HhF := Lib.hid hF; clear hF; have HhJ := Lib.hid hJ; clear hJ; have Hht := Lib.hid ht; clear ht
        go_wp2_with (first
          | (go_at_call 131; ((with_reducible refine (Hk2.out _).mono ?_); rintro e w2 ⟨rfl, hb2⟩; (have hv4 := VRow.own (own_below hown2 hb2))))
          | (go_at_call 132; ((with_reducible refine (Hk3.out _ _ hv4).mono ?_); rintro e w3 ⟨rfl, hb3⟩)))
        go_ret
        have e : relTx ar m = F ++ [58] ++ J := by unfold relTx; rw [HhF.out, HhJ.out]
        exact ⟨by rw [e, ← Hht.out]; rfl, (below_tr HhB.out hb1).trans (((hb.trans (hb2.mono hb.size)).trans (hb3.mono (hb.trans (hb2.mono hb.size)).size)).mono (below_tr HhB.out hb1).size)⟩
theorem l5RowText_s (v : Value) (r : List Int) (w : World) (hv : IRow w v r) (hr : vrow r = true) (hl : r.length ≤ 5) : Calls Try.prog 129 #[v] w (RetB (.string ⟨(rowTx r).toArray⟩) w) := by
  obtain ⟨A, c, rfl, -, -, -, hA⟩ := IRow.open hv
  clear hv
  have hr2 := vrow_yes hr
  have hbd : ∀ k, (joinL [44] ((r.take k).map fmtInt)).length ≤ 110 := fun k => by
    have h1 := joinL_len [44] (by decide) 21 ((r.take k).map fmtInt) fun x hx => by
      obtain ⟨n, hn, rfl⟩ := List.mem_map.1 hx
      have := hr2 n (List.mem_of_mem_take hn)
      exact fmt_len n (by omega)
    rw [List.length_map, List.length_take] at h1
    omega
  clear hr
  have HhA := Lib.hid hA; clear hA; have Hhr2 := Lib.hid hr2; clear hr2; have Hhbd := Lib.hid hbd; clear hbd
  go_enter Try.func129, Try.ntmps129
  go_wp2_with fail
  go_loopw [3, 4] (fun s i wr => ∃ (k : Nat) (S : List UInt8), s = .string ⟨S.toArray⟩ ∧ i = .int .i64 k ∧ k ≤ r.length ∧ S = [40] ++ joinL [44] ((r.take k).map fmtInt) ∧ Below w.heap.size w wr) (fun _ i _ => r.length - (intOf i).toNat)
  case atStart => exact ⟨0, [40], rfl, rfl, Nat.zero_le _, rfl, Below.refl _ _⟩
  case round =>
    obtain ⟨k, S, rfl, rfl, hk, hS, hb⟩ := hrel
    have hSl : S.length ≤ 111 := by have := Hhbd.out k; rw [hS, List.length_append, List.length_singleton]; omega
    by_cases hlt : k < r.length
    · have g0 : (k : Int) < (r.length : Int) := by omega
      obtain ⟨b, off, rfl, h1⟩ := HhA.out k hlt
      have c1 := cellB hb (h1 k hlt)
      clear h1
      have hx := Hhr2.out r[k] (List.getElem_mem hlt)
      have hlm : k < (r.map fmtInt).length := by rw [List.length_map]; exact hlt
      have hgm : (r.map fmtInt)[k] = fmtInt r[k] := by rw [List.getElem_map]
      have hfl := fmt_len r[k] (by omega)
      by_cases h0 : 0 < k
      · have g1 : (0 : Int) < (k : Int) := by omega
        have hn := joinL_take [44] hlm h0
        rw [hgm, ← List.map_take, ← List.map_take] at hn
        have hn2 : S ++ [44] ++ fmtInt r[k] = [40] ++ joinL [44] ((r.take (k + 1)).map fmtInt) := by rw [hn, hS]; simp
        clear hn hgm
        obtain ⟨x, hxx⟩ : ∃ x, r[k] = x := ⟨_, rfl⟩
        rw [hxx] at c1 hx hn2 hfl
        have k1 := fun W => FormatInt_s x (by omega) W
        generalize fmtInt x = X at *
        have HhS := Lib.hid hS; clear hS; have Hhn2 := Lib.hid hn2; clear hn2; have Hhxx := Lib.hid hxx; clear hxx; have Hhx := Lib.hid hx; clear hx; have Hk1 := Lib.hid k1; clear k1
        go_wp2_with (go_at_call 128; ((with_reducible refine (Hk1.out _).mono ?_); rintro e w1 ⟨rfl, hb1⟩))
        go_roundw
        case rel => exact ⟨k + 1, _, str_app3 _ _ _, by go_num, by omega, Hhn2.out, hb.trans (hb1.mono hb.size)⟩
        case measure => simp [intOf] <;> omega
      · obtain rfl : k = 0 := by omega
        rw [Nat.add_zero] at c1
        have hn := joinL_take0 [44] hlm
        rw [hgm, ← List.map_take] at hn
        have hn2 : S ++ fmtInt r[0] = [40] ++ joinL [44] ((r.take 1).map fmtInt) := by rw [hn, hS]; rfl
        clear hn hgm
        obtain ⟨x, hxx⟩ : ∃ x, r[0] = x := ⟨_, rfl⟩
        rw [hxx] at c1 hx hn2 hfl
        have k1 := fun W => FormatInt_s x (by omega) W
        generalize fmtInt x = X at *
        have HhS := Lib.hid hS; clear hS; have Hhn2 := Lib.hid hn2; clear hn2; have Hhxx := Lib.hid hxx; clear hxx; have Hhx := Lib.hid hx; clear hx; have Hk1 := Lib.hid k1; clear k1
        go_wp2_with (go_at_call 128; ((with_reducible refine (Hk1.out _).mono ?_); rintro e w1 ⟨rfl, hb1⟩))
        go_roundw
        case rel => exact ⟨1, _, str_app _ _, by go_num, by omega, Hhn2.out, hb.trans (hb1.mono hb.size)⟩
        case measure => simp [intOf] <;> omega
    · obtain rfl : k = r.length := by omega
      have g0 : ¬ (r.length : Int) < (r.length : Int) := by omega
      rw [List.take_length] at hS
      have hn2 : rowTx r = S ++ [41] := by rw [hS]; rfl
      have HhS := Lib.hid hS; clear hS; have Hhn2 := Lib.hid hn2; clear hn2
      go_wp2_with fail
      go_ret
      exact ⟨by rw [Hhn2.out, ← str_app]; rfl, hb⟩
theorem FormatRelation_s (v : Value) (ar : Int) (m : List (List Int)) (w : World) (hv : MRow w v m) : Calls Try.prog 72 #[.agg #[.int .i64 ar, v]] w (RetB (.string ⟨(fmtRel ar m).toArray⟩) w) := by
  have hv2 := hv.alloc (.cells #[.int .i64 ar, v] 44)
  have y0 := heap_alloc_new w (.cells #[.int .i64 ar, v] 44)
  have hB : Below w.heap.size w (w.alloc (.cells #[.int .i64 ar, v] 44)) := (Below.refl _ _).alloc (Nat.le_refl _) _
  have k1 := IsValidRelation_s _ ar m _ hv2
  obtain ⟨A, c, rfl, -, -, -, hA⟩ := MRow.open hv2
  clear hv hv2
  unfold fmtRel
  cases h1 : relOk ar m with
  | false =>
    rw [h1] at k1
    rw [if_neg (by decide)]
    have HhA := Lib.hid hA; clear hA; have Hk1 := Lib.hid k1; clear k1; have Hh1 := Lib.hid h1; clear h1; have HhB := Lib.hid hB; clear hB
    go_enter Try.func72, Try.ntmps72
    go_wp2_with (go_at_call 67; ((with_reducible refine (Hk1.out).mono ?_); rintro e w1 ⟨rfl, hb1⟩))
    go_ret
    exact ⟨rfl, below_tr HhB.out hb1⟩
  | true =>
    rw [h1] at k1
    rw [if_pos rfl]
    have hrl := rows_len h1
    obtain ⟨a1, a2, a3, a4⟩ := relOk_iff.1 h1
    have k4 := fun W => FormatInt_s ar (by omega) W
    have hfl := fmt_len ar (by omega)
    unfold relTx
    have hbd : ∀ k, (joinL [32] ((m.take k).map rowTx)).length ≤ 452000 := fun k => by
      have h1 := joinL_len [32] (by decide) 112 ((m.take k).map rowTx) (mem_take_map hrl)
      rw [List.length_map, List.length_take] at h1
      omega
    generalize fmtInt ar = F at *
    have HhA := Lib.hid hA; clear hA; have Hk1 := Lib.hid k1; clear k1; have Hh1 := Lib.hid h1; clear h1; have HhB := Lib.hid hB; clear hB; have Hhrl := Lib.hid hrl; clear hrl; have Ha3 := Lib.hid a3; clear a3; have Ha4 := Lib.hid a4; clear a4; have Hk4 := Lib.hid k4; clear k4; have Hhbd := Lib.hid hbd; clear hbd
    go_enter Try.func72, Try.ntmps72
    go_wp2_with (first
      | (go_at_call 67; ((with_reducible refine (Hk1.out).mono ?_); rintro e w1 ⟨rfl, hb1⟩; (have z0 := blockB hb1 y0; have t0 := cellAt z0 0; have t1 := cellAt z0 1)))
      | (go_at_call 128; ((with_reducible refine (Hk4.out _).mono ?_); rintro e w2 ⟨rfl, hb2⟩; (have x0 := blockB hb2 z0))))
    clear t0 t1
    go_loopw [3, 4] (fun s i wr => ∃ (k : Nat) (S : List UInt8), s = .string ⟨S.toArray⟩ ∧ i = .int .i64 k ∧ k ≤ m.length ∧ S = F ++ [58] ++ joinL [32] ((m.take k).map rowTx) ∧ Below w2.heap.size w2 wr) (fun _ i _ => m.length - (intOf i).toNat)
    case atStart => exact ⟨0, F ++ [58], str_app _ _, rfl, Nat.zero_le _, by simp [joinL], Below.refl _ _⟩
    case round =>
      obtain ⟨k, S, rfl, rfl, hk, hS, hb⟩ := hrel
      have hSl : S.length ≤ 452022 := by have := Hhbd.out k; rw [hS, List.length_append, List.length_append, List.length_singleton]; omega
      have z1 := blockB hb x0
      have t1 := cellAt z1 1
      by_cases hlt : k < m.length
      · have g0 : (k : Int) < (m.length : Int) := by omega
        obtain ⟨b, off, rfl, h3⟩ := HhA.out k hlt
        obtain ⟨A1, q1, c1, r1⟩ := h3 k hlt
        have hbb := (below_tr hb1 hb2).trans (hb.mono (below_tr hb1 hb2).size)
        replace r1 := r1.below hbb
        replace c1 := cellB hbb c1
        clear h3 hbb
        have hx := Ha3.out m[k] (List.getElem_mem hlt)
        have hrb := rowTx_bd hx.2 (by omega)
        have hlm : k < (m.map rowTx).length := by rw [List.length_map]; exact hlt
        have hgm : (m.map rowTx)[k] = rowTx m[k] := by rw [List.getElem_map]
        by_cases h0 : 0 < k
        · have g1 : (0 : Int) < (k : Int) := by omega
          have hn := joinL_take [32] hlm h0
          rw [hgm, ← List.map_take, ← List.map_take] at hn
          have hn2 : S ++ [32] ++ rowTx m[k] = F ++ [58] ++ joinL [32] ((m.take (k + 1)).map rowTx) := by rw [hn, hS]; simp
          clear hn hgm
          obtain ⟨r, hr⟩ : ∃ r, m[k] = r := ⟨_, rfl⟩
          rw [hr] at c1 r1 hx hn2 hrb
          have k5 := fun W h => l5RowText_s (.slice A1 r.length q1) r W h hx.2 (by omega)
          generalize rowTx r = X at *
          have HhS := Lib.hid hS; clear hS; have Hhn2 := Lib.hid hn2; clear hn2; have Hhr := Lib.hid hr; clear hr; have Hhx := Lib.hid hx; clear hx; have Hk5 := Lib.hid k5; clear k5; have Hr1 := Lib.hid r1; clear r1
          go_wp2_with (go_at_call 129; ((with_reducible refine (Hk5.out _ Hr1.out).mono ?_); rintro e w3 ⟨rfl, hb3⟩))
          go_roundw
          case rel => exact ⟨k + 1, _, str_app3 _ _ _, by go_num, by omega, Hhn2.out, hb.trans (hb3.mono hb.size)⟩
          case measure => simp [intOf] <;> omega
        · obtain rfl : k = 0 := by omega
          rw [Nat.add_zero] at c1
          have hn := joinL_take0 [32] hlm
          rw [hgm, ← List.map_take] at hn
          have hn2 : S ++ rowTx m[0] = F ++ [58] ++ joinL [32] ((m.take 1).map rowTx) := by rw [hn, hS]; simp [joinL]
          clear hn hgm
          obtain ⟨r, hr⟩ : ∃ r, m[0] = r := ⟨_, rfl⟩
          rw [hr] at c1 r1 hx hn2 hrb
          have k5 := fun W h => l5RowText_s (.slice A1 r.length q1) r W h hx.2 (by omega)
          generalize rowTx r = X at *
          have HhS := Lib.hid hS; clear hS; have Hhn2 := Lib.hid hn2; clear hn2; have Hhr := Lib.hid hr; clear hr; have Hhx := Lib.hid hx; clear hx; have Hk5 := Lib.hid k5; clear k5; have Hr1 := Lib.hid r1; clear r1
          go_wp2_with (go_at_call 129; ((with_reducible refine (Hk5.out _ Hr1.out).mono ?_); rintro e w3 ⟨rfl, hb3⟩))
          go_roundw
          case rel => exact ⟨1, _, str_app _ _, by go_num, by omega, Hhn2.out, hb.trans (hb3.mono hb.size)⟩
          case measure => simp [intOf] <;> omega
      · obtain rfl : k = m.length := by omega
        have g0 : ¬ (m.length : Int) < (m.length : Int) := by omega
        rw [List.take_length] at hS
        have HhS := Lib.hid hS; clear hS
        go_wp2_with fail
        go_ret
        exact ⟨ret_str (by rw [HhS.out]; simp), (below_tr HhB.out (below_tr hb1 hb2)).trans (hb.mono (below_tr HhB.out (below_tr hb1 hb2)).size)⟩
end Go.Proofs.Ytbajnecahojcfaa
