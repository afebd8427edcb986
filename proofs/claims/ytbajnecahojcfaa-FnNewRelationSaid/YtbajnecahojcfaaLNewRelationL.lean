/- A relation does not depend on the order or repetition of the rows from which it is made. No condition. (Written by mkreldraws.py.) -/
import Derived.Test.YtbajnecahojcfaaRows
import Derived.Test.YtbajnecahojcfaaHead
import Derived.Test.YtbajnecahojcfaaOpen
import Derived.Test.YtbajnecahojcfaaFactR
import Derived.Test.YtbajnecahojcfaaBigL
import Derived.Test.YtbajnecahojcfaaDrawN
import Derived.Test.YtbajnecahojcfaaUnion
import Derived.Test.YtbajnecahojcfaaEqR
import Derived.Test.YtbajnecahojcfaaCon
import Derived.Test.YtbajnecahojcfaaRelQ
import Derived.ProofKit
import Derived.OpenShut
import Derived.ChangeOld
namespace Go.Proofs.Ytbajnecahojcfaa.fnNewRelation
open Go.ChangeShapes Go.WideShapes Go.ChangeAt Go.RowKit
set_option linter.unusedVariables false
set_option maxHeartbeats 8000000
set_option maxRecDepth 100000
theorem walk (v : Value) (bs : List UInt8) (w : World) (hv : SlB w.heap.size w v bs) : Calls Try.prog 17 #[v] w (RetB (.bool true) w) := by
  by_cases h0 : bs.length ≤ 1048576
  rotate_left
  · have d0 : decide ((1048576 : Int) < (bs.length : Int)) = true := by rw [decide_eq_true_eq]; omega
    go_enter Try.func17, Try.ntmps17
    go_wp2_with (go_at_call 39; ((with_reducible refine (big_l v bs _ hv).mono ?_); rintro e w' ⟨rfl, rfl⟩))
    go_ret
    exact ⟨rfl, Below.refl _ _⟩
  have d0 : decide ((1048576 : Int) < (bs.length : Int)) = false := by rw [decide_eq_false_iff_not]; omega
  go_enter Try.func17, Try.ntmps17
  go_wp2_with (first | (go_at_call 39; ((with_reducible refine (big_l v bs _ hv).mono ?_); rintro e w' ⟨rfl, rfl⟩)) | (go_at_call 76; ((with_reducible refine (DrawNewRelation_s v bs _ h0 hv).mono ?_); rintro e wd ⟨n0, m0, A0, c0, rfl, hnb, hml, hrl, own0, hB⟩)))
  have nn0 := hB.size
  have ht0 := total_le hrl
  have k1 : ∀ v W, MRow W v m0 → Calls Try.prog 77 #[.int .i64 n0, v] W (RetMB (newA n0 m0) (newM n0 m0) (newOk n0 m0) W) := fun v W h => NewRelation_i n0 v m0 W h (by omega)
  have k2 : ∀ v W, MRow W v m0 → Calls Try.prog 78 #[.int .i64 n0, v] W (RetMB (newA n0 m0) (newM n0 m0) (newOk n0 m0) W) := fun v W h => NewRelation_s n0 v m0 W h (by omega)
  have hnl := fun h => new_law (ar := n0) (m := m0) h
  have hNA := fun h => newA_yes (ar := n0) (m := m0) h
  obtain ⟨NA, eNA⟩ : ∃ P, newA n0 m0 = P := ⟨_, rfl⟩
  obtain ⟨NM, eNM⟩ : ∃ P, newM n0 m0 = P := ⟨_, rfl⟩
  rw [eNA, eNM] at k1 k2
  rw [eNM] at hnl
  rw [eNA] at hNA
  have k3 := fun u v W h h' => EqualRelations_s u v NA NA NM NM W h h'
  rw [eqR_self] at k3
  cases hi : newOk n0 m0 with
  | false =>
    rw [hi] at k1 k2
    have Hk1 := Lib.hid k1; clear k1; have Hk2 := Lib.hid k2; clear k2; have Hk3 := Lib.hid k3; clear k3; have Hhi := Lib.hid hi; clear hi; have Hhnl := Lib.hid hnl; clear hnl; have HhNA := Lib.hid hNA; clear hNA; have HeNA := Lib.hid eNA; clear eNA; have HeNM := Lib.hid eNM; clear eNM; have Hhrl := Lib.hid hrl; clear hrl
    go_wp2_with (first 
    | (go_at_call 77; ((with_reducible refine (Hk1.out _ _ (SegM.row own0)).mono ?_); rintro e w1 ⟨Ax2, cx2, rfl, own, hb⟩; (replace own0 := SegM.below own0 hb; have n3 : wd.heap.size ≤ w1.heap.size := hb.size; replace hB := hB.trans (hb.mono hB.size); clear hb; have r4 := SegM.of own; clear own))) 
    | (go_at_call 78; ((with_reducible refine (Hk2.out _ _ (SegM.row (SegM.alloc own0 _))).mono ?_); rintro e w5 ⟨Ax6, cx6, rfl, own, hb⟩; (have y7 := blockB hb (heap_alloc_new _ (.cells #[.int .i64 NA, .slice Ax2 NM.length cx2] 44)); replace own0 := SegM.below (SegM.alloc own0 _) hb; replace r4 := SegM.below (SegM.alloc r4 _) hb; have n8 : w1.heap.size + 1 ≤ w5.heap.size := (by have := hb.size; simp only [size_alloc] at this; exact this); replace hB := belowA hB hb; clear hb; simp only [size_alloc] at own; have r9 := SegM.of own; clear own; have y7c0 := cellAt y7 0; have y7a0 := fun o => cellAt (heapN y7 o) 0; have y7c1 := cellAt y7 1; have y7a1 := fun o => cellAt (heapN y7 o) 1))) 
    | (go_at_call 56; ((with_reducible refine (Hk3.out _ _ _ (SegM.row (SegM.alloc r4 _)) (SegM.row (SegM.alloc r9 _))).mono ?_); rintro e w10 ⟨rfl, hb⟩; (replace y7 := blockB hb (heapN y7 _); have y11 := blockB hb (heap_alloc_new _ (.cells #[.int .i64 NA, .slice Ax6 NM.length cx6] 44)); replace own0 := SegM.below (SegM.alloc own0 _) hb; replace r4 := SegM.below (SegM.alloc r4 _) hb; replace r9 := SegM.below (SegM.alloc r9 _) hb; have n12 : w5.heap.size + 1 ≤ w10.heap.size := (by have := hb.size; simp only [size_alloc] at this; exact this); replace hB := belowA hB hb; clear hb; clear y7c0 y7a0 y7c1 y7a1; have y7c0 := cellAt y7 0; have y7a0 := fun o => cellAt (heapN y7 o) 0; have y7c1 := cellAt y7 1; have y7a1 := fun o => cellAt (heapN y7 o) 1; have y11c0 := cellAt y11 0; have y11a0 := fun o => cellAt (heapN y11 o) 0; have y11c1 := cellAt y11 1; have y11a1 := fun o => cellAt (heapN y11 o) 1))))
    go_ret
    exact ⟨rfl, hB⟩
  | true =>
    rw [hi] at k1 k2
    have eA := hNA hi
    subst eA
    have q1 := fun m2 h => hnl hi m2 h
    obtain ⟨-, -, q2, q3, q4⟩ := hnl hi m0 (fun x => Iff.rfl)
    have dle : (NM.length : Int) ≤ (m0.length : Int) := by omega
    have dle2 : NM.length ≤ m0.length := q3
    have k6 := fun v u r W h h' => ContainsRow_i v u NA NM r W h h' (by omega)
    have k7 := fun v W h => IsValidRelation_i v NA NM W h
    rw [q2] at k7
    clear hnl hNA
    have Hk1 := Lib.hid k1; clear k1; have Hk2 := Lib.hid k2; clear k2; have Hk3 := Lib.hid k3; clear k3; have Hk6 := Lib.hid k6; clear k6; have Hk7 := Lib.hid k7; clear k7; have Hhi := Lib.hid hi; clear hi; have HeNA := Lib.hid eNA; clear eNA; have HeNM := Lib.hid eNM; clear eNM; have Hhrl := Lib.hid hrl; clear hrl; have Hq1 := Lib.hid q1; clear q1; have Hq2 := Lib.hid q2; clear q2; have Hq3 := Lib.hid q3; clear q3; have Hq4 := Lib.hid q4; clear q4; have Hdle := Lib.hid dle; clear dle; have Hdle2 := Lib.hid dle2; clear dle2
    go_wp2_with (first 
    | (go_at_call 77; ((with_reducible refine (Hk1.out _ _ (SegM.row own0)).mono ?_); rintro e w1 ⟨Ax2, cx2, rfl, own, hb⟩; (replace own0 := SegM.below own0 hb; have n3 : wd.heap.size ≤ w1.heap.size := hb.size; replace hB := hB.trans (hb.mono hB.size); clear hb; have r4 := SegM.of own; clear own))) 
    | (go_at_call 78; ((with_reducible refine (Hk2.out _ _ (SegM.row (SegM.alloc own0 _))).mono ?_); rintro e w5 ⟨Ax6, cx6, rfl, own, hb⟩; (have y7 := blockB hb (heap_alloc_new _ (.cells #[.int .i64 NA, .slice Ax2 NM.length cx2] 44)); replace own0 := SegM.below (SegM.alloc own0 _) hb; replace r4 := SegM.below (SegM.alloc r4 _) hb; have n8 : w1.heap.size + 1 ≤ w5.heap.size := (by have := hb.size; simp only [size_alloc] at this; exact this); replace hB := belowA hB hb; clear hb; simp only [size_alloc] at own; have r9 := SegM.of own; clear own; have y7c0 := cellAt y7 0; have y7a0 := fun o => cellAt (heapN y7 o) 0; have y7c1 := cellAt y7 1; have y7a1 := fun o => cellAt (heapN y7 o) 1))) 
    | (go_at_call 56; ((with_reducible refine (Hk3.out _ _ _ (SegM.row (SegM.alloc r4 _)) (SegM.row (SegM.alloc r9 _))).mono ?_); rintro e w10 ⟨rfl, hb⟩; (replace y7 := blockB hb (heapN y7 _); have y11 := blockB hb (heap_alloc_new _ (.cells #[.int .i64 NA, .slice Ax6 NM.length cx6] 44)); replace own0 := SegM.below (SegM.alloc own0 _) hb; replace r4 := SegM.below (SegM.alloc r4 _) hb; replace r9 := SegM.below (SegM.alloc r9 _) hb; have n12 : w5.heap.size + 1 ≤ w10.heap.size := (by have := hb.size; simp only [size_alloc] at this; exact this); replace hB := belowA hB hb; clear hb; clear y7c0 y7a0 y7c1 y7a1; have y7c0 := cellAt y7 0; have y7a0 := fun o => cellAt (heapN y7 o) 0; have y7c1 := cellAt y7 1; have y7a1 := fun o => cellAt (heapN y7 o) 1; have y11c0 := cellAt y11 0; have y11a0 := fun o => cellAt (heapN y11 o) 0; have y11c1 := cellAt y11 1; have y11a1 := fun o => cellAt (heapN y11 o) 1))))
    clear y7c0 y7a0 y7c1 y7a1 y11c0 y11a0 y11c1 y11a1
    obtain ⟨ps, eps, hvp, hrp⟩ := SegM.row own0
    have lps : ps.length = m0.length := by rw [← eps]; simp
    have hl0 : (w10.alloc (.cells #[] 22)).ownsRow w10.heap.size 22 1 (.slice (some ⟨w10.heap.size, 0, none⟩) 0 0) 0 [] := lit_nil w10 22 (Nat.le_refl _)
    have hba : Below w10.heap.size w10 (w10.alloc (.cells #[] 22)) := (Below.refl _ _).alloc (Nat.le_refl _) _
    have Hy7 := Lib.hid y7; clear y7; have Hy11 := Lib.hid y11; clear y11; have Hown0 := Lib.hid own0; clear own0; have Hr4 := Lib.hid r4; clear r4; have Hr9 := Lib.hid r9; clear r9; have HhB := Lib.hid hB; clear hB; have Hhl0 := Lib.hid hl0; clear hl0; have Hhba := Lib.hid hba; clear hba; have Hhvp := Lib.hid hvp; clear hvp; have Hhrp := Lib.hid hrp; clear hrp; have Heps := Lib.hid eps; clear eps; have Hlps := Lib.hid lps; clear lps
    go_loopw [9, 10] (fun u i wr => ∃ (z : Int) (Bs : PL) (A2 : Option Addr) (q : Nat), u = .slice A2 Bs.length q ∧ i = .int .i64 z ∧ (-1 ≤ z ∧ z < (m0.length : Int)) ∧ (Bs.length : Int) ≤ 2 * ((m0.length : Int) - (z + 1)) ∧ (∀ p ∈ Bs, p ∈ ps) ∧ (∀ p ∈ ps.drop (z + 1).toNat, p ∈ Bs) ∧ wr.ownsRow w10.heap.size 22 1 (.slice A2 Bs.length q) Bs.length (Bs.map Prod.fst) ∧ Below w10.heap.size w10 wr) (fun _ i _ => (intOf i + 1).toNat)
    case atStart => exact ⟨(m0.length : Int) - 1, [], some ⟨w10.heap.size, 0, none⟩, 0, rfl, by go_num, by omega, by simp, fun p hp => by simp at hp, fun p hp => by rw [List.drop_eq_nil_of_le (by have := Hlps.out; omega)] at hp; simp at hp, Hhl0.out, Hhba.out⟩
    case round =>
      obtain ⟨z, Bs, A2, qd, rfl, rfl, hz, hBl, hB1, hB2, hown, hbl⟩ := hrel
      have y7 := blockB hbl Hy7.out
      have y11 := blockB hbl Hy11.out
      have own0 := SegM.below Hown0.out hbl
      have r4 := SegM.below Hr4.out hbl
      have r9 := SegM.below Hr9.out hbl
      have hB := HhB.out.trans (hbl.mono HhB.out.size)
      have lps := Hlps.out
      by_cases hlt : 0 ≤ z
      · obtain ⟨k, rfl⟩ := Int.eq_ofNat_of_zero_le hlt
        have hk : k < m0.length := by omega
        have hkp : k < ps.length := by omega
        have hvp := VRow.below Hhvp.out hbl
        obtain ⟨b, off, c9, e9, c1⟩ := VRow.get hvp k (by simp; omega)
        simp only [Value.slice.injEq, List.length_map] at e9
        obtain ⟨eA, -, eC⟩ := e9
        subst eA eC
        have hpr := (Hhrp.out ps[k] (List.getElem_mem hkp)).below hbl
        obtain ⟨A1, q1, e1, -⟩ := IRow.open hpr
        rw [List.getElem_map, e1] at c1
        have hst1 : ∀ p ∈ Bs ++ [ps[k], ps[k]], p ∈ ps := fun p hp => by
          rcases List.mem_append.1 hp with hp | hp
          · exact hB1 p hp
          · have : p = ps[k] := by simpa using hp
            rw [this]; exact List.getElem_mem hkp
        have hst2 : ∀ p ∈ ps.drop (((k : Int) - 1 + 1).toNat), p ∈ Bs ++ [ps[k], ps[k]] := fun p hp => by
          rw [show (((k : Int) - 1 + 1).toNat) = k by omega, List.drop_eq_getElem_cons hkp] at hp
          rcases List.mem_cons.1 hp with rfl | hp
          · simp
          · exact List.mem_append.2 (.inl (hB2 p (by rw [show ((k : Int) + 1).toNat = k + 1 by omega]; exact hp)))
        have hmapE : (Bs ++ [ps[k], ps[k]]).map Prod.fst = Bs.map Prod.fst ++ [.slice A1 ps[k].2.length q1, .slice A1 ps[k].2.length q1] := by rw [List.map_append]; show _ ++ [ps[k].1, ps[k].1] = _; rw [e1]
        have hlenE : (Bs ++ [ps[k], ps[k]]).length = Bs.length + 2 := by simp
        obtain ⟨Bn, hBn⟩ : ∃ B, Bs ++ [ps[k], ps[k]] = B := ⟨_, rfl⟩
        rw [hBn] at hst1 hst2 hmapE hlenE
        generalize ps[k].2.length = rl at *
        have hdb : Below wr.heap.size wr wr.drew := (Below.refl _ _).drew
        have c1d := cellB hdb c1
        have hda : Below wr.heap.size wr (wr.alloc (.cells #[.slice A1 rl q1, .slice A1 rl q1] 22)).drew := ((Below.refl _ _).alloc (Nat.le_refl _) _).drew
        have hownA := own_below hown hda
        have hlitV : VRow (wr.alloc (.cells #[.slice A1 rl q1, .slice A1 rl q1] 22)).drew (.slice (some ⟨wr.heap.size, 0, none⟩) 2 2) [.slice A1 rl q1, .slice A1 rl q1] := VRow.own (World.ownsRow.drew (World.ownsRow_lit (base := 0) (e := 22) wr #[.slice A1 rl q1, .slice A1 rl q1] 2 (Nat.zero_le _) (by decide) rfl))
        have hbs := hbl.size
        have hBl2 : Bs.length ≤ 16 := by omega
        have g1 : (k : Int) < (m0.length : Int) := by omega
        have Hhpr := Lib.hid hpr; clear hpr; have He1 := Lib.hid e1; clear e1; have Hhst1 := Lib.hid hst1; clear hst1; have Hhst2 := Lib.hid hst2; clear hst2; have HhmapE := Lib.hid hmapE; clear hmapE; have HhlenE := Lib.hid hlenE; clear hlenE; have HhBn := Lib.hid hBn; clear hBn; have Hhvp := Lib.hid hvp; clear hvp; have Hhown := Lib.hid hown; clear hown; have HhownA := Lib.hid hownA; clear hownA; have HhlitV := Lib.hid hlitV; clear hlitV; have HhB1 := Lib.hid hB1; clear hB1; have HhB2 := Lib.hid hB2; clear hB2; have HhBl := Lib.hid hBl; clear hBl
        go_wp2_with fail
        go_region_law (first
          | (refine step_append_vrow rowT rfl (.tmp 52) (.tmp 61) rfl w10.heap.size _ Bs.length (Bs.map Prod.fst) ?_ HhownA.out (.slice (some ⟨wr.heap.size, 0, none⟩) 2 2) [.slice A1 rl q1, .slice A1 rl q1] ?_ HhlitV.out (fun u hu => by have : u = .slice A1 rl q1 := (by simpa using hu); rw [this]; rfl) (by simp; omega) (by simp [World.drew]; omega) ?_; (first | rfl | (simp [Act.eval, Act.put])); (first | rfl | (simp [Act.eval, Act.put])); intro v5 w5 own5 hgr5 hb5; rw [← HhmapE.out] at own5; rw [show Bs.length + [Value.slice A1 rl q1, Value.slice A1 rl q1].length = Bn.length by rw [HhlenE.out]; rfl] at own5; obtain ⟨A5, q5, e5, -⟩ := VRow.own own5; rw [List.length_map] at e5; subst e5))
        all_goals
          go_wp2_with fail
          go_roundw
          case rel => exact ⟨(k : Int) - 1, Bn, A5, q5, rfl, by go_num, by omega, by rw [HhlenE.out]; have := HhBl.out; omega, Hhst1.out, Hhst2.out, own5, hbl.trans ((hda.mono hbs).trans hb5)⟩
          case measure => simp [intOf] <;> omega
      · have hz1 : z = -1 := by omega
        subst hz1
        have hmr : MRow wr (.slice A2 Bs.length qd) (Bs.map Prod.snd) := ⟨Bs, rfl, VRow.own hown, fun p hp => (Hhrp.out p (hB1 p hp)).below hbl⟩
        have hmem : ∀ x, x ∈ Bs.map Prod.snd ↔ x ∈ m0 := fun x => by
          rw [← Heps.out]
          constructor
          · intro hx; obtain ⟨p, hp, rfl⟩ := List.mem_map.1 hx; exact List.mem_map.2 ⟨p, hB1 p hp, rfl⟩
          · intro hx; obtain ⟨p, hp, rfl⟩ := List.mem_map.1 hx; exact List.mem_map.2 ⟨p, hB2 p (by simpa using hp), rfl⟩
        obtain ⟨e1, e2, -⟩ := Hq1.out _ hmem
        have hrl2 : ∀ r ∈ Bs.map Prod.snd, r.length ≤ 4 := fun r hr => Hhrl.out r ((hmem r).1 hr)
        have ht2 := total_le hrl2
        have hbn : (Bs.map Prod.snd).length ≤ 16 := by rw [List.length_map]; omega
        have hbl2 : Bs.length = (Bs.map Prod.snd).length := by rw [List.length_map]
        have e3 := newA_yes e1
        obtain ⟨m2, hm2⟩ : ∃ m, Bs.map Prod.snd = m := ⟨_, rfl⟩
        rw [hm2] at hmr e1 e2 e3 ht2 hbn hbl2
        rw [hbl2] at hmr ⊢
        have k5 : ∀ v W, MRow W v m2 → Calls Try.prog 77 #[.int .i64 NA, v] W (RetMB (newA NA m2) (newM NA m2) (newOk NA m2) W) := fun v W h => NewRelation_i NA v m2 W h (by omega)
        rw [e1, e2, e3] at k5
        have Hk5 := Lib.hid k5; clear k5; have Hhmem := Lib.hid hmem; clear hmem; have He1 := Lib.hid e1; clear e1; have He2 := Lib.hid e2; clear e2; have He3 := Lib.hid e3; clear e3; have Hhrl2 := Lib.hid hrl2; clear hrl2; have Hht2 := Lib.hid ht2; clear ht2; have Hhbn := Lib.hid hbn; clear hbn; have Hhbl2 := Lib.hid hbl2; clear hbl2; have Hhm2 := Lib.hid hm2; clear hm2; have HhB1 := Lib.hid hB1; clear hB1; have HhB2 := Lib.hid hB2; clear hB2; have Hhown := Lib.hid hown; clear hown; have HhBl := Lib.hid hBl; clear hBl
        have y7c0 := cellAt y7 0; have y7a0 := fun o => cellAt (heapN y7 o) 0; have y7c1 := cellAt y7 1; have y7a1 := fun o => cellAt (heapN y7 o) 1; have y11c0 := cellAt y11 0; have y11a0 := fun o => cellAt (heapN y11 o) 0; have y11c1 := cellAt y11 1; have y11a1 := fun o => cellAt (heapN y11 o) 1
        go_wp2_with (first 
    | (go_at_call 77; ((with_reducible refine (Hk5.out _ _ (id hmr)).mono ?_); rintro e w13 ⟨Ax14, cx14, rfl, own, hb⟩; (replace y7 := blockB hb y7; replace y11 := blockB hb y11; replace own0 := SegM.below own0 hb; replace r4 := SegM.below r4 hb; replace r9 := SegM.below r9 hb; replace hmr := MRow.below hmr hb; have n15 : wr.heap.size ≤ w13.heap.size := hb.size; replace hB := hB.trans (hb.mono hB.size); clear hb; have r16 := SegM.of own; clear own; clear y7c0 y7a0 y7c1 y7a1 y11c0 y11a0 y11c1 y11a1; have y7c0 := cellAt y7 0; have y7a0 := fun o => cellAt (heapN y7 o) 0; have y7c1 := cellAt y7 1; have y7a1 := fun o => cellAt (heapN y7 o) 1; have y11c0 := cellAt y11 0; have y11a0 := fun o => cellAt (heapN y11 o) 0; have y11c1 := cellAt y11 1; have y11a1 := fun o => cellAt (heapN y11 o) 1))))
        clear y7c0 y7a0 y7c1 y7a1 y11c0 y11a0 y11c1 y11a1
        have y17 := heap_alloc_new w13 (.cells #[.int .i64 NA, .slice Ax14 NM.length cx14] 44)
        replace y7 := heapN y7 (.cells #[.int .i64 NA, .slice Ax14 NM.length cx14] 44)
        replace y11 := heapN y11 (.cells #[.int .i64 NA, .slice Ax14 NM.length cx14] 44)
        replace own0 := SegM.alloc own0 (.cells #[.int .i64 NA, .slice Ax14 NM.length cx14] 44)
        replace r4 := SegM.alloc r4 (.cells #[.int .i64 NA, .slice Ax14 NM.length cx14] 44)
        replace r9 := SegM.alloc r9 (.cells #[.int .i64 NA, .slice Ax14 NM.length cx14] 44)
        replace hmr := MRow.alloc hmr (.cells #[.int .i64 NA, .slice Ax14 NM.length cx14] 44)
        replace r16 := SegM.alloc r16 (.cells #[.int .i64 NA, .slice Ax14 NM.length cx14] 44)
        replace hB := hB.alloc hB.size (.cells #[.int .i64 NA, .slice Ax14 NM.length cx14] 44)
        have n19 : w13.heap.size + 1 = (w13.alloc (.cells #[.int .i64 NA, .slice Ax14 NM.length cx14] 44)).heap.size := by simp
        generalize w13.alloc (.cells #[.int .i64 NA, .slice Ax14 NM.length cx14] 44) = w18 at *
        have Hy7 := Lib.hid y7; clear y7; have Hy11 := Lib.hid y11; clear y11; have Hy17 := Lib.hid y17; clear y17; have Hown0 := Lib.hid own0; clear own0; have Hr4 := Lib.hid r4; clear r4; have Hr9 := Lib.hid r9; clear r9; have Hhmr := Lib.hid hmr; clear hmr; have Hr16 := Lib.hid r16; clear r16; have HhB := Lib.hid hB; clear hB
        go_loopw [13] (fun i wt => ∃ k : Nat, i = .int .i64 k ∧ k ≤ m0.length ∧ Below w18.heap.size w18 wt) (fun i _ => m0.length - (intOf i).toNat)
        case atStart => exact ⟨0, rfl, Nat.zero_le _, Below.refl _ _⟩
        case round =>
          obtain ⟨k, rfl, hk, hbt⟩ := hrel
          have y7 := blockB hbt Hy7.out
          have y11 := blockB hbt Hy11.out
          have y17 := blockB hbt Hy17.out
          have own0 := SegM.below Hown0.out hbt
          have r4 := SegM.below Hr4.out hbt
          have r9 := SegM.below Hr9.out hbt
          have hmr := MRow.below Hhmr.out hbt
          have r16 := SegM.below Hr16.out hbt
          have hB := HhB.out.trans (hbt.mono HhB.out.size)
          by_cases hlt : k < m0.length
          · have g0 : (k : Int) < (m0.length : Int) := by omega
            obtain ⟨-, hA⟩ : True ∧ ∀ i (_ : i < m0.length), ∃ b off, A0 = some ⟨b, off, none⟩ ∧ ∀ j (hj : j < m0.length), ∃ A' c', wr.cell? ⟨b, off + j, none⟩ = some (.slice A' m0[j].length c') ∧ IRow wr (.slice A' m0[j].length c') m0[j] := by
              obtain ⟨A9, c9, e9, -, -, -, h9⟩ := MRow.open (SegM.row own0)
              simp only [Value.slice.injEq] at e9
              obtain ⟨rfl, -, rfl⟩ := e9
              exact ⟨trivial, h9⟩
            obtain ⟨b3, off3, eA, h4⟩ := hA k hlt
            subst eA
            obtain ⟨A4, q4, c4, r4⟩ := h4 k hlt
            clear h4 hA
            have hq := Hq4.out m0[k] (List.getElem_mem hlt)
            obtain ⟨r, hr⟩ : ∃ r, m0[k] = r := ⟨_, rfl⟩
            rw [hr] at c4 r4 hq
            have k6 := fun v u W h h' => Hk6.out v u r W h h'
            rw [hq] at k6
            have Hk6 := Lib.hid k6; clear k6; have Hhq := Lib.hid hq; clear hq; have Hhr := Lib.hid hr; clear hr; have Hr4 := Lib.hid r4; clear r4
            go_wp2_with fail
            refine wp_region_flow 7 [] [[], [], [], [1, 2], [3], [0, 4], [5]] [Fact.is (.agg #[.int .i64 NA, .slice Ax2 NM.length cx2]), Fact.is (.slice (some ⟨b3, off3, none⟩) m0.length c0), Fact.is (.int .i64 (k : Int)), Fact.is (.pointer (some ⟨b3, off3 + k, none⟩)), Fact.is (.slice A4 r.length q4), Fact.is (.bool true), Fact.is (.bool false)] (by kernel_rfl) (by kernel_rfl) (by intro c d v a w h; cases d <;> exact h) (And.intro ?op0_1 (And.intro ?op1_1 (And.intro ?op2_1 (And.intro ?op3_1 (And.intro ?op4_1 (And.intro ?op5_1 (And.intro ?op6_1 trivial))))))) ?fin_1
            case op0_1 => (change flowStep _ _ _ _ _ _ _ _; intro wf vs hbf hf; have p0 := cellAt (blockB hbf y7) 0; have p1 := cellAt (blockB hbf y7) 1; have p5 := cellB hbf c4; obtain ⟨-⟩ := hf; show wpList _ _ _ _ ⟨_, _⟩ _; go_wp2_with (first | (go_at_call 70; ((with_reducible refine (Hk6.out _ _ _ (SegM.row (SegM.below r4 hbf)) (Hr4.out.below hbf)).mono ?_); rintro e w9 ⟨rfl, hb1⟩))); first | exact ⟨rfl, rfl, ⟨_, _, rfl, rfl, rfl⟩, by first | with_reducible exact Below.refl _ _ | assumption | with_reducible exact (Below.refl _ _).drew | with_reducible exact (Below.refl _ _).alloc (Nat.le_refl _) _⟩ | exact ⟨rfl, rfl, ⟨_, _, rfl, rfl, (by show _ = _; rfl)⟩, by first | with_reducible exact Below.refl _ _ | assumption | with_reducible exact (Below.refl _ _).drew | with_reducible exact (Below.refl _ _).alloc (Nat.le_refl _) _⟩ | exact ⟨rfl, rfl, ⟨_, _, rfl, rfl, ⟨_, rfl, Below.size (by assumption), heap_alloc_new _ _⟩⟩, (Below.refl _ _).alloc (Nat.le_refl _) _⟩ | exact ⟨rfl, rfl, ⟨_, _, rfl, rfl, ⟨_, rfl, World.ownsRow_lit _ _ _ (Below.size (by assumption)) (by decide) rfl⟩⟩, (Below.refl _ _).alloc (Nat.le_refl _) _⟩ | exact ⟨rfl, rfl, ⟨_, _, rfl, rfl, ⟨_, _, rfl, by assumption⟩⟩, by first | with_reducible exact Below.refl _ _ | assumption⟩ | exact ⟨rfl, rfl, ⟨_, _, rfl, rfl, ⟨_, _, _, rfl, heap_alloc_new _ _, own_below (by assumption) ((Below.refl _ _).alloc (Nat.le_refl _) _)⟩⟩, (Below.refl _ _).alloc (Nat.le_refl _) _⟩)
            case op1_1 => (change flowStep _ _ _ _ _ _ _ _; intro wf vs hbf hf; have p0 := cellAt (blockB hbf y7) 0; have p1 := cellAt (blockB hbf y7) 1; have p5 := cellB hbf c4; obtain ⟨-⟩ := hf; show wpList _ _ _ _ ⟨_, _⟩ _; go_wp2_with (first | (go_at_call 70; ((with_reducible refine (Hk6.out _ _ _ (SegM.row (SegM.below r4 hbf)) (Hr4.out.below hbf)).mono ?_); rintro e w9 ⟨rfl, hb1⟩))); first | exact ⟨rfl, rfl, ⟨_, _, rfl, rfl, rfl⟩, by first | with_reducible exact Below.refl _ _ | assumption | with_reducible exact (Below.refl _ _).drew | with_reducible exact (Below.refl _ _).alloc (Nat.le_refl _) _⟩ | exact ⟨rfl, rfl, ⟨_, _, rfl, rfl, (by show _ = _; rfl)⟩, by first | with_reducible exact Below.refl _ _ | assumption | with_reducible exact (Below.refl _ _).drew | with_reducible exact (Below.refl _ _).alloc (Nat.le_refl _) _⟩ | exact ⟨rfl, rfl, ⟨_, _, rfl, rfl, ⟨_, rfl, Below.size (by assumption), heap_alloc_new _ _⟩⟩, (Below.refl _ _).alloc (Nat.le_refl _) _⟩ | exact ⟨rfl, rfl, ⟨_, _, rfl, rfl, ⟨_, rfl, World.ownsRow_lit _ _ _ (Below.size (by assumption)) (by decide) rfl⟩⟩, (Below.refl _ _).alloc (Nat.le_refl _) _⟩ | exact ⟨rfl, rfl, ⟨_, _, rfl, rfl, ⟨_, _, rfl, by assumption⟩⟩, by first | with_reducible exact Below.refl _ _ | assumption⟩ | exact ⟨rfl, rfl, ⟨_, _, rfl, rfl, ⟨_, _, _, rfl, heap_alloc_new _ _, own_below (by assumption) ((Below.refl _ _).alloc (Nat.le_refl _) _)⟩⟩, (Below.refl _ _).alloc (Nat.le_refl _) _⟩)
            case op2_1 => (change flowStep _ _ _ _ _ _ _ _; intro wf vs hbf hf; have p0 := cellAt (blockB hbf y7) 0; have p1 := cellAt (blockB hbf y7) 1; have p5 := cellB hbf c4; obtain ⟨-⟩ := hf; show wpList _ _ _ _ ⟨_, _⟩ _; go_wp2_with (first | (go_at_call 70; ((with_reducible refine (Hk6.out _ _ _ (SegM.row (SegM.below r4 hbf)) (Hr4.out.below hbf)).mono ?_); rintro e w9 ⟨rfl, hb1⟩))); first | exact ⟨rfl, rfl, ⟨_, _, rfl, rfl, rfl⟩, by first | with_reducible exact Below.refl _ _ | assumption | with_reducible exact (Below.refl _ _).drew | with_reducible exact (Below.refl _ _).alloc (Nat.le_refl _) _⟩ | exact ⟨rfl, rfl, ⟨_, _, rfl, rfl, (by show _ = _; rfl)⟩, by first | with_reducible exact Below.refl _ _ | assumption | with_reducible exact (Below.refl _ _).drew | with_reducible exact (Below.refl _ _).alloc (Nat.le_refl _) _⟩ | exact ⟨rfl, rfl, ⟨_, _, rfl, rfl, ⟨_, rfl, Below.size (by assumption), heap_alloc_new _ _⟩⟩, (Below.refl _ _).alloc (Nat.le_refl _) _⟩ | exact ⟨rfl, rfl, ⟨_, _, rfl, rfl, ⟨_, rfl, World.ownsRow_lit _ _ _ (Below.size (by assumption)) (by decide) rfl⟩⟩, (Below.refl _ _).alloc (Nat.le_refl _) _⟩ | exact ⟨rfl, rfl, ⟨_, _, rfl, rfl, ⟨_, _, rfl, by assumption⟩⟩, by first | with_reducible exact Below.refl _ _ | assumption⟩ | exact ⟨rfl, rfl, ⟨_, _, rfl, rfl, ⟨_, _, _, rfl, heap_alloc_new _ _, own_below (by assumption) ((Below.refl _ _).alloc (Nat.le_refl _) _)⟩⟩, (Below.refl _ _).alloc (Nat.le_refl _) _⟩)
            case op3_1 => (change flowStep _ _ _ _ _ _ _ _; intro wf vs hbf hf; have p0 := cellAt (blockB hbf y7) 0; have p1 := cellAt (blockB hbf y7) 1; have p5 := cellB hbf c4; obtain ⟨e1, e2, -⟩ := hf; replace e1 : vs 1 = .slice (some ⟨b3, off3, none⟩) m0.length c0 := e1; replace e2 : vs 2 = .int .i64 (k : Int) := e2; show wpList _ _ _ _ (Act.put (Act.put _ (some 76) (vs 1)) (some 77) (vs 2)) _; rw [e1, e2]; go_wp2_with (first | (go_at_call 70; ((with_reducible refine (Hk6.out _ _ _ (SegM.row (SegM.below r4 hbf)) (Hr4.out.below hbf)).mono ?_); rintro e w9 ⟨rfl, hb1⟩))); first | exact ⟨rfl, rfl, ⟨_, _, rfl, rfl, rfl⟩, by first | with_reducible exact Below.refl _ _ | assumption | with_reducible exact (Below.refl _ _).drew | with_reducible exact (Below.refl _ _).alloc (Nat.le_refl _) _⟩ | exact ⟨rfl, rfl, ⟨_, _, rfl, rfl, (by show _ = _; rfl)⟩, by first | with_reducible exact Below.refl _ _ | assumption | with_reducible exact (Below.refl _ _).drew | with_reducible exact (Below.refl _ _).alloc (Nat.le_refl _) _⟩ | exact ⟨rfl, rfl, ⟨_, _, rfl, rfl, ⟨_, rfl, Below.size (by assumption), heap_alloc_new _ _⟩⟩, (Below.refl _ _).alloc (Nat.le_refl _) _⟩ | exact ⟨rfl, rfl, ⟨_, _, rfl, rfl, ⟨_, rfl, World.ownsRow_lit _ _ _ (Below.size (by assumption)) (by decide) rfl⟩⟩, (Below.refl _ _).alloc (Nat.le_refl _) _⟩ | exact ⟨rfl, rfl, ⟨_, _, rfl, rfl, ⟨_, _, rfl, by assumption⟩⟩, by first | with_reducible exact Below.refl _ _ | assumption⟩ | exact ⟨rfl, rfl, ⟨_, _, rfl, rfl, ⟨_, _, _, rfl, heap_alloc_new _ _, own_below (by assumption) ((Below.refl _ _).alloc (Nat.le_refl _) _)⟩⟩, (Below.refl _ _).alloc (Nat.le_refl _) _⟩)
            case op4_1 => (change flowStep _ _ _ _ _ _ _ _; intro wf vs hbf hf; have p0 := cellAt (blockB hbf y7) 0; have p1 := cellAt (blockB hbf y7) 1; have p5 := cellB hbf c4; obtain ⟨e3, -⟩ := hf; replace e3 : vs 3 = .pointer (some ⟨b3, off3 + k, none⟩) := e3; show wpList _ _ _ _ (Act.put _ (some 78) (vs 3)) _; rw [e3]; go_wp2_with (first | (go_at_call 70; ((with_reducible refine (Hk6.out _ _ _ (SegM.row (SegM.below r4 hbf)) (Hr4.out.below hbf)).mono ?_); rintro e w9 ⟨rfl, hb1⟩))); first | exact ⟨rfl, rfl, ⟨_, _, rfl, rfl, rfl⟩, by first | with_reducible exact Below.refl _ _ | assumption | with_reducible exact (Below.refl _ _).drew | with_reducible exact (Below.refl _ _).alloc (Nat.le_refl _) _⟩ | exact ⟨rfl, rfl, ⟨_, _, rfl, rfl, (by show _ = _; rfl)⟩, by first | with_reducible exact Below.refl _ _ | assumption | with_reducible exact (Below.refl _ _).drew | with_reducible exact (Below.refl _ _).alloc (Nat.le_refl _) _⟩ | exact ⟨rfl, rfl, ⟨_, _, rfl, rfl, ⟨_, rfl, Below.size (by assumption), heap_alloc_new _ _⟩⟩, (Below.refl _ _).alloc (Nat.le_refl _) _⟩ | exact ⟨rfl, rfl, ⟨_, _, rfl, rfl, ⟨_, rfl, World.ownsRow_lit _ _ _ (Below.size (by assumption)) (by decide) rfl⟩⟩, (Below.refl _ _).alloc (Nat.le_refl _) _⟩ | exact ⟨rfl, rfl, ⟨_, _, rfl, rfl, ⟨_, _, rfl, by assumption⟩⟩, by first | with_reducible exact Below.refl _ _ | assumption⟩ | exact ⟨rfl, rfl, ⟨_, _, rfl, rfl, ⟨_, _, _, rfl, heap_alloc_new _ _, own_below (by assumption) ((Below.refl _ _).alloc (Nat.le_refl _) _)⟩⟩, (Below.refl _ _).alloc (Nat.le_refl _) _⟩)
            case op5_1 => (change flowStep _ _ _ _ _ _ _ _; intro wf vs hbf hf; have p0 := cellAt (blockB hbf y7) 0; have p1 := cellAt (blockB hbf y7) 1; have p5 := cellB hbf c4; obtain ⟨e0, e4, -⟩ := hf; replace e0 : vs 0 = .agg #[.int .i64 NA, .slice Ax2 NM.length cx2] := e0; replace e4 : vs 4 = .slice A4 r.length q4 := e4; show wpList _ _ _ _ (Act.put (Act.put _ (some 75) (vs 0)) (some 79) (vs 4)) _; rw [e0, e4]; go_wp2_with (first | (go_at_call 70; ((with_reducible refine (Hk6.out _ _ _ (SegM.row (SegM.below r4 hbf)) (Hr4.out.below hbf)).mono ?_); rintro e w9 ⟨rfl, hb1⟩))); first | exact ⟨rfl, rfl, ⟨_, _, rfl, rfl, rfl⟩, by first | with_reducible exact Below.refl _ _ | assumption | with_reducible exact (Below.refl _ _).drew | with_reducible exact (Below.refl _ _).alloc (Nat.le_refl _) _⟩ | exact ⟨rfl, rfl, ⟨_, _, rfl, rfl, (by show _ = _; rfl)⟩, by first | with_reducible exact Below.refl _ _ | assumption | with_reducible exact (Below.refl _ _).drew | with_reducible exact (Below.refl _ _).alloc (Nat.le_refl _) _⟩ | exact ⟨rfl, rfl, ⟨_, _, rfl, rfl, ⟨_, rfl, Below.size (by assumption), heap_alloc_new _ _⟩⟩, (Below.refl _ _).alloc (Nat.le_refl _) _⟩ | exact ⟨rfl, rfl, ⟨_, _, rfl, rfl, ⟨_, rfl, World.ownsRow_lit _ _ _ (Below.size (by assumption)) (by decide) rfl⟩⟩, (Below.refl _ _).alloc (Nat.le_refl _) _⟩ | exact ⟨rfl, rfl, ⟨_, _, rfl, rfl, ⟨_, _, rfl, by assumption⟩⟩, by first | with_reducible exact Below.refl _ _ | assumption⟩ | exact ⟨rfl, rfl, ⟨_, _, rfl, rfl, ⟨_, _, _, rfl, heap_alloc_new _ _, own_below (by assumption) ((Below.refl _ _).alloc (Nat.le_refl _) _)⟩⟩, (Below.refl _ _).alloc (Nat.le_refl _) _⟩)
            case op6_1 => (change flowStep _ _ _ _ _ _ _ _; intro wf vs hbf hf; have p0 := cellAt (blockB hbf y7) 0; have p1 := cellAt (blockB hbf y7) 1; have p5 := cellB hbf c4; obtain ⟨e5, -⟩ := hf; replace e5 : vs 5 = .bool true := e5; show wpList _ _ _ _ (Act.put _ (some 80) (vs 5)) _; rw [e5]; go_wp2_with (first | (go_at_call 70; ((with_reducible refine (Hk6.out _ _ _ (SegM.row (SegM.below r4 hbf)) (Hr4.out.below hbf)).mono ?_); rintro e w9 ⟨rfl, hb1⟩))); first | exact ⟨rfl, rfl, ⟨_, _, rfl, rfl, rfl⟩, by first | with_reducible exact Below.refl _ _ | assumption | with_reducible exact (Below.refl _ _).drew | with_reducible exact (Below.refl _ _).alloc (Nat.le_refl _) _⟩ | exact ⟨rfl, rfl, ⟨_, _, rfl, rfl, (by show _ = _; rfl)⟩, by first | with_reducible exact Below.refl _ _ | assumption | with_reducible exact (Below.refl _ _).drew | with_reducible exact (Below.refl _ _).alloc (Nat.le_refl _) _⟩ | exact ⟨rfl, rfl, ⟨_, _, rfl, rfl, ⟨_, rfl, Below.size (by assumption), heap_alloc_new _ _⟩⟩, (Below.refl _ _).alloc (Nat.le_refl _) _⟩ | exact ⟨rfl, rfl, ⟨_, _, rfl, rfl, ⟨_, rfl, World.ownsRow_lit _ _ _ (Below.size (by assumption)) (by decide) rfl⟩⟩, (Below.refl _ _).alloc (Nat.le_refl _) _⟩ | exact ⟨rfl, rfl, ⟨_, _, rfl, rfl, ⟨_, _, rfl, by assumption⟩⟩, by first | with_reducible exact Below.refl _ _ | assumption⟩ | exact ⟨rfl, rfl, ⟨_, _, rfl, rfl, ⟨_, _, _, rfl, heap_alloc_new _ _, own_below (by assumption) ((Below.refl _ _).alloc (Nat.le_refl _) _)⟩⟩, (Below.refl _ _).alloc (Nat.le_refl _) _⟩)
            intro wf vs hbf hf; obtain ⟨e0, e1, e2, e3, e4, e5, e6, -⟩ := hf; replace e0 : vs 0 = .agg #[.int .i64 NA, .slice Ax2 NM.length cx2] := e0; replace e1 : vs 1 = .slice (some ⟨b3, off3, none⟩) m0.length c0 := e1; replace e2 : vs 2 = .int .i64 (k : Int) := e2; replace e3 : vs 3 = .pointer (some ⟨b3, off3 + k, none⟩) := e3; replace e4 : vs 4 = .slice A4 r.length q4 := e4; replace e5 : vs 5 = .bool true := e5; replace e6 : vs 6 = .bool false := e6; show wpList _ _ _ _ (Act.put (Act.put (Act.put (Act.put (Act.put (Act.put (Act.put _ (some 75) (vs 0)) (some 76) (vs 1)) (some 77) (vs 2)) (some 78) (vs 3)) (some 79) (vs 4)) (some 80) (vs 5)) (some 81) (vs 6)) _; rw [e0, e1, e2, e3, e4, e5, e6]; simp only [Act.put, List.setIfInBounds_toArray, List.set_cons_succ, List.set_cons_zero, List.drop_succ_cons, List.drop_zero]
            refine wpList_nil ?_
            go_wp2_with fail
            go_roundw
            case rel => exact ⟨k + 1, by go_num, by omega, hbt.trans (hbf.mono hbt.size)⟩
            case measure => simp [intOf] <;> omega
          · obtain rfl : k = m0.length := by omega
            have g0 : ¬ (m0.length : Int) < (m0.length : Int) := by omega
            have dle := Hdle.out; have dle2 := Hdle2.out
            have y7c0 := cellAt y7 0; have y7a0 := fun o => cellAt (heapN y7 o) 0; have y7c1 := cellAt y7 1; have y7a1 := fun o => cellAt (heapN y7 o) 1; have y11c0 := cellAt y11 0; have y11a0 := fun o => cellAt (heapN y11 o) 0; have y11c1 := cellAt y11 1; have y11a1 := fun o => cellAt (heapN y11 o) 1; have y17c0 := cellAt y17 0; have y17a0 := fun o => cellAt (heapN y17 o) 0; have y17c1 := cellAt y17 1; have y17a1 := fun o => cellAt (heapN y17 o) 1
            go_wp2_with (first 
    | (go_at_call 56; ((with_reducible refine (Hk3.out _ _ _ (SegM.row r16) (SegM.row r4)).mono ?_); rintro e w20 ⟨rfl, hb⟩; (replace y7 := blockB hb y7; replace y11 := blockB hb y11; replace y17 := blockB hb y17; replace own0 := SegM.below own0 hb; replace r4 := SegM.below r4 hb; replace r9 := SegM.below r9 hb; replace hmr := MRow.below hmr hb; replace r16 := SegM.below r16 hb; have n21 : wr.heap.size ≤ w20.heap.size := hb.size; replace hB := hB.trans (hb.mono hB.size); clear hb; clear y7c0 y7a0 y7c1 y7a1 y11c0 y11a0 y11c1 y11a1 y17c0 y17a0 y17c1 y17a1; have y7c0 := cellAt y7 0; have y7a0 := fun o => cellAt (heapN y7 o) 0; have y7c1 := cellAt y7 1; have y7a1 := fun o => cellAt (heapN y7 o) 1; have y11c0 := cellAt y11 0; have y11a0 := fun o => cellAt (heapN y11 o) 0; have y11c1 := cellAt y11 1; have y11a1 := fun o => cellAt (heapN y11 o) 1; have y17c0 := cellAt y17 0; have y17a0 := fun o => cellAt (heapN y17 o) 0; have y17c1 := cellAt y17 1; have y17a1 := fun o => cellAt (heapN y17 o) 1))) 
    | (go_at_call 68; ((with_reducible refine (Hk7.out _ _ (SegM.row r4)).mono ?_); rintro e w22 ⟨rfl, hb⟩; (replace y7 := blockB hb y7; replace y11 := blockB hb y11; replace y17 := blockB hb y17; replace own0 := SegM.below own0 hb; replace r4 := SegM.below r4 hb; replace r9 := SegM.below r9 hb; replace hmr := MRow.below hmr hb; replace r16 := SegM.below r16 hb; have n23 : w20.heap.size ≤ w22.heap.size := hb.size; replace hB := hB.trans (hb.mono hB.size); clear hb; clear y7c0 y7a0 y7c1 y7a1 y11c0 y11a0 y11c1 y11a1 y17c0 y17a0 y17c1 y17a1; have y7c0 := cellAt y7 0; have y7a0 := fun o => cellAt (heapN y7 o) 0; have y7c1 := cellAt y7 1; have y7a1 := fun o => cellAt (heapN y7 o) 1; have y11c0 := cellAt y11 0; have y11a0 := fun o => cellAt (heapN y11 o) 0; have y11c1 := cellAt y11 1; have y11a1 := fun o => cellAt (heapN y11 o) 1; have y17c0 := cellAt y17 0; have y17a0 := fun o => cellAt (heapN y17 o) 0; have y17c1 := cellAt y17 1; have y17a1 := fun o => cellAt (heapN y17 o) 1))))
            go_ret
            exact ⟨rfl, hB⟩
theorem own : ownKnob Try.prog.godebug = none := by kernel_rfl
theorem laidOut : laidOutB Try.prog = true := by kernel_rfl
set_option maxRecDepth 100000 in
theorem lifted (os : Os) (started : os.Started) (H : Type) (enc : TypeId × Value → H) :
    ReturnsInHanded {} Try.checked os 17 .any (Rows.fnNewRelationSpec.pre6 enc Try.prog Try.f17 Rows.fnNewRelationRow.domain false) (Rows.fnNewRelationSpec.post enc Try.prog Try.f17 false true false false) := by
  refine returnsInHanded_of_change (C := Try.checked) own started (by kernel_rfl) Try.func17
    (ChangeSpec.witness6 (enc := enc) (C := Try.checked) false ⟨#[], #[.slice none 0 0], []⟩ 8 (by kernel_rfl) (by kernel_rfl) (by kernel_rfl) (by kernel_rfl)) ?_
  intro W base args ds gs before hval0 hW hcnd _
  have hval : ∀ (j : Nat) t v, Try.f17.params[j]? = some t → args[j]? = some v → Value.okWide Try.prog W .any base t v := hval0
  have hW' := hW
  obtain ⟨p, q, hA0, hV, rfl, hfz, hnd⟩ := hW
  have hA : DataW.TrodAll enc Try.prog W 0 (fun _ => true) true Try.f17.params.toList args.toList ds p := hA0
  rw [Try.params17] at hA hval
  obtain ⟨v0, vs0, d0, ds0, p0, q0, hargs, rfl, rfl, h0, r0⟩ := trodAll_cons hA
  obtain ⟨rfl, rfl, rfl⟩ := trodAll_nil r0
  obtain rfl : args = #[v0] := by cases args; simp_all
  obtain ⟨rfl, rfl⟩ := trodVars_none hV
  have k0 := h0
  have lt0 : ∀ x ∈ p0, x.block < W.heap.size := by obtain ⟨m, hm⟩ := k0; exact DataW.trod_lt m _ _ _ hm
  obtain ⟨A0, w0⟩ := open_row_u8 (hval 0 32 v0 rfl rfl) h0
  clear hA0 hval0
  refine (walk v0 A0 W w0).mono fun e W' ⟨he, bel⟩ => ?_
  subst he
  exact ⟨_, rfl, _, _, _, [], _, [], hW', trodAll_mk1 (shut_bool Try.underlying4 _), (trodAll_cons_mk (Below.trod laidOut (by kernel_rfl) (of_decide_eq_true (by kernel_rfl)) k0 bel lt0) trodAll_mk0), rfl, bel.frame _, fun h => by cases h⟩
theorem closed : joinedFacts Try.prog 17 Try.f17 Rows.fnNewRelationSpec Rows.fnNewRelationRow = true := by
  unfold joinedFacts
  simp only [Bool.and_eq_true]
  repeat' apply And.intro
  all_goals first | with_reducible exact mayEnter | (rw [lifts]; kernel_rfl) | (rw [make]; kernel_rfl) | as_aux_lemma => kernel_rfl
theorem over : Rows.fnNewRelationRow.holds Try.pinned (OpenSpec.ofChange Rows.fnNewRelationSpec) :=
  OpenClaim.holds_of_wide 17 Try.f17 rfl rfl rfl rfl rfl rfl rfl ⟨rfl, rfl, rfl, rfl, rfl⟩ rfl rfl rfl rfl rfl (by kernel_rfl) Try.func17 closed
    (of_decide_eq_true (by kernel_rfl)) (by unfold Func.isWrapper; first | (rw [if_pos (by decide +kernel)]; kernel_rfl) | (rw [if_neg (by decide +kernel)]; exact ⟨rfl, rfl⟩))
    (fun os started H enc _ => lifted os started H enc)
theorem proved : Rows.FnNewRelationSaid := over
end Go.Proofs.Ytbajnecahojcfaa.fnNewRelation
