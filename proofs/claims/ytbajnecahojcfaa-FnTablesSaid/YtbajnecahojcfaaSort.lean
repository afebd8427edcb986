/- sorted, the program's. -/
import Derived.Test.YtbajnecahojcfaaCopy
import Derived.Test.YtbajnecahojcfaaRow
namespace Go.Proofs.Ytbajnecahojcfaa
open Go.RowKit Go.Sort
set_option maxHeartbeats 4000000
set_option maxRecDepth 100000

/-- The first element, and what is left behind it. -/
theorem VRow.pop {w : World} {v x : Value} {vs : List Value} (h : VRow w v (x :: vs)) : ∃ b off c, v = .slice (some ⟨b, off, none⟩) (vs.length + 1) c ∧ w.cell? ⟨b, off, none⟩ = some x ∧ vs.length + 1 ≤ c ∧ c ≤ 9223372036854775807 ∧
    ((c = 1 ∧ vs.length = 0 ∧ VRow w (.slice (some ⟨b, off, none⟩) vs.length 0) vs) ∨ (¬ c = 1 ∧ VRow w (.slice (some ⟨b, off + 1, none⟩) vs.length (c - 1)) vs)) := by
  obtain ⟨A, c, h1, h2, h3, h4, h5⟩ := h
  obtain ⟨b, off, rfl, h6⟩ := VRow.at h5 (by simp)
  simp only [List.length_cons] at h1 h2
  unfold maxLen at h3
  refine ⟨b, off, c, h1, by simpa using h6 0 x rfl, h2, by omega, ?_⟩
  by_cases hc : c = 1
  · refine .inl ⟨hc, by omega, some ⟨b, off, none⟩, 0, rfl, by omega, by unfold maxLen; omega, (fun h => by cases h), fun i u hu => ?_⟩
    have := (List.getElem?_eq_some_iff.1 hu).1; omega
  · refine .inr ⟨hc, some ⟨b, off + 1, none⟩, c - 1, rfl, by omega, by unfold maxLen; omega, (fun h => by cases h), fun i u hu => ⟨b, off + 1, rfl, ?_⟩⟩
    have := h6 (i + 1) u (by simpa using hu)
    rwa [show off + (i + 1) = off + 1 + i by omega] at this
theorem VRow.take {w : World} {b off n c k : Nat} {vs : List Value} (h : VRow w (.slice (some ⟨b, off, none⟩) n c) vs) (hk : k ≤ vs.length) : VRow w (.slice (some ⟨b, off, none⟩) k c) (vs.take k) := by
  obtain ⟨A, c', h1, h2, h3, h4, h5⟩ := h
  simp only [Value.slice.injEq] at h1
  obtain ⟨rfl, rfl, rfl⟩ := h1
  refine ⟨_, _, by rw [List.length_take, Nat.min_eq_left hk], by rw [List.length_take]; omega, h3, h4, fun i u hu => ?_⟩
  have hi := (List.getElem?_eq_some_iff.1 hu).1
  rw [List.length_take] at hi
  rw [List.getElem?_take_of_lt (by omega)] at hu
  exact h5 i u hu
theorem VRow.drop {w : World} {b off n c k : Nat} {vs : List Value} (h : VRow w (.slice (some ⟨b, off, none⟩) n c) vs) (hk : k ≤ vs.length) : VRow w (.slice (some ⟨b, off + k, none⟩) (vs.length - k) (c - k)) (vs.drop k) := by
  obtain ⟨A, c', h1, h2, h3, h4, h5⟩ := h
  simp only [Value.slice.injEq] at h1
  obtain ⟨rfl, rfl, rfl⟩ := h1
  unfold maxLen at h3
  refine ⟨_, _, by rw [List.length_drop], by rw [List.length_drop]; omega, by unfold maxLen; omega, (fun h => by cases h), fun i u hu => ⟨b, off + k, rfl, ?_⟩⟩
  rw [List.getElem?_drop] at hu
  obtain ⟨b', off', e, h6⟩ := h5 (k + i) u hu
  simp only [Option.some.injEq, Addr.mk.injEq] at e
  obtain ⟨rfl, rfl, -⟩ := e
  rwa [show off + (k + i) = off + k + i by omega] at h6
theorem MRow.take {w : World} {b off n c k : Nat} {m : List (List Int)} (h : MRow w (.slice (some ⟨b, off, none⟩) n c) m) (hk : k ≤ m.length) : MRow w (.slice (some ⟨b, off, none⟩) k c) (m.take k) := by
  obtain ⟨ps, rfl, h2, h3⟩ := h
  rw [List.length_map] at hk
  exact ⟨ps.take k, by rw [List.map_take], by rw [List.map_take]; exact h2.take (by simpa using hk), fun p hp => h3 p (List.mem_of_mem_take hp)⟩
theorem MRow.drop {w : World} {b off n c k : Nat} {m : List (List Int)} (h : MRow w (.slice (some ⟨b, off, none⟩) n c) m) (hk : k ≤ m.length) : MRow w (.slice (some ⟨b, off + k, none⟩) (m.length - k) (c - k)) (m.drop k) := by
  obtain ⟨ps, rfl, h2, h3⟩ := h
  rw [List.length_map] at hk
  refine ⟨ps.drop k, by rw [List.map_drop], ?_, fun p hp => h3 p (List.mem_of_mem_drop hp)⟩
  have := h2.drop (k := k) (by simpa using hk)
  rw [List.length_map] at this ⊢
  rw [List.map_drop]; exact this
theorem total_half (m : List (List Int)) (k : Nat) : total (m.take k) ≤ total m ∧ total (m.drop k) ≤ total m := by
  have : total (m.take k) + total (m.drop k) = total m := by rw [← total_append, List.take_append_drop]
  omega
theorem own_pushP {w : World} {B : Nat} {v u : Value} {po : PL} (r : List Int) (h : w.ownsRow B 22 1 v (po.length + 1) (po.map Prod.fst ++ [u])) : w.ownsRow B 22 1 v (po ++ [(u, r)]).length ((po ++ [(u, r)]).map Prod.fst) := by
  rw [List.length_append, List.map_append]; exact h
def lenOf : Value → Nat
  | .slice _ n _ => n
  | _ => 0
theorem sorted_small (m : List (List Int)) (h2 : m.length < 2) (hl : m.length + total m ≤ 1099511627775) (v : Value) (w : World) (hv : MRow w v m) : Calls Try.prog 135 #[v] w (fun e w' => ∃ A c, e = .returned (.slice A (sortI m).length c) ∧ OwnM w' w.heap.size (.slice A (sortI m).length c) (sortI m) ∧ Below w.heap.size w w') := by
  have g2 : (m.length : Int) < 2 := by omega
  have k1 := copyRows_i v m w hv hl
  rw [sortI_small h2]
  obtain ⟨A, c, e⟩ := MRow.opened hv
  subst e
  have Hk1 := Lib.hid k1; clear k1; have Hhv := Lib.hid hv; clear hv
  go_enter Try.func135, Try.ntmps135
  go_wp2_with (go_at_call 140; ((with_reducible refine (Hk1.out).mono ?_); rintro e w1 ⟨A1, c1, rfl, own, hb⟩))
  go_ret
  exact ⟨_, _, rfl, own, hb⟩
theorem rows_two {w2 : World} {lo a1 hi : Nat} {v u : Value} {m r : List (List Int)} (h1 : SegM w2 lo a1 v m) (h2 : SegM w2 a1 hi u r) (hlo : lo ≤ a1) (hhi : a1 ≤ hi) :
    ∃ pa pb : PL, pa.map Prod.snd = m ∧ pb.map Prod.snd = r ∧ VRow w2 v (pa.map Prod.fst) ∧ VRow w2 u (pb.map Prod.fst) ∧ RowsOwn w2 lo hi (pa ++ pb) ∧ RowsOwn w2 lo hi (pb ++ pa) := by
  obtain ⟨pa, e1, o1, _, r1⟩ := h1
  obtain ⟨pb, e2, o2, _, r2⟩ := h2
  have h := r1.append r2 hlo hhi
  exact ⟨pa, pb, e1, e2, VRow.own o1, VRow.own o2, h, h.perm List.perm_append_comm⟩
theorem sorted_i : ∀ (n : Nat) (m : List (List Int)), m.length ≤ n → m.length + total m ≤ 1099511627775 → ∀ (v : Value) (w : World), MRow w v m → Calls Try.prog 135 #[v] w (fun e w' => ∃ A c, e = .returned (.slice A (sortI m).length c) ∧ OwnM w' w.heap.size (.slice A (sortI m).length c) (sortI m) ∧ Below w.heap.size w w') := by
  intro n
  induction n with
  | zero => intro m hn hl v w hv; exact sorted_small m (by omega) hl v w hv
  | succ n ih =>
    intro m hn hl v w hv
    by_cases h2 : m.length < 2
    · exact sorted_small m h2 hl v w hv
    have g2 : ¬ (m.length : Int) < 2 := by omega
    obtain ⟨A, c, e, hc, hcm, -, hA⟩ := MRow.open hv
    obtain ⟨b, off, rfl, -⟩ := hA 0 (by omega)
    subst e
    clear hA
    obtain ⟨k, hk⟩ : ∃ k, m.length / 2 = k := ⟨_, rfl⟩
    have hq : (m.length : Int).tdiv 2 = (k : Int) := by rw [Int.tdiv_eq_ediv_of_nonneg (by omega)]; omega
    have hva := (MRow.take (k := k) hv (by omega)).below ((Below.refl w.heap.size w).drew)
    have hvb := (MRow.drop (k := k) hv (by omega)).below ((Below.refl w.heap.size w).drew)
    have hsort := sortI_great h2
    rw [hk] at hsort
    have ht := total_half m k
    have ka := fun W h => ih (m.take k) (by simp; omega) (by simp; omega) (.slice (some ⟨b, off, none⟩) k c) W h
    have kb := fun W h => ih (m.drop k) (by simp; omega) (by simp; omega) (.slice (some ⟨b, off + k, none⟩) (m.length - k) (c - k)) W h
    have la := sortI_len _ (m.take k) (Nat.le_refl _)
    have lb := sortI_len _ (m.drop k) (Nat.le_refl _)
    rw [List.length_take] at la
    rw [List.length_drop] at lb
    have hc0 : ¬ c = 0 := by omega
    have hck : ¬ c = k := by omega
    have hkc : k ≤ c := by omega
    have hkm : k ≤ m.length := by omega
    have hk0 : (0 : Int) ≤ (k : Int) := by omega
    rw [hsort]
    generalize hRA : sortI (m.take k) = RA at *
    generalize hRB : sortI (m.drop k) = RB at *
    have Hhv := Lib.hid hv; clear hv; have Hhva := Lib.hid hva; clear hva; have Hhvb := Lib.hid hvb; clear hvb; have Hht := Lib.hid ht; clear ht; have Hka := Lib.hid ka; clear ka; have Hkb := Lib.hid kb; clear kb; have Hhsort := Lib.hid hsort; clear hsort; have HhRA := Lib.hid hRA; clear hRA; have HhRB := Lib.hid hRB; clear hRB; have Hhk := Lib.hid hk; clear hk; have Hih := Lib.hid ih; clear ih; have Hhl := Lib.hid hl; clear hl; have Hhn := Lib.hid hn; clear hn; have Hh2 := Lib.hid h2; clear h2
    go_enter Try.func135, Try.ntmps135
    go_wp2_with fail
    go_region_law (first
      | (go_simp; (go_at_call 135; ((with_reducible refine (Hka.out _ Hhva.out).mono ?_); rintro e wa ⟨Aa, qa, rfl, owna, hba⟩; (have hva2 := Hhvb.out.below hba; have fst := True.intro))))
      | (go_simp; (go_at_call 135; ((with_reducible refine (Hkb.out _ Hhvb.out).mono ?_); rintro e wb ⟨Ab, qb, rfl, ownb, hbb⟩; (have hvb2 := Hhva.out.below hbb; have fst := True.intro))))
      | (go_simp; (go_at_call 135; ((with_reducible refine (Hkb.out _ hva2).mono ?_); rintro e wb ⟨Ab, qb, rfl, ownb, hbb⟩; skip)))
      | (go_simp; (go_at_call 135; ((with_reducible refine (Hka.out _ hvb2).mono ?_); rintro e wa ⟨Aa, qa, rfl, owna, hba⟩; skip))))
    all_goals
      have hbw : Below w.heap.size w w.drew := (Below.refl _ _).drew
      first
      | (obtain ⟨pa, pb, e1, e2, hxa, hxb, hro, -⟩ := rows_two (SegM.below owna hbb) ownb hba.size hbb.size
         have hbs := (hbw.trans (hba.mono hbw.size)).trans (hbb.mono (hbw.trans (hba.mono hbw.size)).size)
         clear owna ownb hba hbb
         generalize wb = ws at *)
      | (obtain ⟨pb, pa, e2, e1, hxb, hxa, -, hro⟩ := rows_two (SegM.below ownb hba) owna hbb.size hba.size
         have hbs := (hbw.trans (hbb.mono hbw.size)).trans (hba.mono (hbw.trans (hbb.mono hbw.size)).size)
         clear owna ownb hba hbb
         generalize wa = ws at *)
      have hpl : pa.length + pb.length ≤ 1099511627775 := by
        have q1 := congrArg List.length e1
        have q2 := congrArg List.length e2
        rw [List.length_map] at q1 q2
        have := Hhl.out
        omega
      have hgoal : ([] : PL).map Prod.snd ++ mergeI (pa.map Prod.snd) (pb.map Prod.snd) = mergeI RA RB := by rw [e1, e2]; rfl
      obtain ⟨Z, hZe⟩ : ∃ Z, mergeI RA RB = Z := ⟨_, rfl⟩
      rw [hZe] at hgoal
      replace hro : RowsOwn ws w.drew.heap.size ws.heap.size ([] ++ pa ++ pb) := hro
      clear la lb
      have He1 := Lib.hid e1; clear e1; have He2 := Lib.hid e2; clear e2; have Hhxa := Lib.hid hxa; clear hxa; have Hhxb := Lib.hid hxb; clear hxb; have Hhro := Lib.hid hro; clear hro; have Hhgoal := Lib.hid hgoal; clear hgoal; have HhZe := Lib.hid hZe; clear hZe
      go_wp2_with fail
      go_loopw [4, 5, 6] (fun va vb vo wr => ∃ po pa pb : PL, VRow ws va (pa.map Prod.fst) ∧ VRow ws vb (pb.map Prod.fst) ∧ wr.ownsRow ws.heap.size 22 1 vo po.length (po.map Prod.fst) ∧ RowsOwn ws w.heap.size ws.heap.size (po ++ pa ++ pb) ∧ po.map Prod.snd ++ mergeI (pa.map Prod.snd) (pb.map Prod.snd) = Z ∧ po.length + pa.length + pb.length ≤ 1099511627775 ∧ Below ws.heap.size ws wr) (fun va vb _ _ => lenOf va + lenOf vb)
      case atStart => exact ⟨[], pa, pb, Hhxa.out, Hhxb.out, World.ownsRow_nil _ _ _ _, Hhro.out, Hhgoal.out, by simpa using hpl, Below.refl _ _⟩
      case round =>
        clear hpl
        obtain ⟨po, pa, pb, hxa, hxb, hown, hro, hZ, hpl, hb⟩ := hrel
        have hsz := hb.size
        have hxa1 := hxa
        have hxb1 := hxb
        cases pa with
        | nil =>
          cases pb with
          | nil =>
            obtain ⟨A5, c5, rfl, -⟩ := hxa
            obtain ⟨A6, c6, rfl, -⟩ := hxb
            rw [List.map_nil, mergeI_nil, List.append_nil] at hZ
            have key : ∀ vo, wr.ownsRow ws.heap.size 22 1 vo po.length (po.map Prod.fst) → OwnM wr w.heap.size vo Z := by
              intro vo hown
              have hro2 : RowsOwn ws w.heap.size ws.heap.size po := by simpa using hro
              refine ⟨po, hZ, ?_, fun g hg => (hown.lt g hg).2, (hro2.below hb).wide (Nat.le_refl _) hb.size⟩
              rw [← hZ, List.length_map]
              exact ownsRow_mono hown hbs.size
            have hown2 := key _ hown
            clear key
            obtain ⟨A7, c7, e7⟩ := MRow.opened (SegM.row hown2)
            subst e7
            have Hhro := Lib.hid hro; clear hro; have HhZ := Lib.hid hZ; clear hZ; have Hhown := Lib.hid hown; clear hown; have Hhown2 := Lib.hid hown2; clear hown2; have Hhxa1 := Lib.hid hxa1; clear hxa1; have Hhxb1 := Lib.hid hxb1; clear hxb1
            go_wp2_with fail
            go_ret
            rw [HhZe.out]
            exact ⟨_, _, rfl, Hhown2.out, hbs.trans (hb.mono hbs.size)⟩
          | cons xb pb =>
            obtain ⟨A5, c5, rfl, -⟩ := hxa
            obtain ⟨xbv, xbr⟩ := xb
            have hsb := hro.1 (xbv, xbr) (by simp)
            obtain ⟨Ab, qb, exb, -⟩ := IRow.open (SegI.row hsb)
            simp only at exb
            subst exb
            have hrb := IRow.below (SegI.row hsb) hb
            simp only at hrb
            simp only [List.map_cons] at hxb
            obtain ⟨bb, ob, cb, rfl, xbc, lb, ub, altb⟩ := VRow.pop hxb
            simp only [List.length_map] at lb altb ⊢
            replace xbc := cellB hb xbc
            obtain ⟨lab, hlab⟩ : ∃ la, pb.length + 1 = la := ⟨_, rfl⟩
            have hlab' : lab - 1 = pb.length := by omega
            have gab : (0 : Int) < (lab : Int) := by omega
            have gbb : ((lab : Int) == 0) = false := by rw [beq_eq_false_iff_ne]; omega
            have gcb : (lab == 0) = false := by rw [beq_eq_false_iff_ne]; omega
            have gdb : 1 ≤ lab := by omega
            have geb : (1 : Int) ≤ (lab : Int) := by omega
            rw [hlab]
            simp only [List.length_map] at hxb1
            rw [hlab] at hxb1
            have hZ2 : (po ++ [(Value.slice Ab xbr.length qb, xbr)]).map Prod.snd ++ mergeI (([] : PL).map Prod.snd) (pb.map Prod.snd) = Z := by rw [← hZ]; simp [mergeI_nil]
            have hro2 : RowsOwn ws w.heap.size ws.heap.size (po ++ [(Value.slice Ab xbr.length qb, xbr)] ++ ([] : PL) ++ pb) := by simpa using hro
            simp only [List.length_append, List.length_cons, List.length_nil] at hpl
            rcases altb with ⟨rfl, -, hxb2⟩ | ⟨hcb, hxb2⟩
            all_goals
              have Hhro := Lib.hid hro; clear hro; have HhZ := Lib.hid hZ; clear hZ; have Hhxa1 := Lib.hid hxa1; clear hxa1; have Hhxb1 := Lib.hid hxb1; clear hxb1; have HhZ2 := Lib.hid hZ2; clear hZ2; have Hhro2 := Lib.hid hro2; clear hro2; have Hhxb2 := Lib.hid hxb2; clear hxb2; have Hhsb := Lib.hid hsb; clear hsb; have Hhrb := Lib.hid hrb; clear hrb; have Hhlab := Lib.hid hlab; clear hlab
              go_wp2_with ((at_builtin; go_must (refine wp_append_one rowT rfl _ _ rfl ws.heap.size _ po.length (po.map Prod.fst) rfl hown _ rfl rfl (by omega) hsz ?_; intro v2 w2 hown2 hgr2 hb2; replace hown2 := own_pushP xbr hown2)))
              go_roundw
              case rel => exact ⟨_, [], pb, Hhxa1.out, Hhxb2.out, hown2, Hhro2.out, HhZ2.out, by simp; omega, hb.trans hb2⟩
              case measure => simp [lenOf] <;> omega
        | cons xa pa =>
          cases pb with
          | nil =>
            obtain ⟨A5, c5, rfl, -⟩ := hxb
            obtain ⟨xav, xar⟩ := xa
            have hsa := hro.1 (xav, xar) (by simp)
            obtain ⟨Aa, qa, exa, -⟩ := IRow.open (SegI.row hsa)
            simp only at exa
            subst exa
            have hra := IRow.below (SegI.row hsa) hb
            simp only at hra
            simp only [List.map_cons] at hxa
            obtain ⟨ba, oa, ca, rfl, xac, la, ua, alta⟩ := VRow.pop hxa
            simp only [List.length_map] at la alta ⊢
            replace xac := cellB hb xac
            obtain ⟨laa, hlaa⟩ : ∃ la, pa.length + 1 = la := ⟨_, rfl⟩
            have hlaa' : laa - 1 = pa.length := by omega
            have gaa : (0 : Int) < (laa : Int) := by omega
            have gba : ((laa : Int) == 0) = false := by rw [beq_eq_false_iff_ne]; omega
            have gca : (laa == 0) = false := by rw [beq_eq_false_iff_ne]; omega
            have gda : 1 ≤ laa := by omega
            have gea : (1 : Int) ≤ (laa : Int) := by omega
            rw [hlaa]
            simp only [List.length_map] at hxa1
            rw [hlaa] at hxa1
            have hZ2 : (po ++ [(Value.slice Aa xar.length qa, xar)]).map Prod.snd ++ mergeI (pa.map Prod.snd) (([] : PL).map Prod.snd) = Z := by rw [← hZ]; simp [mergeI_nil']
            have hro2 : RowsOwn ws w.heap.size ws.heap.size (po ++ [(Value.slice Aa xar.length qa, xar)] ++ pa ++ ([] : PL)) := by simpa using hro
            simp only [List.length_append, List.length_cons, List.length_nil] at hpl
            rcases alta with ⟨rfl, -, hxa2⟩ | ⟨hca, hxa2⟩
            all_goals
              have Hhro := Lib.hid hro; clear hro; have HhZ := Lib.hid hZ; clear hZ; have Hhxa1 := Lib.hid hxa1; clear hxa1; have Hhxb1 := Lib.hid hxb1; clear hxb1; have HhZ2 := Lib.hid hZ2; clear hZ2; have Hhro2 := Lib.hid hro2; clear hro2; have Hhxa2 := Lib.hid hxa2; clear hxa2; have Hhsa := Lib.hid hsa; clear hsa; have Hhra := Lib.hid hra; clear hra; have Hhlaa := Lib.hid hlaa; clear hlaa
              go_wp2_with ((at_builtin; go_must (refine wp_append_one rowT rfl _ _ rfl ws.heap.size _ po.length (po.map Prod.fst) rfl hown _ rfl rfl (by omega) hsz ?_; intro v2 w2 hown2 hgr2 hb2; replace hown2 := own_pushP xar hown2)))
              go_roundw
              case rel => exact ⟨_, pa, [], Hhxa2.out, Hhxb1.out, hown2, Hhro2.out, HhZ2.out, by simp; omega, hb.trans hb2⟩
              case measure => simp [lenOf] <;> omega
          | cons xb pb =>
            obtain ⟨xav, xar⟩ := xa
            have hsa := hro.1 (xav, xar) (by simp)
            obtain ⟨Aa, qa, exa, -⟩ := IRow.open (SegI.row hsa)
            simp only at exa
            subst exa
            have hra := IRow.below (SegI.row hsa) hb
            simp only at hra
            simp only [List.map_cons] at hxa
            obtain ⟨ba, oa, ca, rfl, xac, la, ua, alta⟩ := VRow.pop hxa
            simp only [List.length_map] at la alta ⊢
            replace xac := cellB hb xac
            obtain ⟨laa, hlaa⟩ : ∃ la, pa.length + 1 = la := ⟨_, rfl⟩
            have hlaa' : laa - 1 = pa.length := by omega
            have gaa : (0 : Int) < (laa : Int) := by omega
            have gba : ((laa : Int) == 0) = false := by rw [beq_eq_false_iff_ne]; omega
            have gca : (laa == 0) = false := by rw [beq_eq_false_iff_ne]; omega
            have gda : 1 ≤ laa := by omega
            have gea : (1 : Int) ≤ (laa : Int) := by omega
            rw [hlaa]
            simp only [List.length_map] at hxa1
            rw [hlaa] at hxa1
            obtain ⟨xbv, xbr⟩ := xb
            have hsb := hro.1 (xbv, xbr) (by simp)
            obtain ⟨Ab, qb, exb, -⟩ := IRow.open (SegI.row hsb)
            simp only at exb
            subst exb
            have hrb := IRow.below (SegI.row hsb) hb
            simp only at hrb
            simp only [List.map_cons] at hxb
            obtain ⟨bb, ob, cb, rfl, xbc, lb, ub, altb⟩ := VRow.pop hxb
            simp only [List.length_map] at lb altb ⊢
            replace xbc := cellB hb xbc
            obtain ⟨lab, hlab⟩ : ∃ la, pb.length + 1 = la := ⟨_, rfl⟩
            have hlab' : lab - 1 = pb.length := by omega
            have gab : (0 : Int) < (lab : Int) := by omega
            have gbb : ((lab : Int) == 0) = false := by rw [beq_eq_false_iff_ne]; omega
            have gcb : (lab == 0) = false := by rw [beq_eq_false_iff_ne]; omega
            have gdb : 1 ≤ lab := by omega
            have geb : (1 : Int) ≤ (lab : Int) := by omega
            rw [hlab]
            simp only [List.length_map] at hxb1
            rw [hlab] at hxb1
            have k1 := fun W h h' => CompareRows_i (.slice Aa xar.length qa) (.slice Ab xbr.length qb) xar xbr W h h'
            have ya := cell_regrown xac
            have yb := cell_regrown xbc
            simp only [List.length_append, List.length_cons] at hpl
            simp only [List.map_cons] at hZ
            rw [mergeI_cons] at hZ
            obtain ⟨z, hz⟩ : ∃ z, cmpRow xar xbr = z := ⟨_, rfl⟩
            rw [hz] at hZ k1
            rcases Int.lt_trichotomy z 0 with hlt | heq | hgt
            · rw [if_pos hlt] at hZ
              have hZ2 : (po ++ [(Value.slice Aa xar.length qa, xar)]).map Prod.snd ++ mergeI (pa.map Prod.snd) ((((Value.slice Ab xbr.length qb, xbr) : Value × List Int) :: pb).map Prod.snd) = Z := by rw [← hZ]; simp
              have hro2 : RowsOwn ws w.heap.size ws.heap.size (po ++ [(Value.slice Aa xar.length qa, xar)] ++ pa ++ ((Value.slice Ab xbr.length qb, xbr) :: pb)) := by simpa using hro
              have gz1 : z ≤ 0 := by omega
              have gz2 : ¬ 0 ≤ z := by omega
              rcases alta with ⟨rfl, -, hxa2⟩ | ⟨hca, hxa2⟩
              all_goals
                have Hhro := Lib.hid hro; clear hro; have HhZ := Lib.hid hZ; clear hZ; have Hhxa1 := Lib.hid hxa1; clear hxa1; have Hhxb1 := Lib.hid hxb1; clear hxb1; have HhZ2 := Lib.hid hZ2; clear hZ2; have Hhro2 := Lib.hid hro2; clear hro2; have Hhxa2 := Lib.hid hxa2; clear hxa2; have Hhsa := Lib.hid hsa; clear hsa; have Hhra := Lib.hid hra; clear hra; have Hhlaa := Lib.hid hlaa; clear hlaa; have Hhsb := Lib.hid hsb; clear hsb; have Hhrb := Lib.hid hrb; clear hrb; have Hhlab := Lib.hid hlab; clear hlab; have Hk1 := Lib.hid k1; clear k1; have Hhz := Lib.hid hz; clear hz; have Hhown := Lib.hid hown; clear hown
                go_wp2_with fail
                refine wp_region_below (by kernel_rfl) (by kernel_rfl) ?_; (repeat (quiet_step (first | with_reducible exact regB (Hk1.out _ (Hhra.out.below (below_regrown _ _ _)) (Hhrb.out.below (below_regrown _ _ _)))))); refine wpQuiet_nil ?_
                intro w8 hb8
                replace hb := hb.trans (hb8.mono hb.size)
                replace hsz := hb.size
                replace xac := cellB hb8 xac
                replace xbc := cellB hb8 xbc
                have hown := own_below Hhown.out hb8
                go_wp2_with ((at_builtin; go_must (refine wp_append_one rowT rfl _ _ rfl ws.heap.size _ po.length (po.map Prod.fst) rfl hown _ rfl rfl (by omega) hsz ?_; intro v2 w2 hown2 hgr2 hb2; replace hown2 := own_pushP xar hown2)))
                go_roundw
                case rel => exact ⟨_, pa, _, Hhxa2.out, Hhxb1.out, hown2, Hhro2.out, HhZ2.out, by simp; omega, hb.trans hb2⟩
                case measure => simp [lenOf] <;> omega
            · subst heq
              have hxab := cmpRow_eq hz
              rw [if_neg (by omega), if_pos rfl] at hZ
              have hZ2 : (po ++ [(Value.slice Aa xar.length qa, xar)]).map Prod.snd ++ mergeI (pa.map Prod.snd) (pb.map Prod.snd) = Z := by rw [← hZ]; simp
              have hro2 : RowsOwn ws w.heap.size ws.heap.size (po ++ [(Value.slice Aa xar.length qa, xar)] ++ pa ++ pb) := by
                refine hro.sub ?_
                simp
              clear hxab
              rcases alta with ⟨rfl, -, hxa2⟩ | ⟨hca, hxa2⟩ <;> rcases altb with ⟨rfl, -, hxb2⟩ | ⟨hcb, hxb2⟩
              all_goals
                have Hhro := Lib.hid hro; clear hro; have HhZ := Lib.hid hZ; clear hZ; have Hhxa1 := Lib.hid hxa1; clear hxa1; have Hhxb1 := Lib.hid hxb1; clear hxb1; have HhZ2 := Lib.hid hZ2; clear hZ2; have Hhro2 := Lib.hid hro2; clear hro2; have Hhxa2 := Lib.hid hxa2; clear hxa2; have Hhxb2 := Lib.hid hxb2; clear hxb2; have Hhsa := Lib.hid hsa; clear hsa; have Hhra := Lib.hid hra; clear hra; have Hhlaa := Lib.hid hlaa; clear hlaa; have Hhsb := Lib.hid hsb; clear hsb; have Hhrb := Lib.hid hrb; clear hrb; have Hhlab := Lib.hid hlab; clear hlab; have Hk1 := Lib.hid k1; clear k1; have Hhz := Lib.hid hz; clear hz; have Hhown := Lib.hid hown; clear hown
                go_wp2_with fail
                refine wp_region_below (by kernel_rfl) (by kernel_rfl) ?_; (repeat (quiet_step (first | with_reducible exact regB (Hk1.out _ (Hhra.out.below (below_regrown _ _ _)) (Hhrb.out.below (below_regrown _ _ _)))))); refine wpQuiet_nil ?_
                intro w8 hb8
                replace hb := hb.trans (hb8.mono hb.size)
                replace hsz := hb.size
                replace xac := cellB hb8 xac
                replace xbc := cellB hb8 xbc
                have hown := own_below Hhown.out hb8
                go_wp2_with ((at_builtin; go_must (refine wp_append_one rowT rfl _ _ rfl ws.heap.size _ po.length (po.map Prod.fst) rfl hown _ rfl rfl (by omega) hsz ?_; intro v2 w2 hown2 hgr2 hb2; replace hown2 := own_pushP xar hown2)))
                go_roundw
                case rel => exact ⟨_, pa, pb, Hhxa2.out, Hhxb2.out, hown2, Hhro2.out, HhZ2.out, by simp; omega, hb.trans hb2⟩
                case measure => simp [lenOf] <;> omega
            · rw [if_neg (by omega), if_neg (by omega)] at hZ
              have hZ2 : (po ++ [(Value.slice Ab xbr.length qb, xbr)]).map Prod.snd ++ mergeI ((((Value.slice Aa xar.length qa, xar) : Value × List Int) :: pa).map Prod.snd) (pb.map Prod.snd) = Z := by rw [← hZ]; simp
              have hro2 : RowsOwn ws w.heap.size ws.heap.size (po ++ [(Value.slice Ab xbr.length qb, xbr)] ++ ((Value.slice Aa xar.length qa, xar) :: pa) ++ pb) := by
                refine hro.perm ?_
                rw [List.append_assoc, List.append_assoc, List.append_assoc]
                exact List.Perm.append_left po List.perm_middle
              have gz1 : ¬ z ≤ 0 := by omega
              have gz2 : 0 ≤ z := by omega
              have gz3 : 0 < z := by omega
              rcases altb with ⟨rfl, -, hxb2⟩ | ⟨hcb, hxb2⟩
              all_goals
                have Hhro := Lib.hid hro; clear hro; have HhZ := Lib.hid hZ; clear hZ; have Hhxa1 := Lib.hid hxa1; clear hxa1; have Hhxb1 := Lib.hid hxb1; clear hxb1; have HhZ2 := Lib.hid hZ2; clear hZ2; have Hhro2 := Lib.hid hro2; clear hro2; have Hhxb2 := Lib.hid hxb2; clear hxb2; have Hhsa := Lib.hid hsa; clear hsa; have Hhra := Lib.hid hra; clear hra; have Hhlaa := Lib.hid hlaa; clear hlaa; have Hhsb := Lib.hid hsb; clear hsb; have Hhrb := Lib.hid hrb; clear hrb; have Hhlab := Lib.hid hlab; clear hlab; have Hk1 := Lib.hid k1; clear k1; have Hhz := Lib.hid hz; clear hz; have Hhown := Lib.hid hown; clear hown
                go_wp2_with fail
                refine wp_region_below (by kernel_rfl) (by kernel_rfl) ?_; (repeat (quiet_step (first | with_reducible exact regB (Hk1.out _ (Hhra.out.below (below_regrown _ _ _)) (Hhrb.out.below (below_regrown _ _ _)))))); refine wpQuiet_nil ?_
                intro w8 hb8
                replace hb := hb.trans (hb8.mono hb.size)
                replace hsz := hb.size
                replace xac := cellB hb8 xac
                replace xbc := cellB hb8 xbc
                have hown := own_below Hhown.out hb8
                go_wp2_with ((at_builtin; go_must (refine wp_append_one rowT rfl _ _ rfl ws.heap.size _ po.length (po.map Prod.fst) rfl hown _ rfl rfl (by omega) hsz ?_; intro v2 w2 hown2 hgr2 hb2; replace hown2 := own_pushP xbr hown2)))
                go_roundw
                case rel => exact ⟨_, _, pb, Hhxa1.out, Hhxb2.out, hown2, Hhro2.out, HhZ2.out, by simp; omega, hb.trans hb2⟩
                case measure => simp [lenOf] <;> omega
end Go.Proofs.Ytbajnecahojcfaa
