/- The reference's sort. (Written by mksorts.py.) -/
import Derived.Test.YtbajnecahojcfaaSort
namespace Go.Proofs.Ytbajnecahojcfaa
open Go.RowKit Go.Sort
set_option maxHeartbeats 8000000
set_option maxRecDepth 100000

theorem addS_last (o : List (List Int)) (l x : List Int) : addS (o ++ [l]) x = if cmpRow l x = 0 then o ++ [l] else o ++ [l] ++ [x] := by
  unfold addS
  rw [List.getLast?_concat]
theorem wp_append_oneG {t e : TypeId} {z : Value} {bytes : Nat} (E : ElemT t e z bytes) {w : World} {ops : Array Oper} {rest : List Oper} {o : Oper} {a : Act} {Q : Exit → Act → World → Prop} (hgd : o.guard = none) (s x : Operand)
    (ho : o.op = .call { callee := .builtin .append, args := #[s, x], argTypes := #[t, t] }) (base : Nat) (v : Value) (n : Nat) (xs : List Value) (hs : a.eval s = v) (hown : w.ownsRow base e 1 v n xs)
    (u : Value) (g : Nat) (hx : a.eval x = .slice (some ⟨g, 0, none⟩) 1 1) (hg : g = w.heap.size) (h1 : u.oneCell' = true) (hn : n + 1 ≤ 1099511627776) (hbase : base ≤ w.heap.size)
    (h : ∀ v' w', w'.ownsRow base e 1 v' (n + 1) (xs ++ [u]) → w.grownBy w' v.ownBlock → Below base w w' → wpList Try.prog ops Q rest (a.put o.dst v') w') : wpList Try.prog ops Q (o :: rest) a (w.alloc (.cells #[u] e)) := by
  subst hg
  exact wp_append_one E hgd s x ho base v n xs hs hown u hx h1 hn hbase h
theorem mergeS_an (o : List (List Int)) (x : List Int) (a : List (List Int)) : mergeS o (x :: a) [] = mergeS (addS o x) a [] := mergeS_cn o a x
def RetR (m : List (List Int)) (w : World) (e : Ending) (w' : World) : Prop := ∃ A c, e = .returned (.slice A m.length c) ∧ MRow w' (.slice A m.length c) m ∧ Below w.heap.size w w'
theorem l5Sort_small (m : List (List Int)) (h2 : m.length < 2) (v : Value) (w : World) (hv : MRow w v m) : Calls Try.prog 136 #[v] w (RetR (sortS m) w) := by
  have g2 : (m.length : Int) < 2 := by omega
  rw [sortS_small h2]
  obtain ⟨A, c, e⟩ := MRow.opened hv
  subst e
  have Hhv := Lib.hid hv; clear hv
  go_enter Try.func136, Try.ntmps136
  go_wp2_with fail
  go_ret
  exact ⟨_, _, rfl, Hhv.out, Below.refl _ _⟩
theorem l5Sort_s : ∀ (n : Nat) (m : List (List Int)), m.length ≤ n → m.length + total m ≤ 1099511627775 → ∀ (v : Value) (w : World), MRow w v m → Calls Try.prog 136 #[v] w (RetR (sortS m) w) := by
  intro n
  induction n with
  | zero => intro m hn hl v w hv; exact l5Sort_small m (by omega) v w hv
  | succ n ih =>
    intro m hn hl v w hv
    by_cases h2 : m.length < 2
    · exact l5Sort_small m h2 v w hv
    have g2 : ¬ (m.length : Int) < 2 := by omega
    obtain ⟨A, c, e, hc, hcm, -, hA⟩ := MRow.open hv
    obtain ⟨b, off, rfl, -⟩ := hA 0 (by omega)
    subst e
    clear hA
    obtain ⟨k, hk⟩ : ∃ k, m.length / 2 = k := ⟨_, rfl⟩
    have hq : (m.length : Int).tdiv 2 = (k : Int) := by rw [Int.tdiv_eq_ediv_of_nonneg (by omega)]; omega
    have hva := MRow.take (k := k) hv (by omega)
    have hvb := MRow.drop (k := k) hv (by omega)
    have hsort := sortS_great h2
    rw [hk] at hsort
    have ht := total_half m k
    have ka := fun W h => ih (m.take k) (by simp; omega) (by simp; omega) (.slice (some ⟨b, off, none⟩) k c) W h
    have kb := fun W h => ih (m.drop k) (by simp; omega) (by simp; omega) (.slice (some ⟨b, off + k, none⟩) (m.length - k) (c - k)) W h
    have la := sortI_len _ (m.take k) (Nat.le_refl _)
    have lb := sortI_len _ (m.drop k) (Nat.le_refl _)
    rw [List.length_take] at la
    rw [List.length_drop] at lb
    have hc0 : ¬ c = 0 := by omega
    have hck : ¬ c = k := by omega
    have hkc : k ≤ c := by omega
    have hkm : k ≤ m.length := by omega
    have hk0 : (0 : Int) ≤ (k : Int) := by omega
    rw [hsort]
    rw [← sort_same] at la lb
    generalize hRA : sortS (m.take k) = RA at *
    generalize hRB : sortS (m.drop k) = RB at *
    have Hhv := Lib.hid hv; clear hv; have Hhva := Lib.hid hva; clear hva; have Hhvb := Lib.hid hvb; clear hvb; have Hht := Lib.hid ht; clear ht; have Hka := Lib.hid ka; clear ka; have Hkb := Lib.hid kb; clear kb; have Hhsort := Lib.hid hsort; clear hsort; have HhRA := Lib.hid hRA; clear hRA; have HhRB := Lib.hid hRB; clear hRB; have Hhk := Lib.hid hk; clear hk; have Hih := Lib.hid ih; clear ih; have Hhl := Lib.hid hl; clear hl; have Hhn := Lib.hid hn; clear hn; have Hh2 := Lib.hid h2; clear h2
    go_enter Try.func136, Try.ntmps136
    go_wp2_with (first
      | (go_at_call 136; ((with_reducible refine (Hka.out _ Hhva.out).mono ?_); rintro e wa ⟨Aa, qa, rfl, rowa, hba⟩; (have hvb2 := Hhvb.out.below hba)))
      | (go_at_call 136; ((with_reducible refine (Hkb.out _ hvb2).mono ?_); rintro e wb ⟨Ab, qb, rfl, rowb, hbb⟩; skip)))
    have rowa2 := rowa.below hbb
    obtain ⟨pa, e1, hxa, hpa⟩ := rowa2
    obtain ⟨pb, e2, hxb, hpb⟩ := rowb
    have hbs := hba.trans (hbb.mono hba.size)
    clear rowa hba hbb
    generalize wb = ws at *
    have hpl : pa.length + pb.length ≤ 1099511627775 := by
      have q1 := congrArg List.length e1
      have q2 := congrArg List.length e2
      rw [List.length_map] at q1 q2
      have := Hhl.out
      omega
    obtain ⟨Z, hZe⟩ : ∃ Z, mergeS [] RA RB = Z := ⟨_, rfl⟩
    have hgoal : mergeS (([] : PL).map Prod.snd) (pa.map Prod.snd) (pb.map Prod.snd) = Z := by rw [e1, e2]; exact hZe
    have hro : ∀ p ∈ ([] : PL) ++ pa ++ pb, IRow ws p.1 p.2 := fun p hp => by
      rw [List.nil_append] at hp
      exact (List.mem_append.1 hp).elim (hpa p) (hpb p)
    have hown0 := lit_nil ws 22 (Nat.le_refl ws.heap.size)
    have hb0 : Below ws.heap.size ws (ws.alloc (.cells #[] 22)) := (Below.refl _ _).alloc (Nat.le_refl _) _
    clear la lb hpa hpb
    have He1 := Lib.hid e1; clear e1; have He2 := Lib.hid e2; clear e2; have Hhxa := Lib.hid hxa; clear hxa; have Hhxb := Lib.hid hxb; clear hxb; have Hhro := Lib.hid hro; clear hro; have Hhgoal := Lib.hid hgoal; clear hgoal; have HhZe := Lib.hid hZe; clear hZe; have Hhown0 := Lib.hid hown0; clear hown0; have Hhb0 := Lib.hid hb0; clear hb0
    go_loopw [4, 5, 6] (fun va vb vo wr => ∃ po pa pb : PL, VRow ws va (pa.map Prod.fst) ∧ VRow ws vb (pb.map Prod.fst) ∧ wr.ownsRow ws.heap.size 22 1 vo po.length (po.map Prod.fst) ∧ (∀ p ∈ po ++ pa ++ pb, IRow ws p.1 p.2) ∧ mergeS (po.map Prod.snd) (pa.map Prod.snd) (pb.map Prod.snd) = Z ∧ po.length + pa.length + pb.length ≤ 1099511627775 ∧ Below ws.heap.size ws wr) (fun va vb _ _ => lenOf va + lenOf vb)
    case atStart => exact ⟨[], pa, pb, Hhxa.out, Hhxb.out, Hhown0.out, Hhro.out, Hhgoal.out, by simpa using hpl, Hhb0.out⟩
    case round =>
      clear hpl
      obtain ⟨po, pa, pb, hxa, hxb, hown, hro, hZ, hpl, hb⟩ := hrel
      have hxa1 := hxa
      have hxb1 := hxb
      by_cases hend : pa = [] ∧ pb = []
      · obtain ⟨rfl, rfl⟩ := hend
        obtain ⟨A5, c5, rfl, -⟩ := hxa
        obtain ⟨A6, c6, rfl, -⟩ := hxb
        simp only [List.map_nil] at hZ
        rw [mergeS_nn] at hZ
        have key : ∀ vo, wr.ownsRow ws.heap.size 22 1 vo po.length (po.map Prod.fst) → MRow wr vo Z := fun vo hown => ⟨po, hZ, VRow.own hown, fun p hp => (hro p (by simp [hp])).below hb⟩
        have hown2 := key _ hown
        clear key
        obtain ⟨A7, c7, e7⟩ := MRow.opened hown2
        subst e7
        have Hhro := Lib.hid hro; clear hro; have HhZ := Lib.hid hZ; clear hZ; have Hhown := Lib.hid hown; clear hown; have Hhown2 := Lib.hid hown2; clear hown2; have Hhxa1 := Lib.hid hxa1; clear hxa1; have Hhxb1 := Lib.hid hxb1; clear hxb1
        go_wp2_with fail
        go_ret
        rw [HhZe.out]
        exact ⟨_, _, rfl, Hhown2.out, hbs.trans (hb.mono hbs.size)⟩
      rcases List.eq_nil_or_concat po with rfl | ⟨po', l, rfl⟩
      · simp only [List.map_nil, List.length_nil] at hown
        obtain ⟨A9, c9, rfl, -⟩ := VRow.own hown
        simp only [List.length_nil] at hown ⊢
        cases pa with
        | nil =>
          cases pb with
          | nil => exact absurd ⟨rfl, rfl⟩ hend
          | cons xb pb =>
            obtain ⟨A5, c5, rfl, -⟩ := hxa
            clear hend
            obtain ⟨xbv, xbr⟩ := xb
            have hsb := hro (xbv, xbr) (by simp)
            simp only at hsb
            obtain ⟨Ab, qb, exb, -⟩ := IRow.open hsb
            subst exb
            have hrb := IRow.below hsb hb
            simp only [List.map_cons] at hxb
            obtain ⟨bb, ob, cb, rfl, xbc, lb, ub, altb⟩ := VRow.pop hxb
            simp only [List.length_map] at lb altb ⊢
            replace xbc := cellB hb xbc
            obtain ⟨lab, hlab⟩ : ∃ la, pb.length + 1 = la := ⟨_, rfl⟩
            have hlab' : lab - 1 = pb.length := by omega
            have gab : (0 : Int) < (lab : Int) := by omega
            have gbb : ((lab : Int) == 0) = false := by rw [beq_eq_false_iff_ne]; omega
            have gcb : (lab == 0) = false := by rw [beq_eq_false_iff_ne]; omega
            have gdb : 1 ≤ lab := by omega
            have geb : (1 : Int) ≤ (lab : Int) := by omega
            rw [hlab]
            simp only [List.length_map] at hxb1
            rw [hlab] at hxb1
            simp only [List.map_nil, List.map_cons] at hZ
            rw [mergeS_nc] at hZ
            rcases altb with ⟨rfl, -, hxb2⟩ | ⟨hcb, hxb2⟩
            all_goals
              have hZ2 : mergeS (([((Value.slice Ab xbr.length qb, xbr) : Value × List Int)] : PL).map Prod.snd) (([] : PL).map Prod.snd) (pb.map Prod.snd) = Z := by rw [← hZ]; rfl
              have hro2 : ∀ p ∈ ([((Value.slice Ab xbr.length qb, xbr) : Value × List Int)] : PL) ++ ([] : PL) ++ pb, IRow ws p.1 p.2 := fun p hp => hro p (by first | grind | (simp at hp ⊢; grind))
              have hpl2 : ([((Value.slice Ab xbr.length qb, xbr) : Value × List Int)] : PL).length + ([] : PL).length + pb.length ≤ 1099511627775 := by simp at hpl ⊢; omega
              have hplZ : ([] : PL).length + 1 ≤ 1099511627776 := by simp
              have Hhro := Lib.hid hro; clear hro; have HhZ := Lib.hid hZ; clear hZ; have Hhxa1 := Lib.hid hxa1; clear hxa1; have Hhxb1 := Lib.hid hxb1; clear hxb1; have Hhxb2 := Lib.hid hxb2; clear hxb2; have Hhown := Lib.hid hown; clear hown; have Hhpl := Lib.hid hpl; clear hpl; have Hhsb := Lib.hid hsb; clear hsb; have Hhlab := Lib.hid hlab; clear hlab; have Hhrb := Lib.hid hrb; clear hrb; have HhZ2 := Lib.hid hZ2; clear hZ2; have Hhro2 := Lib.hid hro2; clear hro2; have Hhpl2 := Lib.hid hpl2; clear hpl2
              have hbY := hb
              have hownY := Hhown.out
              have xcY := xbc
              have hrY := Hhrb.out
              have hbZ := hbY.alloc hbY.size (.cells #[] 3)
              have hszZ := hbZ.size
              have hownZ := World.ownsRow.alloc hownY (.cells #[] 3)
              have xcZ := fun o => cellN xcY o
              have hrZ := IRow.alloc hrY (.cells #[] 3)
              clear hownY hrY xcY
              go_wp2_with ((at_builtin; go_must (refine wp_append_oneG rowT rfl _ _ rfl ws.heap.size _ ([] : PL).length (([] : PL).map Prod.fst) rfl hownZ _ _ rfl (by simp) rfl hplZ hszZ ?_; intro v2 w2 hown2 hgr2 hb2; replace hown2 := own_pushP xbr hown2)))
              replace hown2 : w2.ownsRow ws.heap.size 22 1 v2 (([((Value.slice Ab xbr.length qb, xbr) : Value × List Int)] : PL).length) (([((Value.slice Ab xbr.length qb, xbr) : Value × List Int)] : PL).map Prod.fst) := hown2
              go_roundw
              case rel => exact ⟨([((Value.slice Ab xbr.length qb, xbr) : Value × List Int)] : PL), ([] : PL), pb, Hhxa1.out, Hhxb2.out, hown2, Hhro2.out, HhZ2.out, Hhpl2.out, hbZ.trans hb2⟩
              case measure => simp [lenOf] <;> omega
        | cons xa pa =>
          cases pb with
          | nil =>
            obtain ⟨A5, c5, rfl, -⟩ := hxb
            clear hend
            obtain ⟨xav, xar⟩ := xa
            have hsa := hro (xav, xar) (by simp)
            simp only at hsa
            obtain ⟨Aa, qa, exa, -⟩ := IRow.open hsa
            subst exa
            have hra := IRow.below hsa hb
            simp only [List.map_cons] at hxa
            obtain ⟨ba, oa, ca, rfl, xac, la, ua, alta⟩ := VRow.pop hxa
            simp only [List.length_map] at la alta ⊢
            replace xac := cellB hb xac
            obtain ⟨laa, hlaa⟩ : ∃ la, pa.length + 1 = la := ⟨_, rfl⟩
            have hlaa' : laa - 1 = pa.length := by omega
            have gaa : (0 : Int) < (laa : Int) := by omega
            have gba : ((laa : Int) == 0) = false := by rw [beq_eq_false_iff_ne]; omega
            have gca : (laa == 0) = false := by rw [beq_eq_false_iff_ne]; omega
            have gda : 1 ≤ laa := by omega
            have gea : (1 : Int) ≤ (laa : Int) := by omega
            rw [hlaa]
            simp only [List.length_map] at hxa1
            rw [hlaa] at hxa1
            simp only [List.map_nil, List.map_cons] at hZ
            rw [mergeS_cn] at hZ
            rcases alta with ⟨rfl, -, hxa2⟩ | ⟨hca, hxa2⟩
            all_goals
              have hZ2 : mergeS (([((Value.slice Aa xar.length qa, xar) : Value × List Int)] : PL).map Prod.snd) (pa.map Prod.snd) (([] : PL).map Prod.snd) = Z := by rw [← hZ]; rfl
              have hro2 : ∀ p ∈ ([((Value.slice Aa xar.length qa, xar) : Value × List Int)] : PL) ++ pa ++ ([] : PL), IRow ws p.1 p.2 := fun p hp => hro p (by first | grind | (simp at hp ⊢; grind))
              have hpl2 : ([((Value.slice Aa xar.length qa, xar) : Value × List Int)] : PL).length + pa.length + ([] : PL).length ≤ 1099511627775 := by simp at hpl ⊢; omega
              have hplZ : ([] : PL).length + 1 ≤ 1099511627776 := by simp
              have Hhro := Lib.hid hro; clear hro; have HhZ := Lib.hid hZ; clear hZ; have Hhxa1 := Lib.hid hxa1; clear hxa1; have Hhxb1 := Lib.hid hxb1; clear hxb1; have Hhxa2 := Lib.hid hxa2; clear hxa2; have Hhown := Lib.hid hown; clear hown; have Hhpl := Lib.hid hpl; clear hpl; have Hhsa := Lib.hid hsa; clear hsa; have Hhlaa := Lib.hid hlaa; clear hlaa; have Hhra := Lib.hid hra; clear hra; have HhZ2 := Lib.hid hZ2; clear hZ2; have Hhro2 := Lib.hid hro2; clear hro2; have Hhpl2 := Lib.hid hpl2; clear hpl2
              have hbY := hb
              have hownY := Hhown.out
              have xcY := xac
              have hrY := Hhra.out
              have hbZ := hbY.alloc hbY.size (.cells #[] 3)
              have hszZ := hbZ.size
              have hownZ := World.ownsRow.alloc hownY (.cells #[] 3)
              have xcZ := fun o => cellN xcY o
              have hrZ := IRow.alloc hrY (.cells #[] 3)
              clear hownY hrY xcY
              go_wp2_with ((at_builtin; go_must (refine wp_append_oneG rowT rfl _ _ rfl ws.heap.size _ ([] : PL).length (([] : PL).map Prod.fst) rfl hownZ _ _ rfl (by simp) rfl hplZ hszZ ?_; intro v2 w2 hown2 hgr2 hb2; replace hown2 := own_pushP xar hown2)))
              replace hown2 : w2.ownsRow ws.heap.size 22 1 v2 (([((Value.slice Aa xar.length qa, xar) : Value × List Int)] : PL).length) (([((Value.slice Aa xar.length qa, xar) : Value × List Int)] : PL).map Prod.fst) := hown2
              go_roundw
              case rel => exact ⟨([((Value.slice Aa xar.length qa, xar) : Value × List Int)] : PL), pa, ([] : PL), Hhxa2.out, Hhxb1.out, hown2, Hhro2.out, HhZ2.out, Hhpl2.out, hbZ.trans hb2⟩
              case measure => simp [lenOf] <;> omega
          | cons xb pb =>
            clear hend
            obtain ⟨xav, xar⟩ := xa
            have hsa := hro (xav, xar) (by simp)
            simp only at hsa
            obtain ⟨Aa, qa, exa, -⟩ := IRow.open hsa
            subst exa
            have hra := IRow.below hsa hb
            simp only [List.map_cons] at hxa
            obtain ⟨ba, oa, ca, rfl, xac, la, ua, alta⟩ := VRow.pop hxa
            simp only [List.length_map] at la alta ⊢
            replace xac := cellB hb xac
            obtain ⟨laa, hlaa⟩ : ∃ la, pa.length + 1 = la := ⟨_, rfl⟩
            have hlaa' : laa - 1 = pa.length := by omega
            have gaa : (0 : Int) < (laa : Int) := by omega
            have gba : ((laa : Int) == 0) = false := by rw [beq_eq_false_iff_ne]; omega
            have gca : (laa == 0) = false := by rw [beq_eq_false_iff_ne]; omega
            have gda : 1 ≤ laa := by omega
            have gea : (1 : Int) ≤ (laa : Int) := by omega
            rw [hlaa]
            simp only [List.length_map] at hxa1
            rw [hlaa] at hxa1
            obtain ⟨xbv, xbr⟩ := xb
            have hsb := hro (xbv, xbr) (by simp)
            simp only at hsb
            obtain ⟨Ab, qb, exb, -⟩ := IRow.open hsb
            subst exb
            have hrb := IRow.below hsb hb
            simp only [List.map_cons] at hxb
            obtain ⟨bb, ob, cb, rfl, xbc, lb, ub, altb⟩ := VRow.pop hxb
            simp only [List.length_map] at lb altb ⊢
            replace xbc := cellB hb xbc
            obtain ⟨lab, hlab⟩ : ∃ la, pb.length + 1 = la := ⟨_, rfl⟩
            have hlab' : lab - 1 = pb.length := by omega
            have gab : (0 : Int) < (lab : Int) := by omega
            have gbb : ((lab : Int) == 0) = false := by rw [beq_eq_false_iff_ne]; omega
            have gcb : (lab == 0) = false := by rw [beq_eq_false_iff_ne]; omega
            have gdb : 1 ≤ lab := by omega
            have geb : (1 : Int) ≤ (lab : Int) := by omega
            rw [hlab]
            simp only [List.length_map] at hxb1
            rw [hlab] at hxb1
            have k1 := fun W h h' => CompareRows_s (.slice Aa xar.length qa) (.slice Ab xbr.length qb) xar xbr W h h'
            have ya := cell_regrown xac
            have yb := cell_regrown xbc
            simp only [List.map_cons] at hZ
            rw [mergeS_cc] at hZ
            obtain ⟨z, hz⟩ : ∃ z, cmpRow xar xbr = z := ⟨_, rfl⟩
            rw [hz] at hZ k1
            by_cases hgt : 0 < z
            · rw [if_pos hgt] at hZ
              rcases altb with ⟨rfl, -, hxb2⟩ | ⟨hcb, hxb2⟩
              all_goals
                have hZ2 : mergeS (([((Value.slice Ab xbr.length qb, xbr) : Value × List Int)] : PL).map Prod.snd) ((((Value.slice Aa xar.length qa, xar) : Value × List Int) :: pa).map Prod.snd) (pb.map Prod.snd) = Z := by rw [← hZ]; rfl
                have hro2 : ∀ p ∈ ([((Value.slice Ab xbr.length qb, xbr) : Value × List Int)] : PL) ++ (((Value.slice Aa xar.length qa, xar) : Value × List Int) :: pa) ++ pb, IRow ws p.1 p.2 := fun p hp => hro p (by first | grind | (simp at hp ⊢; grind))
                have hpl2 : ([((Value.slice Ab xbr.length qb, xbr) : Value × List Int)] : PL).length + (((Value.slice Aa xar.length qa, xar) : Value × List Int) :: pa).length + pb.length ≤ 1099511627775 := by simp at hpl ⊢; omega
                have hplZ : ([] : PL).length + 1 ≤ 1099511627776 := by simp
                have Hhro := Lib.hid hro; clear hro; have HhZ := Lib.hid hZ; clear hZ; have Hhxa1 := Lib.hid hxa1; clear hxa1; have Hhxb1 := Lib.hid hxb1; clear hxb1; have Hhxb2 := Lib.hid hxb2; clear hxb2; have Hhown := Lib.hid hown; clear hown; have Hhpl := Lib.hid hpl; clear hpl; have Hhsa := Lib.hid hsa; clear hsa; have Hhlaa := Lib.hid hlaa; clear hlaa; have Hhra := Lib.hid hra; clear hra; have Hhsb := Lib.hid hsb; clear hsb; have Hhlab := Lib.hid hlab; clear hlab; have Hhrb := Lib.hid hrb; clear hrb; have HhZ2 := Lib.hid hZ2; clear hZ2; have Hhro2 := Lib.hid hro2; clear hro2; have Hhpl2 := Lib.hid hpl2; clear hpl2; have Hk1 := Lib.hid k1; clear k1; have Hhz := Lib.hid hz; clear hz
                go_wp2_with fail
                refine wp_region_below (by kernel_rfl) (by kernel_rfl) ?_; (repeat (quiet_step (first | with_reducible exact regB (Hk1.out _ (Hhra.out.below (below_regrown _ _ _)) (Hhrb.out.below (below_regrown _ _ _)))))); refine wpQuiet_nil ?_
                intro w8 hb8
                have hbY := hb.trans (hb8.mono hb.size)
                have hownY := own_below Hhown.out hb8
                have xcY := cellB hb8 xbc
                have hrY := IRow.below Hhrb.out hb8
                have hbZ := hbY.alloc hbY.size (.cells #[] 3)
                have hszZ := hbZ.size
                have hownZ := World.ownsRow.alloc hownY (.cells #[] 3)
                have xcZ := fun o => cellN xcY o
                have hrZ := IRow.alloc hrY (.cells #[] 3)
                clear hownY hrY xcY
                go_wp2_with ((at_builtin; go_must (refine wp_append_oneG rowT rfl _ _ rfl ws.heap.size _ ([] : PL).length (([] : PL).map Prod.fst) rfl hownZ _ _ rfl (by simp) rfl hplZ hszZ ?_; intro v2 w2 hown2 hgr2 hb2; replace hown2 := own_pushP xbr hown2)))
                replace hown2 : w2.ownsRow ws.heap.size 22 1 v2 (([((Value.slice Ab xbr.length qb, xbr) : Value × List Int)] : PL).length) (([((Value.slice Ab xbr.length qb, xbr) : Value × List Int)] : PL).map Prod.fst) := hown2
                go_roundw
                case rel => exact ⟨([((Value.slice Ab xbr.length qb, xbr) : Value × List Int)] : PL), (((Value.slice Aa xar.length qa, xar) : Value × List Int) :: pa), pb, Hhxa1.out, Hhxb2.out, hown2, Hhro2.out, HhZ2.out, Hhpl2.out, hbZ.trans hb2⟩
                case measure => simp [lenOf] <;> omega
            · rw [if_neg hgt] at hZ
              rcases alta with ⟨rfl, -, hxa2⟩ | ⟨hca, hxa2⟩
              all_goals
                have hZ2 : mergeS (([((Value.slice Aa xar.length qa, xar) : Value × List Int)] : PL).map Prod.snd) (pa.map Prod.snd) ((((Value.slice Ab xbr.length qb, xbr) : Value × List Int) :: pb).map Prod.snd) = Z := by rw [← hZ]; rfl
                have hro2 : ∀ p ∈ ([((Value.slice Aa xar.length qa, xar) : Value × List Int)] : PL) ++ pa ++ (((Value.slice Ab xbr.length qb, xbr) : Value × List Int) :: pb), IRow ws p.1 p.2 := fun p hp => hro p (by first | grind | (simp at hp ⊢; grind))
                have hpl2 : ([((Value.slice Aa xar.length qa, xar) : Value × List Int)] : PL).length + pa.length + (((Value.slice Ab xbr.length qb, xbr) : Value × List Int) :: pb).length ≤ 1099511627775 := by simp at hpl ⊢; omega
                have hplZ : ([] : PL).length + 1 ≤ 1099511627776 := by simp
                have Hhro := Lib.hid hro; clear hro; have HhZ := Lib.hid hZ; clear hZ; have Hhxa1 := Lib.hid hxa1; clear hxa1; have Hhxb1 := Lib.hid hxb1; clear hxb1; have Hhxa2 := Lib.hid hxa2; clear hxa2; have Hhown := Lib.hid hown; clear hown; have Hhpl := Lib.hid hpl; clear hpl; have Hhsa := Lib.hid hsa; clear hsa; have Hhlaa := Lib.hid hlaa; clear hlaa; have Hhra := Lib.hid hra; clear hra; have Hhsb := Lib.hid hsb; clear hsb; have Hhlab := Lib.hid hlab; clear hlab; have Hhrb := Lib.hid hrb; clear hrb; have HhZ2 := Lib.hid hZ2; clear hZ2; have Hhro2 := Lib.hid hro2; clear hro2; have Hhpl2 := Lib.hid hpl2; clear hpl2; have Hk1 := Lib.hid k1; clear k1; have Hhz := Lib.hid hz; clear hz
                go_wp2_with fail
                refine wp_region_below (by kernel_rfl) (by kernel_rfl) ?_; (repeat (quiet_step (first | with_reducible exact regB (Hk1.out _ (Hhra.out.below (below_regrown _ _ _)) (Hhrb.out.below (below_regrown _ _ _)))))); refine wpQuiet_nil ?_
                intro w8 hb8
                have hbY := hb.trans (hb8.mono hb.size)
                have hownY := own_below Hhown.out hb8
                have xcY := cellB hb8 xac
                have hrY := IRow.below Hhra.out hb8
                have hbZ := hbY.alloc hbY.size (.cells #[] 3)
                have hszZ := hbZ.size
                have hownZ := World.ownsRow.alloc hownY (.cells #[] 3)
                have xcZ := fun o => cellN xcY o
                have hrZ := IRow.alloc hrY (.cells #[] 3)
                clear hownY hrY xcY
                go_wp2_with ((at_builtin; go_must (refine wp_append_oneG rowT rfl _ _ rfl ws.heap.size _ ([] : PL).length (([] : PL).map Prod.fst) rfl hownZ _ _ rfl (by simp) rfl hplZ hszZ ?_; intro v2 w2 hown2 hgr2 hb2; replace hown2 := own_pushP xar hown2)))
                replace hown2 : w2.ownsRow ws.heap.size 22 1 v2 (([((Value.slice Aa xar.length qa, xar) : Value × List Int)] : PL).length) (([((Value.slice Aa xar.length qa, xar) : Value × List Int)] : PL).map Prod.fst) := hown2
                go_roundw
                case rel => exact ⟨([((Value.slice Aa xar.length qa, xar) : Value × List Int)] : PL), pa, (((Value.slice Ab xbr.length qb, xbr) : Value × List Int) :: pb), Hhxa2.out, Hhxb1.out, hown2, Hhro2.out, HhZ2.out, Hhpl2.out, hbZ.trans hb2⟩
                case measure => simp [lenOf] <;> omega
      · rw [List.concat_eq_append] at *
        obtain ⟨lv, lr⟩ := l
        have hsl := hro (lv, lr) (by simp)
        simp only at hsl
        obtain ⟨Al, ql, exl, -⟩ := IRow.open hsl
        subst exl
        have hrl := IRow.below hsl hb
        obtain ⟨g9, cap9, e9, -, -, -, -, h95⟩ := own_open hown (by simp)
        have lc := h95 po'.length (.slice Al lr.length ql) (by simp)
        subst e9
        clear h95
        obtain ⟨lo, hlo⟩ : ∃ lo, (po' ++ [((Value.slice Al lr.length ql, lr) : Value × List Int)]).length = lo := ⟨_, rfl⟩
        have hownL : wr.ownsRow ws.heap.size 22 1 (.slice (some ⟨g9, 0, none⟩) lo cap9) (po' ++ [((Value.slice Al lr.length ql, lr) : Value × List Int)]).length ((po' ++ [((Value.slice Al lr.length ql, lr) : Value × List Int)]).map Prod.fst) := by rw [← hlo]; exact hown
        clear hown
        have hown := hownL
        clear hownL
        have hlo2 : po'.length = lo - 1 := by rw [← hlo]; simp
        rw [hlo2] at lc
        have gl0 : 1 ≤ lo := by rw [← hlo]; simp
        have gl1 : ((lo : Int) == 0) = false := by rw [beq_eq_false_iff_ne]; omega
        have gl2 : (lo == 0) = false := by rw [beq_eq_false_iff_ne]; omega
        have gl3 : ((lo : Int) - 1).toNat = lo - 1 := by omega
        have gl4 : (0 : Int) < (lo : Int) := by omega
        simp only [hlo] at ⊢
        simp only [List.map_append, List.map_cons, List.map_nil] at hZ
        have Hlo := Lib.hid hlo
        have Hlo2 := Lib.hid hlo2
        clear hlo2
        cases pa with
        | nil =>
          cases pb with
          | nil => exact absurd ⟨rfl, rfl⟩ hend
          | cons xb pb =>
            obtain ⟨A5, c5, rfl, -⟩ := hxa
            clear hend
            obtain ⟨xbv, xbr⟩ := xb
            have hsb := hro (xbv, xbr) (by simp)
            simp only at hsb
            obtain ⟨Ab, qb, exb, -⟩ := IRow.open hsb
            subst exb
            have hrb := IRow.below hsb hb
            simp only [List.map_cons] at hxb
            obtain ⟨bb, ob, cb, rfl, xbc, lb, ub, altb⟩ := VRow.pop hxb
            simp only [List.length_map] at lb altb ⊢
            replace xbc := cellB hb xbc
            obtain ⟨lab, hlab⟩ : ∃ la, pb.length + 1 = la := ⟨_, rfl⟩
            have hlab' : lab - 1 = pb.length := by omega
            have gab : (0 : Int) < (lab : Int) := by omega
            have gbb : ((lab : Int) == 0) = false := by rw [beq_eq_false_iff_ne]; omega
            have gcb : (lab == 0) = false := by rw [beq_eq_false_iff_ne]; omega
            have gdb : 1 ≤ lab := by omega
            have geb : (1 : Int) ≤ (lab : Int) := by omega
            rw [hlab]
            simp only [List.length_map] at hxb1
            rw [hlab] at hxb1
            simp only [List.map_nil, List.map_cons] at hZ
            rw [mergeS_nc] at hZ
            rcases altb with ⟨rfl, -, hxb2⟩ | ⟨hcb, hxb2⟩
            all_goals
              obtain ⟨z2, hz2⟩ : ∃ z, cmpRow lr xbr = z := ⟨_, rfl⟩
              have k3 := fun W h h' => CompareRows_s (.slice Al lr.length ql) (.slice Ab xbr.length qb) lr xbr W h h'
              rw [hz2] at k3
              have hplZ : (po' ++ [((Value.slice Al lr.length ql, lr) : Value × List Int)]).length + 1 ≤ 1099511627776 := by simp at hpl ⊢; omega
              by_cases he2 : z2 = 0
              · have gq : (z2 != 0) = false := by simp [he2]
                have hZ2 : mergeS ((po' ++ [((Value.slice Al lr.length ql, lr) : Value × List Int)]).map Prod.snd) (([] : PL).map Prod.snd) (pb.map Prod.snd) = Z := by rw [← hZ, addS_last, hz2, if_pos he2]; simp
                have hro2 : ∀ p ∈ (po' ++ [((Value.slice Al lr.length ql, lr) : Value × List Int)]) ++ ([] : PL) ++ pb, IRow ws p.1 p.2 := fun p hp => hro p (by first | grind | (simp at hp ⊢; grind))
                have hpl2 : (po' ++ [((Value.slice Al lr.length ql, lr) : Value × List Int)]).length + ([] : PL).length + pb.length ≤ 1099511627775 := by simp at hpl ⊢; omega
                have Hhro := Lib.hid hro; clear hro; have HhZ := Lib.hid hZ; clear hZ; have Hhxa1 := Lib.hid hxa1; clear hxa1; have Hhxb1 := Lib.hid hxb1; clear hxb1; have Hhxb2 := Lib.hid hxb2; clear hxb2; have Hhown := Lib.hid hown; clear hown; have Hhpl := Lib.hid hpl; clear hpl; have Hhsb := Lib.hid hsb; clear hsb; have Hhlab := Lib.hid hlab; clear hlab; have Hhrb := Lib.hid hrb; clear hrb; have HhZ2 := Lib.hid hZ2; clear hZ2; have Hhro2 := Lib.hid hro2; clear hro2; have Hhpl2 := Lib.hid hpl2; clear hpl2; have Hhz2 := Lib.hid hz2; clear hz2; have Hhe2 := Lib.hid he2; clear he2; have Hk3 := Lib.hid k3; clear k3; have Hhrl := Lib.hid hrl; clear hrl
                have hbY := hb
                have hownY := Hhown.out
                have xcY := xbc
                have hrY := Hhrb.out
                have hrlY := Hhrl.out
                have lcY := lc
                have hbZ := hbY.alloc hbY.size (.cells #[] 3)
                have hszZ := hbZ.size
                have hownZ := World.ownsRow.alloc hownY (.cells #[] 3)
                have xcZ := fun o => cellN xcY o
                have hrZ := IRow.alloc hrY (.cells #[] 3)
                have hrlZ := IRow.alloc hrlY (.cells #[] 3)
                have lcZ := fun o => cellN lcY o
                clear hownY hrY xcY
                go_wp2_with (first | (go_at_call 31; ((with_reducible refine (Hk3.out _ hrlZ hrZ).mono ?_); rintro e w9 ⟨rfl, hb9⟩; (have hown9 := own_below hownZ hb9; have hownZ := hown9; have hszZ := Nat.le_trans hszZ hb9.size))) | (at_builtin; go_must (refine wp_append_oneG rowT rfl _ _ rfl ws.heap.size _ ((po' ++ [((Value.slice Al lr.length ql, lr) : Value × List Int)])).length (((po' ++ [((Value.slice Al lr.length ql, lr) : Value × List Int)])).map Prod.fst) rfl hownZ _ _ rfl (by simp) rfl hplZ hszZ ?_; intro v2 w2 hown2 hgr2 hb2; replace hown2 := own_pushP xbr hown2)))
                go_roundw
                case rel => exact ⟨(po' ++ [((Value.slice Al lr.length ql, lr) : Value × List Int)]), ([] : PL), pb, Hhxa1.out, Hhxb2.out, hown9, Hhro2.out, HhZ2.out, Hhpl2.out, hbZ.trans (hb9.mono hbZ.size)⟩
                case measure => simp [lenOf] <;> omega
              · have gq : (z2 != 0) = true := by rw [bne_iff_ne]; exact he2
                have hZ2 : mergeS (((po' ++ [((Value.slice Al lr.length ql, lr) : Value × List Int)]) ++ [((Value.slice Ab xbr.length qb, xbr) : Value × List Int)]).map Prod.snd) (([] : PL).map Prod.snd) (pb.map Prod.snd) = Z := by rw [← hZ, addS_last, hz2, if_neg he2]; simp
                have hro2 : ∀ p ∈ ((po' ++ [((Value.slice Al lr.length ql, lr) : Value × List Int)]) ++ [((Value.slice Ab xbr.length qb, xbr) : Value × List Int)]) ++ ([] : PL) ++ pb, IRow ws p.1 p.2 := fun p hp => hro p (by first | grind | (simp at hp ⊢; grind))
                have hpl2 : ((po' ++ [((Value.slice Al lr.length ql, lr) : Value × List Int)]) ++ [((Value.slice Ab xbr.length qb, xbr) : Value × List Int)]).length + ([] : PL).length + pb.length ≤ 1099511627775 := by simp at hpl ⊢; omega
                have Hhro := Lib.hid hro; clear hro; have HhZ := Lib.hid hZ; clear hZ; have Hhxa1 := Lib.hid hxa1; clear hxa1; have Hhxb1 := Lib.hid hxb1; clear hxb1; have Hhxb2 := Lib.hid hxb2; clear hxb2; have Hhown := Lib.hid hown; clear hown; have Hhpl := Lib.hid hpl; clear hpl; have Hhsb := Lib.hid hsb; clear hsb; have Hhlab := Lib.hid hlab; clear hlab; have Hhrb := Lib.hid hrb; clear hrb; have HhZ2 := Lib.hid hZ2; clear hZ2; have Hhro2 := Lib.hid hro2; clear hro2; have Hhpl2 := Lib.hid hpl2; clear hpl2; have Hhz2 := Lib.hid hz2; clear hz2; have Hhe2 := Lib.hid he2; clear he2; have Hk3 := Lib.hid k3; clear k3; have Hhrl := Lib.hid hrl; clear hrl
                have hbY := hb
                have hownY := Hhown.out
                have xcY := xbc
                have hrY := Hhrb.out
                have hrlY := Hhrl.out
                have lcY := lc
                have hbZ := hbY.alloc hbY.size (.cells #[] 3)
                have hszZ := hbZ.size
                have hownZ := World.ownsRow.alloc hownY (.cells #[] 3)
                have xcZ := fun o => cellN xcY o
                have hrZ := IRow.alloc hrY (.cells #[] 3)
                have hrlZ := IRow.alloc hrlY (.cells #[] 3)
                have lcZ := fun o => cellN lcY o
                clear hownY hrY xcY
                go_wp2_with (first | (go_at_call 31; ((with_reducible refine (Hk3.out _ hrlZ hrZ).mono ?_); rintro e w9 ⟨rfl, hb9⟩; (have hown9 := own_below hownZ hb9; have hownZ := hown9; have hszZ := Nat.le_trans hszZ hb9.size))) | (at_builtin; go_must (refine wp_append_oneG rowT rfl _ _ rfl ws.heap.size _ ((po' ++ [((Value.slice Al lr.length ql, lr) : Value × List Int)])).length (((po' ++ [((Value.slice Al lr.length ql, lr) : Value × List Int)])).map Prod.fst) rfl hownZ _ _ rfl (by simp) rfl hplZ hszZ ?_; intro v2 w2 hown2 hgr2 hb2; replace hown2 := own_pushP xbr hown2)))
                have hbZ := hbZ.trans (hb9.mono hbZ.size)
                go_roundw
                case rel => exact ⟨((po' ++ [((Value.slice Al lr.length ql, lr) : Value × List Int)]) ++ [((Value.slice Ab xbr.length qb, xbr) : Value × List Int)]), ([] : PL), pb, Hhxa1.out, Hhxb2.out, hown2, Hhro2.out, HhZ2.out, Hhpl2.out, hbZ.trans hb2⟩
                case measure => simp [lenOf] <;> omega
        | cons xa pa =>
          cases pb with
          | nil =>
            obtain ⟨A5, c5, rfl, -⟩ := hxb
            clear hend
            obtain ⟨xav, xar⟩ := xa
            have hsa := hro (xav, xar) (by simp)
            simp only at hsa
            obtain ⟨Aa, qa, exa, -⟩ := IRow.open hsa
            subst exa
            have hra := IRow.below hsa hb
            simp only [List.map_cons] at hxa
            obtain ⟨ba, oa, ca, rfl, xac, la, ua, alta⟩ := VRow.pop hxa
            simp only [List.length_map] at la alta ⊢
            replace xac := cellB hb xac
            obtain ⟨laa, hlaa⟩ : ∃ la, pa.length + 1 = la := ⟨_, rfl⟩
            have hlaa' : laa - 1 = pa.length := by omega
            have gaa : (0 : Int) < (laa : Int) := by omega
            have gba : ((laa : Int) == 0) = false := by rw [beq_eq_false_iff_ne]; omega
            have gca : (laa == 0) = false := by rw [beq_eq_false_iff_ne]; omega
            have gda : 1 ≤ laa := by omega
            have gea : (1 : Int) ≤ (laa : Int) := by omega
            rw [hlaa]
            simp only [List.length_map] at hxa1
            rw [hlaa] at hxa1
            simp only [List.map_nil, List.map_cons] at hZ
            rw [mergeS_cn] at hZ
            rcases alta with ⟨rfl, -, hxa2⟩ | ⟨hca, hxa2⟩
            all_goals
              obtain ⟨z2, hz2⟩ : ∃ z, cmpRow lr xar = z := ⟨_, rfl⟩
              have k3 := fun W h h' => CompareRows_s (.slice Al lr.length ql) (.slice Aa xar.length qa) lr xar W h h'
              rw [hz2] at k3
              have hplZ : (po' ++ [((Value.slice Al lr.length ql, lr) : Value × List Int)]).length + 1 ≤ 1099511627776 := by simp at hpl ⊢; omega
              by_cases he2 : z2 = 0
              · have gq : (z2 != 0) = false := by simp [he2]
                have hZ2 : mergeS ((po' ++ [((Value.slice Al lr.length ql, lr) : Value × List Int)]).map Prod.snd) (pa.map Prod.snd) (([] : PL).map Prod.snd) = Z := by rw [← hZ, addS_last, hz2, if_pos he2]; simp
                have hro2 : ∀ p ∈ (po' ++ [((Value.slice Al lr.length ql, lr) : Value × List Int)]) ++ pa ++ ([] : PL), IRow ws p.1 p.2 := fun p hp => hro p (by first | grind | (simp at hp ⊢; grind))
                have hpl2 : (po' ++ [((Value.slice Al lr.length ql, lr) : Value × List Int)]).length + pa.length + ([] : PL).length ≤ 1099511627775 := by simp at hpl ⊢; omega
                have Hhro := Lib.hid hro; clear hro; have HhZ := Lib.hid hZ; clear hZ; have Hhxa1 := Lib.hid hxa1; clear hxa1; have Hhxb1 := Lib.hid hxb1; clear hxb1; have Hhxa2 := Lib.hid hxa2; clear hxa2; have Hhown := Lib.hid hown; clear hown; have Hhpl := Lib.hid hpl; clear hpl; have Hhsa := Lib.hid hsa; clear hsa; have Hhlaa := Lib.hid hlaa; clear hlaa; have Hhra := Lib.hid hra; clear hra; have HhZ2 := Lib.hid hZ2; clear hZ2; have Hhro2 := Lib.hid hro2; clear hro2; have Hhpl2 := Lib.hid hpl2; clear hpl2; have Hhz2 := Lib.hid hz2; clear hz2; have Hhe2 := Lib.hid he2; clear he2; have Hk3 := Lib.hid k3; clear k3; have Hhrl := Lib.hid hrl; clear hrl
                have hbY := hb
                have hownY := Hhown.out
                have xcY := xac
                have hrY := Hhra.out
                have hrlY := Hhrl.out
                have lcY := lc
                have hbZ := hbY.alloc hbY.size (.cells #[] 3)
                have hszZ := hbZ.size
                have hownZ := World.ownsRow.alloc hownY (.cells #[] 3)
                have xcZ := fun o => cellN xcY o
                have hrZ := IRow.alloc hrY (.cells #[] 3)
                have hrlZ := IRow.alloc hrlY (.cells #[] 3)
                have lcZ := fun o => cellN lcY o
                clear hownY hrY xcY
                go_wp2_with (first | (go_at_call 31; ((with_reducible refine (Hk3.out _ hrlZ hrZ).mono ?_); rintro e w9 ⟨rfl, hb9⟩; (have hown9 := own_below hownZ hb9; have hownZ := hown9; have hszZ := Nat.le_trans hszZ hb9.size))) | (at_builtin; go_must (refine wp_append_oneG rowT rfl _ _ rfl ws.heap.size _ ((po' ++ [((Value.slice Al lr.length ql, lr) : Value × List Int)])).length (((po' ++ [((Value.slice Al lr.length ql, lr) : Value × List Int)])).map Prod.fst) rfl hownZ _ _ rfl (by simp) rfl hplZ hszZ ?_; intro v2 w2 hown2 hgr2 hb2; replace hown2 := own_pushP xar hown2)))
                go_roundw
                case rel => exact ⟨(po' ++ [((Value.slice Al lr.length ql, lr) : Value × List Int)]), pa, ([] : PL), Hhxa2.out, Hhxb1.out, hown9, Hhro2.out, HhZ2.out, Hhpl2.out, hbZ.trans (hb9.mono hbZ.size)⟩
                case measure => simp [lenOf] <;> omega
              · have gq : (z2 != 0) = true := by rw [bne_iff_ne]; exact he2
                have hZ2 : mergeS (((po' ++ [((Value.slice Al lr.length ql, lr) : Value × List Int)]) ++ [((Value.slice Aa xar.length qa, xar) : Value × List Int)]).map Prod.snd) (pa.map Prod.snd) (([] : PL).map Prod.snd) = Z := by rw [← hZ, addS_last, hz2, if_neg he2]; simp
                have hro2 : ∀ p ∈ ((po' ++ [((Value.slice Al lr.length ql, lr) : Value × List Int)]) ++ [((Value.slice Aa xar.length qa, xar) : Value × List Int)]) ++ pa ++ ([] : PL), IRow ws p.1 p.2 := fun p hp => hro p (by first | grind | (simp at hp ⊢; grind))
                have hpl2 : ((po' ++ [((Value.slice Al lr.length ql, lr) : Value × List Int)]) ++ [((Value.slice Aa xar.length qa, xar) : Value × List Int)]).length + pa.length + ([] : PL).length ≤ 1099511627775 := by simp at hpl ⊢; omega
                have Hhro := Lib.hid hro; clear hro; have HhZ := Lib.hid hZ; clear hZ; have Hhxa1 := Lib.hid hxa1; clear hxa1; have Hhxb1 := Lib.hid hxb1; clear hxb1; have Hhxa2 := Lib.hid hxa2; clear hxa2; have Hhown := Lib.hid hown; clear hown; have Hhpl := Lib.hid hpl; clear hpl; have Hhsa := Lib.hid hsa; clear hsa; have Hhlaa := Lib.hid hlaa; clear hlaa; have Hhra := Lib.hid hra; clear hra; have HhZ2 := Lib.hid hZ2; clear hZ2; have Hhro2 := Lib.hid hro2; clear hro2; have Hhpl2 := Lib.hid hpl2; clear hpl2; have Hhz2 := Lib.hid hz2; clear hz2; have Hhe2 := Lib.hid he2; clear he2; have Hk3 := Lib.hid k3; clear k3; have Hhrl := Lib.hid hrl; clear hrl
                have hbY := hb
                have hownY := Hhown.out
                have xcY := xac
                have hrY := Hhra.out
                have hrlY := Hhrl.out
                have lcY := lc
                have hbZ := hbY.alloc hbY.size (.cells #[] 3)
                have hszZ := hbZ.size
                have hownZ := World.ownsRow.alloc hownY (.cells #[] 3)
                have xcZ := fun o => cellN xcY o
                have hrZ := IRow.alloc hrY (.cells #[] 3)
                have hrlZ := IRow.alloc hrlY (.cells #[] 3)
                have lcZ := fun o => cellN lcY o
                clear hownY hrY xcY
                go_wp2_with (first | (go_at_call 31; ((with_reducible refine (Hk3.out _ hrlZ hrZ).mono ?_); rintro e w9 ⟨rfl, hb9⟩; (have hown9 := own_below hownZ hb9; have hownZ := hown9; have hszZ := Nat.le_trans hszZ hb9.size))) | (at_builtin; go_must (refine wp_append_oneG rowT rfl _ _ rfl ws.heap.size _ ((po' ++ [((Value.slice Al lr.length ql, lr) : Value × List Int)])).length (((po' ++ [((Value.slice Al lr.length ql, lr) : Value × List Int)])).map Prod.fst) rfl hownZ _ _ rfl (by simp) rfl hplZ hszZ ?_; intro v2 w2 hown2 hgr2 hb2; replace hown2 := own_pushP xar hown2)))
                have hbZ := hbZ.trans (hb9.mono hbZ.size)
                go_roundw
                case rel => exact ⟨((po' ++ [((Value.slice Al lr.length ql, lr) : Value × List Int)]) ++ [((Value.slice Aa xar.length qa, xar) : Value × List Int)]), pa, ([] : PL), Hhxa2.out, Hhxb1.out, hown2, Hhro2.out, HhZ2.out, Hhpl2.out, hbZ.trans hb2⟩
                case measure => simp [lenOf] <;> omega
          | cons xb pb =>
            clear hend
            obtain ⟨xav, xar⟩ := xa
            have hsa := hro (xav, xar) (by simp)
            simp only at hsa
            obtain ⟨Aa, qa, exa, -⟩ := IRow.open hsa
            subst exa
            have hra := IRow.below hsa hb
            simp only [List.map_cons] at hxa
            obtain ⟨ba, oa, ca, rfl, xac, la, ua, alta⟩ := VRow.pop hxa
            simp only [List.length_map] at la alta ⊢
            replace xac := cellB hb xac
            obtain ⟨laa, hlaa⟩ : ∃ la, pa.length + 1 = la := ⟨_, rfl⟩
            have hlaa' : laa - 1 = pa.length := by omega
            have gaa : (0 : Int) < (laa : Int) := by omega
            have gba : ((laa : Int) == 0) = false := by rw [beq_eq_false_iff_ne]; omega
            have gca : (laa == 0) = false := by rw [beq_eq_false_iff_ne]; omega
            have gda : 1 ≤ laa := by omega
            have gea : (1 : Int) ≤ (laa : Int) := by omega
            rw [hlaa]
            simp only [List.length_map] at hxa1
            rw [hlaa] at hxa1
            obtain ⟨xbv, xbr⟩ := xb
            have hsb := hro (xbv, xbr) (by simp)
            simp only at hsb
            obtain ⟨Ab, qb, exb, -⟩ := IRow.open hsb
            subst exb
            have hrb := IRow.below hsb hb
            simp only [List.map_cons] at hxb
            obtain ⟨bb, ob, cb, rfl, xbc, lb, ub, altb⟩ := VRow.pop hxb
            simp only [List.length_map] at lb altb ⊢
            replace xbc := cellB hb xbc
            obtain ⟨lab, hlab⟩ : ∃ la, pb.length + 1 = la := ⟨_, rfl⟩
            have hlab' : lab - 1 = pb.length := by omega
            have gab : (0 : Int) < (lab : Int) := by omega
            have gbb : ((lab : Int) == 0) = false := by rw [beq_eq_false_iff_ne]; omega
            have gcb : (lab == 0) = false := by rw [beq_eq_false_iff_ne]; omega
            have gdb : 1 ≤ lab := by omega
            have geb : (1 : Int) ≤ (lab : Int) := by omega
            rw [hlab]
            simp only [List.length_map] at hxb1
            rw [hlab] at hxb1
            have k1 := fun W h h' => CompareRows_s (.slice Aa xar.length qa) (.slice Ab xbr.length qb) xar xbr W h h'
            have ya := cell_regrown xac
            have yb := cell_regrown xbc
            simp only [List.map_cons] at hZ
            rw [mergeS_cc] at hZ
            obtain ⟨z, hz⟩ : ∃ z, cmpRow xar xbr = z := ⟨_, rfl⟩
            rw [hz] at hZ k1
            by_cases hgt : 0 < z
            · rw [if_pos hgt] at hZ
              rcases altb with ⟨rfl, -, hxb2⟩ | ⟨hcb, hxb2⟩
              all_goals
                obtain ⟨z2, hz2⟩ : ∃ z, cmpRow lr xbr = z := ⟨_, rfl⟩
                have k3 := fun W h h' => CompareRows_s (.slice Al lr.length ql) (.slice Ab xbr.length qb) lr xbr W h h'
                rw [hz2] at k3
                have hplZ : (po' ++ [((Value.slice Al lr.length ql, lr) : Value × List Int)]).length + 1 ≤ 1099511627776 := by simp at hpl ⊢; omega
                by_cases he2 : z2 = 0
                · have gq : (z2 != 0) = false := by simp [he2]
                  have hZ2 : mergeS ((po' ++ [((Value.slice Al lr.length ql, lr) : Value × List Int)]).map Prod.snd) ((((Value.slice Aa xar.length qa, xar) : Value × List Int) :: pa).map Prod.snd) (pb.map Prod.snd) = Z := by rw [← hZ, addS_last, hz2, if_pos he2]; simp
                  have hro2 : ∀ p ∈ (po' ++ [((Value.slice Al lr.length ql, lr) : Value × List Int)]) ++ (((Value.slice Aa xar.length qa, xar) : Value × List Int) :: pa) ++ pb, IRow ws p.1 p.2 := fun p hp => hro p (by first | grind | (simp at hp ⊢; grind))
                  have hpl2 : (po' ++ [((Value.slice Al lr.length ql, lr) : Value × List Int)]).length + (((Value.slice Aa xar.length qa, xar) : Value × List Int) :: pa).length + pb.length ≤ 1099511627775 := by simp at hpl ⊢; omega
                  have Hhro := Lib.hid hro; clear hro; have HhZ := Lib.hid hZ; clear hZ; have Hhxa1 := Lib.hid hxa1; clear hxa1; have Hhxb1 := Lib.hid hxb1; clear hxb1; have Hhxb2 := Lib.hid hxb2; clear hxb2; have Hhown := Lib.hid hown; clear hown; have Hhpl := Lib.hid hpl; clear hpl; have Hhsa := Lib.hid hsa; clear hsa; have Hhlaa := Lib.hid hlaa; clear hlaa; have Hhra := Lib.hid hra; clear hra; have Hhsb := Lib.hid hsb; clear hsb; have Hhlab := Lib.hid hlab; clear hlab; have Hhrb := Lib.hid hrb; clear hrb; have HhZ2 := Lib.hid hZ2; clear hZ2; have Hhro2 := Lib.hid hro2; clear hro2; have Hhpl2 := Lib.hid hpl2; clear hpl2; have Hhz2 := Lib.hid hz2; clear hz2; have Hhe2 := Lib.hid he2; clear he2; have Hk3 := Lib.hid k3; clear k3; have Hhrl := Lib.hid hrl; clear hrl; have Hk1 := Lib.hid k1; clear k1; have Hhz := Lib.hid hz; clear hz
                  go_wp2_with fail
                  refine wp_region_below (by kernel_rfl) (by kernel_rfl) ?_; (repeat (quiet_step (first | with_reducible exact regB (Hk1.out _ (Hhra.out.below (below_regrown _ _ _)) (Hhrb.out.below (below_regrown _ _ _)))))); refine wpQuiet_nil ?_
                  intro w8 hb8
                  have hbY := hb.trans (hb8.mono hb.size)
                  have hownY := own_below Hhown.out hb8
                  have xcY := cellB hb8 xbc
                  have hrY := IRow.below Hhrb.out hb8
                  have hrlY := IRow.below Hhrl.out hb8
                  have lcY := cellB hb8 lc
                  have hbZ := hbY.alloc hbY.size (.cells #[] 3)
                  have hszZ := hbZ.size
                  have hownZ := World.ownsRow.alloc hownY (.cells #[] 3)
                  have xcZ := fun o => cellN xcY o
                  have hrZ := IRow.alloc hrY (.cells #[] 3)
                  have hrlZ := IRow.alloc hrlY (.cells #[] 3)
                  have lcZ := fun o => cellN lcY o
                  clear hownY hrY xcY
                  go_wp2_with (first | (go_at_call 31; ((with_reducible refine (Hk3.out _ hrlZ hrZ).mono ?_); rintro e w9 ⟨rfl, hb9⟩; (have hown9 := own_below hownZ hb9; have hownZ := hown9; have hszZ := Nat.le_trans hszZ hb9.size))) | (at_builtin; go_must (refine wp_append_oneG rowT rfl _ _ rfl ws.heap.size _ ((po' ++ [((Value.slice Al lr.length ql, lr) : Value × List Int)])).length (((po' ++ [((Value.slice Al lr.length ql, lr) : Value × List Int)])).map Prod.fst) rfl hownZ _ _ rfl (by simp) rfl hplZ hszZ ?_; intro v2 w2 hown2 hgr2 hb2; replace hown2 := own_pushP xbr hown2)))
                  go_roundw
                  case rel => exact ⟨(po' ++ [((Value.slice Al lr.length ql, lr) : Value × List Int)]), (((Value.slice Aa xar.length qa, xar) : Value × List Int) :: pa), pb, Hhxa1.out, Hhxb2.out, hown9, Hhro2.out, HhZ2.out, Hhpl2.out, hbZ.trans (hb9.mono hbZ.size)⟩
                  case measure => simp [lenOf] <;> omega
                · have gq : (z2 != 0) = true := by rw [bne_iff_ne]; exact he2
                  have hZ2 : mergeS (((po' ++ [((Value.slice Al lr.length ql, lr) : Value × List Int)]) ++ [((Value.slice Ab xbr.length qb, xbr) : Value × List Int)]).map Prod.snd) ((((Value.slice Aa xar.length qa, xar) : Value × List Int) :: pa).map Prod.snd) (pb.map Prod.snd) = Z := by rw [← hZ, addS_last, hz2, if_neg he2]; simp
                  have hro2 : ∀ p ∈ ((po' ++ [((Value.slice Al lr.length ql, lr) : Value × List Int)]) ++ [((Value.slice Ab xbr.length qb, xbr) : Value × List Int)]) ++ (((Value.slice Aa xar.length qa, xar) : Value × List Int) :: pa) ++ pb, IRow ws p.1 p.2 := fun p hp => hro p (by first | grind | (simp at hp ⊢; grind))
                  have hpl2 : ((po' ++ [((Value.slice Al lr.length ql, lr) : Value × List Int)]) ++ [((Value.slice Ab xbr.length qb, xbr) : Value × List Int)]).length + (((Value.slice Aa xar.length qa, xar) : Value × List Int) :: pa).length + pb.length ≤ 1099511627775 := by simp at hpl ⊢; omega
                  have Hhro := Lib.hid hro; clear hro; have HhZ := Lib.hid hZ; clear hZ; have Hhxa1 := Lib.hid hxa1; clear hxa1; have Hhxb1 := Lib.hid hxb1; clear hxb1; have Hhxb2 := Lib.hid hxb2; clear hxb2; have Hhown := Lib.hid hown; clear hown; have Hhpl := Lib.hid hpl; clear hpl; have Hhsa := Lib.hid hsa; clear hsa; have Hhlaa := Lib.hid hlaa; clear hlaa; have Hhra := Lib.hid hra; clear hra; have Hhsb := Lib.hid hsb; clear hsb; have Hhlab := Lib.hid hlab; clear hlab; have Hhrb := Lib.hid hrb; clear hrb; have HhZ2 := Lib.hid hZ2; clear hZ2; have Hhro2 := Lib.hid hro2; clear hro2; have Hhpl2 := Lib.hid hpl2; clear hpl2; have Hhz2 := Lib.hid hz2; clear hz2; have Hhe2 := Lib.hid he2; clear he2; have Hk3 := Lib.hid k3; clear k3; have Hhrl := Lib.hid hrl; clear hrl; have Hk1 := Lib.hid k1; clear k1; have Hhz := Lib.hid hz; clear hz
                  go_wp2_with fail
                  refine wp_region_below (by kernel_rfl) (by kernel_rfl) ?_; (repeat (quiet_step (first | with_reducible exact regB (Hk1.out _ (Hhra.out.below (below_regrown _ _ _)) (Hhrb.out.below (below_regrown _ _ _)))))); refine wpQuiet_nil ?_
                  intro w8 hb8
                  have hbY := hb.trans (hb8.mono hb.size)
                  have hownY := own_below Hhown.out hb8
                  have xcY := cellB hb8 xbc
                  have hrY := IRow.below Hhrb.out hb8
                  have hrlY := IRow.below Hhrl.out hb8
                  have lcY := cellB hb8 lc
                  have hbZ := hbY.alloc hbY.size (.cells #[] 3)
                  have hszZ := hbZ.size
                  have hownZ := World.ownsRow.alloc hownY (.cells #[] 3)
                  have xcZ := fun o => cellN xcY o
                  have hrZ := IRow.alloc hrY (.cells #[] 3)
                  have hrlZ := IRow.alloc hrlY (.cells #[] 3)
                  have lcZ := fun o => cellN lcY o
                  clear hownY hrY xcY
                  go_wp2_with (first | (go_at_call 31; ((with_reducible refine (Hk3.out _ hrlZ hrZ).mono ?_); rintro e w9 ⟨rfl, hb9⟩; (have hown9 := own_below hownZ hb9; have hownZ := hown9; have hszZ := Nat.le_trans hszZ hb9.size))) | (at_builtin; go_must (refine wp_append_oneG rowT rfl _ _ rfl ws.heap.size _ ((po' ++ [((Value.slice Al lr.length ql, lr) : Value × List Int)])).length (((po' ++ [((Value.slice Al lr.length ql, lr) : Value × List Int)])).map Prod.fst) rfl hownZ _ _ rfl (by simp) rfl hplZ hszZ ?_; intro v2 w2 hown2 hgr2 hb2; replace hown2 := own_pushP xbr hown2)))
                  have hbZ := hbZ.trans (hb9.mono hbZ.size)
                  go_roundw
                  case rel => exact ⟨((po' ++ [((Value.slice Al lr.length ql, lr) : Value × List Int)]) ++ [((Value.slice Ab xbr.length qb, xbr) : Value × List Int)]), (((Value.slice Aa xar.length qa, xar) : Value × List Int) :: pa), pb, Hhxa1.out, Hhxb2.out, hown2, Hhro2.out, HhZ2.out, Hhpl2.out, hbZ.trans hb2⟩
                  case measure => simp [lenOf] <;> omega
            · rw [if_neg hgt] at hZ
              rcases alta with ⟨rfl, -, hxa2⟩ | ⟨hca, hxa2⟩
              all_goals
                obtain ⟨z2, hz2⟩ : ∃ z, cmpRow lr xar = z := ⟨_, rfl⟩
                have k3 := fun W h h' => CompareRows_s (.slice Al lr.length ql) (.slice Aa xar.length qa) lr xar W h h'
                rw [hz2] at k3
                have hplZ : (po' ++ [((Value.slice Al lr.length ql, lr) : Value × List Int)]).length + 1 ≤ 1099511627776 := by simp at hpl ⊢; omega
                by_cases he2 : z2 = 0
                · have gq : (z2 != 0) = false := by simp [he2]
                  have hZ2 : mergeS ((po' ++ [((Value.slice Al lr.length ql, lr) : Value × List Int)]).map Prod.snd) (pa.map Prod.snd) ((((Value.slice Ab xbr.length qb, xbr) : Value × List Int) :: pb).map Prod.snd) = Z := by rw [← hZ, addS_last, hz2, if_pos he2]; simp
                  have hro2 : ∀ p ∈ (po' ++ [((Value.slice Al lr.length ql, lr) : Value × List Int)]) ++ pa ++ (((Value.slice Ab xbr.length qb, xbr) : Value × List Int) :: pb), IRow ws p.1 p.2 := fun p hp => hro p (by first | grind | (simp at hp ⊢; grind))
                  have hpl2 : (po' ++ [((Value.slice Al lr.length ql, lr) : Value × List Int)]).length + pa.length + (((Value.slice Ab xbr.length qb, xbr) : Value × List Int) :: pb).length ≤ 1099511627775 := by simp at hpl ⊢; omega
                  have Hhro := Lib.hid hro; clear hro; have HhZ := Lib.hid hZ; clear hZ; have Hhxa1 := Lib.hid hxa1; clear hxa1; have Hhxb1 := Lib.hid hxb1; clear hxb1; have Hhxa2 := Lib.hid hxa2; clear hxa2; have Hhown := Lib.hid hown; clear hown; have Hhpl := Lib.hid hpl; clear hpl; have Hhsa := Lib.hid hsa; clear hsa; have Hhlaa := Lib.hid hlaa; clear hlaa; have Hhra := Lib.hid hra; clear hra; have Hhsb := Lib.hid hsb; clear hsb; have Hhlab := Lib.hid hlab; clear hlab; have Hhrb := Lib.hid hrb; clear hrb; have HhZ2 := Lib.hid hZ2; clear hZ2; have Hhro2 := Lib.hid hro2; clear hro2; have Hhpl2 := Lib.hid hpl2; clear hpl2; have Hhz2 := Lib.hid hz2; clear hz2; have Hhe2 := Lib.hid he2; clear he2; have Hk3 := Lib.hid k3; clear k3; have Hhrl := Lib.hid hrl; clear hrl; have Hk1 := Lib.hid k1; clear k1; have Hhz := Lib.hid hz; clear hz
                  go_wp2_with fail
                  refine wp_region_below (by kernel_rfl) (by kernel_rfl) ?_; (repeat (quiet_step (first | with_reducible exact regB (Hk1.out _ (Hhra.out.below (below_regrown _ _ _)) (Hhrb.out.below (below_regrown _ _ _)))))); refine wpQuiet_nil ?_
                  intro w8 hb8
                  have hbY := hb.trans (hb8.mono hb.size)
                  have hownY := own_below Hhown.out hb8
                  have xcY := cellB hb8 xac
                  have hrY := IRow.below Hhra.out hb8
                  have hrlY := IRow.below Hhrl.out hb8
                  have lcY := cellB hb8 lc
                  have hbZ := hbY.alloc hbY.size (.cells #[] 3)
                  have hszZ := hbZ.size
                  have hownZ := World.ownsRow.alloc hownY (.cells #[] 3)
                  have xcZ := fun o => cellN xcY o
                  have hrZ := IRow.alloc hrY (.cells #[] 3)
                  have hrlZ := IRow.alloc hrlY (.cells #[] 3)
                  have lcZ := fun o => cellN lcY o
                  clear hownY hrY xcY
                  go_wp2_with (first | (go_at_call 31; ((with_reducible refine (Hk3.out _ hrlZ hrZ).mono ?_); rintro e w9 ⟨rfl, hb9⟩; (have hown9 := own_below hownZ hb9; have hownZ := hown9; have hszZ := Nat.le_trans hszZ hb9.size))) | (at_builtin; go_must (refine wp_append_oneG rowT rfl _ _ rfl ws.heap.size _ ((po' ++ [((Value.slice Al lr.length ql, lr) : Value × List Int)])).length (((po' ++ [((Value.slice Al lr.length ql, lr) : Value × List Int)])).map Prod.fst) rfl hownZ _ _ rfl (by simp) rfl hplZ hszZ ?_; intro v2 w2 hown2 hgr2 hb2; replace hown2 := own_pushP xar hown2)))
                  go_roundw
                  case rel => exact ⟨(po' ++ [((Value.slice Al lr.length ql, lr) : Value × List Int)]), pa, (((Value.slice Ab xbr.length qb, xbr) : Value × List Int) :: pb), Hhxa2.out, Hhxb1.out, hown9, Hhro2.out, HhZ2.out, Hhpl2.out, hbZ.trans (hb9.mono hbZ.size)⟩
                  case measure => simp [lenOf] <;> omega
                · have gq : (z2 != 0) = true := by rw [bne_iff_ne]; exact he2
                  have hZ2 : mergeS (((po' ++ [((Value.slice Al lr.length ql, lr) : Value × List Int)]) ++ [((Value.slice Aa xar.length qa, xar) : Value × List Int)]).map Prod.snd) (pa.map Prod.snd) ((((Value.slice Ab xbr.length qb, xbr) : Value × List Int) :: pb).map Prod.snd) = Z := by rw [← hZ, addS_last, hz2, if_neg he2]; simp
                  have hro2 : ∀ p ∈ ((po' ++ [((Value.slice Al lr.length ql, lr) : Value × List Int)]) ++ [((Value.slice Aa xar.length qa, xar) : Value × List Int)]) ++ pa ++ (((Value.slice Ab xbr.length qb, xbr) : Value × List Int) :: pb), IRow ws p.1 p.2 := fun p hp => hro p (by first | grind | (simp at hp ⊢; grind))
                  have hpl2 : ((po' ++ [((Value.slice Al lr.length ql, lr) : Value × List Int)]) ++ [((Value.slice Aa xar.length qa, xar) : Value × List Int)]).length + pa.length + (((Value.slice Ab xbr.length qb, xbr) : Value × List Int) :: pb).length ≤ 1099511627775 := by simp at hpl ⊢; omega
                  have Hhro := Lib.hid hro; clear hro; have HhZ := Lib.hid hZ; clear hZ; have Hhxa1 := Lib.hid hxa1; clear hxa1; have Hhxb1 := Lib.hid hxb1; clear hxb1; have Hhxa2 := Lib.hid hxa2; clear hxa2; have Hhown := Lib.hid hown; clear hown; have Hhpl := Lib.hid hpl; clear hpl; have Hhsa := Lib.hid hsa; clear hsa; have Hhlaa := Lib.hid hlaa; clear hlaa; have Hhra := Lib.hid hra; clear hra; have Hhsb := Lib.hid hsb; clear hsb; have Hhlab := Lib.hid hlab; clear hlab; have Hhrb := Lib.hid hrb; clear hrb; have HhZ2 := Lib.hid hZ2; clear hZ2; have Hhro2 := Lib.hid hro2; clear hro2; have Hhpl2 := Lib.hid hpl2; clear hpl2; have Hhz2 := Lib.hid hz2; clear hz2; have Hhe2 := Lib.hid he2; clear he2; have Hk3 := Lib.hid k3; clear k3; have Hhrl := Lib.hid hrl; clear hrl; have Hk1 := Lib.hid k1; clear k1; have Hhz := Lib.hid hz; clear hz
                  go_wp2_with fail
                  refine wp_region_below (by kernel_rfl) (by kernel_rfl) ?_; (repeat (quiet_step (first | with_reducible exact regB (Hk1.out _ (Hhra.out.below (below_regrown _ _ _)) (Hhrb.out.below (below_regrown _ _ _)))))); refine wpQuiet_nil ?_
                  intro w8 hb8
                  have hbY := hb.trans (hb8.mono hb.size)
                  have hownY := own_below Hhown.out hb8
                  have xcY := cellB hb8 xac
                  have hrY := IRow.below Hhra.out hb8
                  have hrlY := IRow.below Hhrl.out hb8
                  have lcY := cellB hb8 lc
                  have hbZ := hbY.alloc hbY.size (.cells #[] 3)
                  have hszZ := hbZ.size
                  have hownZ := World.ownsRow.alloc hownY (.cells #[] 3)
                  have xcZ := fun o => cellN xcY o
                  have hrZ := IRow.alloc hrY (.cells #[] 3)
                  have hrlZ := IRow.alloc hrlY (.cells #[] 3)
                  have lcZ := fun o => cellN lcY o
                  clear hownY hrY xcY
                  go_wp2_with (first | (go_at_call 31; ((with_reducible refine (Hk3.out _ hrlZ hrZ).mono ?_); rintro e w9 ⟨rfl, hb9⟩; (have hown9 := own_below hownZ hb9; have hownZ := hown9; have hszZ := Nat.le_trans hszZ hb9.size))) | (at_builtin; go_must (refine wp_append_oneG rowT rfl _ _ rfl ws.heap.size _ ((po' ++ [((Value.slice Al lr.length ql, lr) : Value × List Int)])).length (((po' ++ [((Value.slice Al lr.length ql, lr) : Value × List Int)])).map Prod.fst) rfl hownZ _ _ rfl (by simp) rfl hplZ hszZ ?_; intro v2 w2 hown2 hgr2 hb2; replace hown2 := own_pushP xar hown2)))
                  have hbZ := hbZ.trans (hb9.mono hbZ.size)
                  go_roundw
                  case rel => exact ⟨((po' ++ [((Value.slice Al lr.length ql, lr) : Value × List Int)]) ++ [((Value.slice Aa xar.length qa, xar) : Value × List Int)]), pa, (((Value.slice Ab xbr.length qb, xbr) : Value × List Int) :: pb), Hhxa2.out, Hhxb1.out, hown2, Hhro2.out, HhZ2.out, Hhpl2.out, hbZ.trans hb2⟩
                  case measure => simp [lenOf] <;> omega
end Go.Proofs.Ytbajnecahojcfaa
