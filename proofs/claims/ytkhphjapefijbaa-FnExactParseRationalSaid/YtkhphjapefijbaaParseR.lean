/- ParseRational, the program's: what is read is the one rational whose text it is. -/
import Derived.Test.YtkhphjapefijbaaRatFmt
import Derived.Test.YtkhphjapefijbaaSplit
import Derived.Test.YtkhphjapefijbaaReadLong
import Derived.Test.YtkhphjapefijbaaRatNew
namespace Go.Proofs.Ytkhphjapefijbaa
open Go.RowKit Go.Sort
set_option maxHeartbeats 2000000
set_option maxRecDepth 100000

theorem digs_no47 (m : Nat) : ∀ b ∈ digs m, ¬ b = 47 := by
  intro b hb h
  have := digs_all m b hb
  rw [h] at this
  exact absurd this (by decide)
theorem fmt_no47 (n : Int) : ∀ b ∈ fmtInt n, ¬ b = 47 := by
  intro b hb
  unfold fmtInt at hb
  split at hb
  · rcases List.mem_cons.1 hb with h | h
    · rw [h]; decide
    · exact digs_no47 _ b h
  · exact digs_no47 _ b hb
theorem spl_none {c : UInt8} : ∀ (r cur : List UInt8), (∀ b ∈ r, ¬ b = c) → spl c cur r = [cur ++ r]
  | [], _, _ => by simp [spl]
  | b :: r, cur, h => by
    rw [spl, if_neg (h b (by simp)), spl_none r _ (fun x hx => h x (by simp [hx]))]
    simp
theorem spl_one {c : UInt8} : ∀ (r cur s : List UInt8), (∀ b ∈ r, ¬ b = c) → spl c cur (r ++ [c] ++ s) = (cur ++ r) :: spl c [] s
  | [], _, _, _ => by simp [spl]
  | b :: r, cur, s, h => by
    show spl c cur (b :: (r ++ [c] ++ s)) = _
    rw [spl, if_neg (h b (by simp)), spl_one r _ s (fun x hx => h x (by simp [hx]))]
    simp
theorem fmt_ne (n : Int) : fmtInt n ≠ [] := by
  unfold fmtInt
  split
  · simp
  · intro h; have := digs_pos n.natAbs; rw [h] at this; simp at this
theorem fmt_len10 {n : Int} (h : -1000000000 ≤ n ∧ n ≤ 1000000000) : (digs n.natAbs).length ≤ 10 := digs_len 9 _ (by omega)
theorem longOf_fmt {n : Int} (h : -1000000000 ≤ n ∧ n ≤ 1000000000) : longOf (fmtInt n) = .tuple #[.int .i64 n, .bool true] := by
  have hd := fmt_len10 h
  have hne : digs n.natAbs ≠ [] := fun e => by have := digs_pos n.natAbs; rw [e] at this; simp at this
  have ok : okD 10 (digs n.natAbs) := ⟨hne, hd, digs_all _⟩
  unfold fmtInt
  split
  · unfold longOf; rw [if_pos (by simp), List.tail_cons]; unfold longV; rw [if_pos ok, digVal_digs]; congr 4; omega
  · unfold longOf; rw [if_neg (digs_head _)]; unfold longV; rw [if_pos ok, digVal_digs]; congr 4; omega
theorem numOf_fmt {n : Int} (h : -1000000000 ≤ n ∧ n ≤ 1000000000) : numOf (fmtInt n) = n := by
  have hd := fmt_len10 h
  have ok : (digs n.natAbs).length < 12 ∧ ∀ b ∈ digs n.natAbs, isDig b = true := ⟨by omega, digs_all _⟩
  unfold fmtInt
  split
  · unfold numOf; rw [if_pos (by simp), List.tail_cons]; unfold numV; rw [if_pos ok, digVal_digs]; omega
  · unfold numOf; rw [if_neg (digs_head _)]; unfold numV; rw [if_pos ok, digVal_digs]; omega

/-- l is the text of the valid rational n / d. -/
def IsTxt (l : List UInt8) (n d : Int) : Prop := rvalid n d = true ∧ fmtR n d = l
theorem IsTxt.cases {l : List UInt8} {n d : Int} (h : IsTxt l n d) : (d = 1 ∧ l = fmtInt n ∧ splitL 47 l = [fmtInt n]) ∨ (l = fmtInt n ++ [47] ++ fmtInt d ∧ splitL 47 l = [fmtInt n, fmtInt d]) := by
  obtain ⟨h1, h2⟩ := h
  unfold fmtR at h2
  rw [if_pos h1] at h2
  by_cases hd : d = 1
  · rw [if_pos hd] at h2
    refine .inl ⟨hd, h2.symm, ?_⟩
    rw [← h2]
    exact spl_none _ _ (fmt_no47 n)
  · rw [if_neg hd] at h2
    refine .inr ⟨h2.symm, ?_⟩
    rw [← h2]
    unfold splitL
    rw [spl_one _ _ _ (fmt_no47 n), spl_none _ _ (fmt_no47 d)]
    rfl
theorem fmtR_valid {l : List UInt8} {n d : Int} (hl : l ≠ []) (h : fmtR n d = l) : IsTxt l n d := by
  refine ⟨?_, h⟩
  cases hv : rvalid n d
  · unfold fmtR at h; rw [hv] at h; simp at h; exact absurd h hl
  · rfl
theorem IsTxt.ne {l : List UInt8} {n d : Int} (h : IsTxt l n d) : l ≠ [] := by
  rcases h.cases with ⟨_, e, _⟩ | ⟨e, _⟩
  · rw [e]; exact fmt_ne n
  · rw [e]; simp
theorem isTxt_inj {l : List UInt8} {n d n' d' : Int} (h : IsTxt l n d) (h' : IsTxt l n' d') : n = n' ∧ d = d' := by
  have R := rvalid_range' h.1
  have R' := rvalid_range' h'.1
  have a := longOf_fmt (n := n) (by omega)
  have a' := longOf_fmt (n := n') (by omega)
  have b := longOf_fmt (n := d) (by omega)
  have b' := longOf_fmt (n := d') (by omega)
  rcases h.cases with ⟨e1, _, e2⟩ | ⟨_, e2⟩ <;> rcases h'.cases with ⟨e1', _, e2'⟩ | ⟨_, e2'⟩
  · have e := e2.symm.trans e2'
    rw [(List.cons.inj e).1, a'] at a
    simp at a
    exact ⟨a.symm, by omega⟩
  · have e := e2.symm.trans e2'; simp at e
  · have e := e2.symm.trans e2'; simp at e
  · have e := e2.symm.trans e2'
    rw [(List.cons.inj e).1, a'] at a
    rw [(List.cons.inj (List.cons.inj e).2).1, b'] at b
    simp at a b
    exact ⟨a.symm, b.symm⟩
open Classical in
noncomputable def parR (l : List UInt8) : Value := if h : ∃ p : Int × Int, IsTxt l p.1 p.2 then .tuple #[ratV h.choose.1 h.choose.2, .bool true] else .tuple #[ratV 0 0, .bool false]
theorem parR_yes {l : List UInt8} {n d : Int} (h : IsTxt l n d) : parR l = .tuple #[.agg #[.int .i64 n, .int .i64 d], .bool true] := by
  have hx : ∃ p : Int × Int, IsTxt l p.1 p.2 := ⟨(n, d), h⟩
  unfold parR
  rw [dif_pos hx]
  obtain ⟨e1, e2⟩ := isTxt_inj hx.choose_spec h
  rw [e1, e2]; rfl
theorem parR_no {l : List UInt8} (h : ∀ n d, ¬ IsTxt l n d) : parR l = .tuple #[ratV 0 0, .bool false] := by
  unfold parR
  rw [dif_neg]
  rintro ⟨p, hp⟩
  exact h _ _ hp
theorem longOf_tuple (l : List UInt8) : ∃ (n : Int) (t : Bool), longOf l = .tuple #[.int .i64 n, .bool t] := by
  unfold longOf longV
  split <;> split <;> exact ⟨_, _, rfl⟩
theorem longOf_bd {l : List UInt8} {n : Int} {t : Bool} (h : longOf l = .tuple #[.int .i64 n, .bool t]) : -10000000000 < n ∧ n < 10000000000 := by
  have key : ∀ (s : Int) (D : List UInt8), (s = 1 ∨ s = -1) → longV s D = .tuple #[.int .i64 n, .bool t] → -10000000000 < n ∧ n < 10000000000 := by
    intro s D hs hh
    unfold longV at hh
    split at hh
    · rename_i hok
      have := digVal_lt 10 D hok.2.1
      simp at hh
      rcases hs with rfl | rfl <;> omega
    · simp at hh; omega
  unfold longOf at h
  split at h
  · exact key _ _ (.inr rfl) h
  · exact key _ _ (.inl rfl) h
theorem rl_len {l w0 : List UInt8} {ws : List (List UInt8)} (hl : l.length ≤ 1048576) (h : splitL 47 l = w0 :: ws) : ∀ x ∈ w0 :: ws, x.length ≤ 1048576 := fun x hx => Nat.le_trans (split_elem (h ▸ hx)) hl
theorem not_of_bad {l : List UInt8} {w0 : List UInt8} {ws : List (List UInt8)} (hs : splitL 47 l = w0 :: ws) (h : ∀ n d, IsTxt l n d → longOf w0 = .tuple #[.int .i64 n, .bool true] → (ws = [] → d = 1) → (∀ w1, ws = [w1] → longOf w1 = .tuple #[.int .i64 d, .bool true]) → ws.length ≤ 1 → False) : ∀ n d, ¬ IsTxt l n d := by
  intro n d ht
  have R := rvalid_range' ht.1
  rcases ht.cases with ⟨e1, _, e2⟩ | ⟨_, e2⟩
  · obtain ⟨rfl, rfl⟩ := List.cons.inj (hs.symm.trans e2)
    exact h n d ht (longOf_fmt (by omega)) (fun _ => e1) (fun w1 hw => by cases hw) (by simp)
  · obtain ⟨rfl, rfl⟩ := List.cons.inj (hs.symm.trans e2)
    exact h n d ht (longOf_fmt (by omega)) (fun hw => by cases hw) (fun w1 hw => by rw [← (List.cons.inj hw).1]; exact longOf_fmt (by omega)) (by simp)
theorem ParseRational_i (l : List UInt8) (hl : l.length ≤ 1048576) (w : World) : Calls Try.prog 44 #[.string ⟨l.toArray⟩] w (RetB (parR l) w) := by
  have ks := fun W => split_i l 47 hl W
  simp only [show ((47 : UInt8).toNat : Int) = 47 from rfl] at ks
  have kf := fun n d W => FormatRational_i n d W
  obtain ⟨w0, ws, hW⟩ : ∃ w0 ws, splitL 47 l = w0 :: ws := by
    cases h : splitL 47 l with
    | nil => have := spl_pos 47 l []; rw [show spl 47 [] l = [] from h] at this; simp at this
    | cons a b => exact ⟨a, b, rfl⟩
  have hlen := rl_len hl hW
  have hbad := not_of_bad hW
  rw [hW] at ks
  have k0 := fun W => readLong_i w0 (hlen w0 (by simp)) W
  obtain ⟨n, t, e0⟩ := longOf_tuple w0
  have bn := longOf_bd e0
  have hw0 : t = true → l ≠ [] := by
    rintro rfl rfl
    rw [show splitL 47 [] = [[]] from rfl] at hW
    obtain ⟨rfl, rfl⟩ := List.cons.inj hW
    rw [show longOf [] = .tuple #[.int .i64 0, .bool false] from (by unfold longOf longV; rw [if_neg (by simp), if_neg (fun h => h.1 rfl)])] at e0
    simp at e0
  rw [e0] at k0 hbad
  cases t
  · -- the first word is no number
    rw [parR_no (hbad fun n' d' _ h _ _ _ => by simp at h)]
    have Hks := Lib.hid ks; clear ks; have Hkf := Lib.hid kf; clear kf; have HhW := Lib.hid hW; clear hW; have Hhlen := Lib.hid hlen; clear hlen; have Hhbad := Lib.hid hbad; clear hbad; have Hk0 := Lib.hid k0; clear k0; have He0 := Lib.hid e0; clear e0; have Hhw0 := Lib.hid hw0; clear hw0
    go_enter Try.func44, Try.ntmps44
    go_wp2_with (first | (go_at_call 82; ((with_reducible refine (Hks.out _).mono ?_); rintro e w1 ⟨v, rfl, hown, hb1⟩; (obtain ⟨g, cap, rfl, hg, hlt, -, -, hc⟩ := own_open hown (by simp); have yt := blockB hb1 (heap_alloc_new w (.cells #[.int .i64 0, .int .i64 0] 25)); have lt := lt_of_heap yt; have c0 := fun o => cellN (hc 0 _ rfl) o; have Hhown := Lib.hid hown; clear hown; have Hhc := Lib.hid hc; clear hc))) | (go_at_call 83; ((with_reducible refine (Hk0.out _).mono ?_); rintro e w2 ⟨rfl, hb2⟩; (clear c0; have y5 := blockB hb2 (heap_alloc_new w1 (.cells #[.int .i64 0, .int .i64 1] 25)); have yt2 := blockB hb2 (heapN yt (.cells #[.int .i64 0, .int .i64 1] 25)); have u0 := cellAt y5 0; have u1 := cellAt y5 1; have u2 := frozen0 (j := 0) y5; have u3 := frozen0 (j := 1) y5; have y6 := set0 y5 (.int .i64 n); have yz := setO (g := w1.heap.size) (j := 0) (by omega) yt2 (.int .i64 n); have s0 := cellAt y6 0; have s1 := cellAt y6 1; have s2 := frozen0 (j := 0) y6; have s3 := frozen0 (j := 1) y6; have z0 := cellAt yz 0; have z1 := cellAt yz 1; have z2 := frozen0 (j := 0) yz; have z3 := frozen0 (j := 1) yz; have Hy6 := Lib.hid y6; have Hyz := Lib.hid yz; clear y5 y6 yt2 yz))))
    have r0 := setCell_at z0 rfl
    have r1 := setCell_two (u := .bool false) z1
    refine bodyPost_ret (v := .tuple #[ratV 0 0, .bool false]) (by simp [results, Try.results44, go_sem, ratV, r0, r1]) rfl ⟨rfl, ?_⟩
    have l1 := hb1.size
    simp only [size_alloc] at l1
    have hq := (belowA (below_tr ((Below.refl w.heap.size w).alloc (Nat.le_refl _) _) hb1) hb2).setCell (p := ⟨w1.heap.size, 0, none⟩) (by show w.heap.size ≤ w1.heap.size; omega) (.int .i64 n)
    exact (hq.setCell (Nat.le_refl _) _).setCell (Nat.le_refl _) _
  · have hne : l.isEmpty = false := by
      have := hw0 rfl
      cases l with | nil => exact absurd rfl this | cons a b => rfl
    match ws, hW with
    | [], hW =>
      -- one word
      have kf1 := fun W => kf n 1 W
      by_cases he : fmtR n 1 = l
      · rw [parR_yes (fmtR_valid (hw0 rfl) he)]
        have d4 : (fmtR n 1 == l) = true := by rw [beq_iff_eq]; exact he
        have Hks := Lib.hid ks; clear ks; have Hkf := Lib.hid kf; clear kf; have Hkf1 := Lib.hid kf1; clear kf1; have HhW := Lib.hid hW; clear hW; have Hhlen := Lib.hid hlen; clear hlen; have Hhbad := Lib.hid hbad; clear hbad; have Hk0 := Lib.hid k0; clear k0; have He0 := Lib.hid e0; clear e0; have Hhw0 := Lib.hid hw0; clear hw0; have Hhe := Lib.hid he; clear he
        go_enter Try.func44, Try.ntmps44
        go_wp2_with (first | (go_at_call 82; ((with_reducible refine (Hks.out _).mono ?_); rintro e w1 ⟨v, rfl, hown, hb1⟩; (obtain ⟨g, cap, rfl, hg, hlt, -, -, hc⟩ := own_open hown (by simp); have yt := blockB hb1 (heap_alloc_new w (.cells #[.int .i64 0, .int .i64 0] 25)); have lt := lt_of_heap yt; have c0 := fun o => cellN (hc 0 _ rfl) o; have Hhown := Lib.hid hown; clear hown; have Hhc := Lib.hid hc; clear hc))) | (go_at_call 83; ((with_reducible refine (Hk0.out _).mono ?_); rintro e w2 ⟨rfl, hb2⟩; (clear c0; have y5 := blockB hb2 (heap_alloc_new w1 (.cells #[.int .i64 0, .int .i64 1] 25)); have yt2 := blockB hb2 (heapN yt (.cells #[.int .i64 0, .int .i64 1] 25)); have u0 := cellAt y5 0; have u1 := cellAt y5 1; have u2 := frozen0 (j := 0) y5; have u3 := frozen0 (j := 1) y5; have y6 := set0 y5 (.int .i64 n); have yz := setO (g := w1.heap.size) (j := 0) (by omega) yt2 (.int .i64 n); have s0 := cellAt y6 0; have s1 := cellAt y6 1; have s2 := frozen0 (j := 0) y6; have s3 := frozen0 (j := 1) y6; have z0 := cellAt yz 0; have z1 := cellAt yz 1; have z2 := frozen0 (j := 0) yz; have z3 := frozen0 (j := 1) yz; have Hy6 := Lib.hid y6; have Hyz := Lib.hid yz; clear y5 y6 yt2 yz))) | (go_at_call 32; ((with_reducible refine (Hkf1.out _).mono ?_); rintro e w3 ⟨rfl, hb3⟩; (clear u0 u1 u2 u3 s0 s1 s2 s3 z0 z1 z2 z3; have y7 := blockB hb3 Hy6.out; have yz7 := blockB hb3 Hyz.out; have s0 := cellAt y7 0; have s1 := cellAt y7 1; have s2 := frozen0 (j := 0) y7; have s3 := frozen0 (j := 1) y7; have z0 := cellAt yz7 0; have z1 := cellAt yz7 1; have z2 := frozen0 (j := 0) yz7; have z3 := frozen0 (j := 1) yz7; clear y7 yz7))))
        have r0 := setCell_at z0 rfl
        have r1 := setCell_two (u := .int .i64 1) z1
        refine bodyPost_ret (v := .tuple #[.agg #[.int .i64 n, .int .i64 1], .bool true]) (by simp [results, Try.results44, go_sem, ratV, r0, r1]) rfl ⟨rfl, ?_⟩
        have l1 := hb1.size
        simp only [size_alloc] at l1
        have hq := (belowA (below_tr ((Below.refl w.heap.size w).alloc (Nat.le_refl _) _) hb1) hb2).setCell (p := ⟨w1.heap.size, 0, none⟩) (by show w.heap.size ≤ w1.heap.size; omega) (.int .i64 n)
        replace hq := hq.trans (hb3.mono hq.size)
        exact (hq.setCell (Nat.le_refl _) _).setCell (Nat.le_refl _) _
      · rw [parR_no (hbad fun n' d' ht h1 h2 _ _ => he (by
          have e1 : n = n' := by simpa using h1
          rw [e1, ← h2 rfl]; exact ht.2))]
        have d4 : (fmtR n 1 == l) = false := by rw [beq_eq_false_iff_ne]; exact he
        have Hks := Lib.hid ks; clear ks; have Hkf := Lib.hid kf; clear kf; have Hkf1 := Lib.hid kf1; clear kf1; have HhW := Lib.hid hW; clear hW; have Hhlen := Lib.hid hlen; clear hlen; have Hhbad := Lib.hid hbad; clear hbad; have Hk0 := Lib.hid k0; clear k0; have He0 := Lib.hid e0; clear e0; have Hhw0 := Lib.hid hw0; clear hw0; have Hhe := Lib.hid he; clear he
        go_enter Try.func44, Try.ntmps44
        go_wp2_with (first | (go_at_call 82; ((with_reducible refine (Hks.out _).mono ?_); rintro e w1 ⟨v, rfl, hown, hb1⟩; (obtain ⟨g, cap, rfl, hg, hlt, -, -, hc⟩ := own_open hown (by simp); have yt := blockB hb1 (heap_alloc_new w (.cells #[.int .i64 0, .int .i64 0] 25)); have lt := lt_of_heap yt; have c0 := fun o => cellN (hc 0 _ rfl) o; have Hhown := Lib.hid hown; clear hown; have Hhc := Lib.hid hc; clear hc))) | (go_at_call 83; ((with_reducible refine (Hk0.out _).mono ?_); rintro e w2 ⟨rfl, hb2⟩; (clear c0; have y5 := blockB hb2 (heap_alloc_new w1 (.cells #[.int .i64 0, .int .i64 1] 25)); have yt2 := blockB hb2 (heapN yt (.cells #[.int .i64 0, .int .i64 1] 25)); have u0 := cellAt y5 0; have u1 := cellAt y5 1; have u2 := frozen0 (j := 0) y5; have u3 := frozen0 (j := 1) y5; have y6 := set0 y5 (.int .i64 n); have yz := setO (g := w1.heap.size) (j := 0) (by omega) yt2 (.int .i64 n); have s0 := cellAt y6 0; have s1 := cellAt y6 1; have s2 := frozen0 (j := 0) y6; have s3 := frozen0 (j := 1) y6; have z0 := cellAt yz 0; have z1 := cellAt yz 1; have z2 := frozen0 (j := 0) yz; have z3 := frozen0 (j := 1) yz; have Hy6 := Lib.hid y6; have Hyz := Lib.hid yz; clear y5 y6 yt2 yz))) | (go_at_call 32; ((with_reducible refine (Hkf1.out _).mono ?_); rintro e w3 ⟨rfl, hb3⟩; (clear u0 u1 u2 u3 s0 s1 s2 s3 z0 z1 z2 z3; have y7 := blockB hb3 Hy6.out; have yz7 := blockB hb3 Hyz.out; have s0 := cellAt y7 0; have s1 := cellAt y7 1; have s2 := frozen0 (j := 0) y7; have s3 := frozen0 (j := 1) y7; have z0 := cellAt yz7 0; have z1 := cellAt yz7 1; have z2 := frozen0 (j := 0) yz7; have z3 := frozen0 (j := 1) yz7; clear y7 yz7))))
        have r0 := setCell_at z0 rfl
        have r1 := setCell_two (u := .bool false) z1
        refine bodyPost_ret (v := .tuple #[ratV 0 0, .bool false]) (by simp [results, Try.results44, go_sem, ratV, r0, r1]) rfl ⟨rfl, ?_⟩
        have l1 := hb1.size
        simp only [size_alloc] at l1
        have hq := (belowA (below_tr ((Below.refl w.heap.size w).alloc (Nat.le_refl _) _) hb1) hb2).setCell (p := ⟨w1.heap.size, 0, none⟩) (by show w.heap.size ≤ w1.heap.size; omega) (.int .i64 n)
        replace hq := hq.trans (hb3.mono hq.size)
        exact (hq.setCell (Nat.le_refl _) _).setCell (Nat.le_refl _) _
    | [v1], hW =>
      -- two words
      have k1 := fun W => readLong_i v1 (hlen v1 (by simp)) W
      obtain ⟨d, t, e1⟩ := longOf_tuple v1
      rw [e1] at k1
      have hbad1 := fun (h : ¬ (t = true ∧ fmtR n d = l)) => hbad fun n' d' ht h1 _ h2 _ => h (by
        have e2 := e1.symm.trans (h2 v1 rfl)
        have e3 : n = n' := by simpa using h1
        simp at e2
        exact ⟨e2.2, by rw [e3, e2.1]; exact ht.2⟩)
      cases t
      · rw [parR_no (hbad1 (by simp))]
        have Hks := Lib.hid ks; clear ks; have Hkf := Lib.hid kf; clear kf; have HhW := Lib.hid hW; clear hW; have Hhlen := Lib.hid hlen; clear hlen; have Hhbad := Lib.hid hbad; clear hbad; have Hhbad1 := Lib.hid hbad1; clear hbad1; have Hk0 := Lib.hid k0; clear k0; have He0 := Lib.hid e0; clear e0; have Hhw0 := Lib.hid hw0; clear hw0; have Hk1 := Lib.hid k1; clear k1; have He1 := Lib.hid e1; clear e1
        go_enter Try.func44, Try.ntmps44
        go_wp2_with (first | (go_at_call 82; ((with_reducible refine (Hks.out _).mono ?_); rintro e w1 ⟨v, rfl, hown, hb1⟩; (obtain ⟨g, cap, rfl, hg, hlt, -, -, hc⟩ := own_open hown (by simp); have yt := blockB hb1 (heap_alloc_new w (.cells #[.int .i64 0, .int .i64 0] 25)); have lt := lt_of_heap yt; have c0 := fun o => cellN (hc 0 _ rfl) o; have Hhown := Lib.hid hown; clear hown; have Hhc := Lib.hid hc; clear hc))) | (go_at_call 83; ((with_reducible refine (Hk0.out _).mono ?_); rintro e w2 ⟨rfl, hb2⟩; (clear c0; have y5 := blockB hb2 (heap_alloc_new w1 (.cells #[.int .i64 0, .int .i64 1] 25)); have yt2 := blockB hb2 (heapN yt (.cells #[.int .i64 0, .int .i64 1] 25)); have u0 := cellAt y5 0; have u1 := cellAt y5 1; have u2 := frozen0 (j := 0) y5; have u3 := frozen0 (j := 1) y5; have y6 := set0 y5 (.int .i64 n); have yz := setO (g := w1.heap.size) (j := 0) (by omega) yt2 (.int .i64 n); have s0 := cellAt y6 0; have s1 := cellAt y6 1; have s2 := frozen0 (j := 0) y6; have s3 := frozen0 (j := 1) y6; have z0 := cellAt yz 0; have z1 := cellAt yz 1; have z2 := frozen0 (j := 0) yz; have z3 := frozen0 (j := 1) yz; have c1 := setC (g := w1.heap.size) (j := 0) (a := ⟨g, 1, none⟩) (by show g ≠ w1.heap.size; omega) (cellB hb2 (cellN (Hhc.out 1 _ rfl) _)) (.int .i64 n); have Hy6 := Lib.hid y6; have Hyz := Lib.hid yz; clear y5 y6 yt2 yz))) | (go_at_call 83; ((with_reducible refine (Hk1.out _).mono ?_); rintro e w3 ⟨rfl, hb3⟩; (clear c1; clear u0 u1 u2 u3 s0 s1 s2 s3 z0 z1 z2 z3; have y8 := blockB hb3 Hy6.out; have yz8 := blockB hb3 Hyz.out; have u0 := cellAt y8 0; have u1 := cellAt y8 1; have u2 := frozen0 (j := 0) y8; have u3 := frozen0 (j := 1) y8; have y9 := set1 y8 (.int .i64 d); have yz9 := setO (g := w1.heap.size) (j := 1) (by omega) yz8 (.int .i64 d); have s0 := cellAt y9 0; have s1 := cellAt y9 1; have s2 := frozen0 (j := 0) y9; have s3 := frozen0 (j := 1) y9; have z0 := cellAt yz9 0; have z1 := cellAt yz9 1; have z2 := frozen0 (j := 0) yz9; have z3 := frozen0 (j := 1) yz9; have Hy9 := Lib.hid y9; have Hyz9 := Lib.hid yz9; clear y8 yz8 y9 yz9))))
        have r0 := setCell_at z0 rfl
        have r1 := setCell_two (u := .bool false) z1
        refine bodyPost_ret (v := .tuple #[ratV 0 0, .bool false]) (by simp [results, Try.results44, go_sem, ratV, r0, r1]) rfl ⟨rfl, ?_⟩
        have l1 := hb1.size
        simp only [size_alloc] at l1
        have hq := (belowA (below_tr ((Below.refl w.heap.size w).alloc (Nat.le_refl _) _) hb1) hb2).setCell (p := ⟨w1.heap.size, 0, none⟩) (by show w.heap.size ≤ w1.heap.size; omega) (.int .i64 n)
        replace hq := hq.trans (hb3.mono hq.size)
        replace hq := hq.setCell (p := ⟨w1.heap.size, 1, none⟩) (by show w.heap.size ≤ w1.heap.size; omega) (.int .i64 d)
        exact (hq.setCell (Nat.le_refl _) _).setCell (Nat.le_refl _) _
      · have kf1 := fun W => kf n d W
        by_cases he : fmtR n d = l
        · rw [parR_yes (fmtR_valid (hw0 rfl) he)]
          have d4 : (fmtR n d == l) = true := by rw [beq_iff_eq]; exact he
          have Hks := Lib.hid ks; clear ks; have Hkf := Lib.hid kf; clear kf; have Hkf1 := Lib.hid kf1; clear kf1; have HhW := Lib.hid hW; clear hW; have Hhlen := Lib.hid hlen; clear hlen; have Hhbad := Lib.hid hbad; clear hbad; have Hhbad1 := Lib.hid hbad1; clear hbad1; have Hk0 := Lib.hid k0; clear k0; have He0 := Lib.hid e0; clear e0; have Hhw0 := Lib.hid hw0; clear hw0; have Hk1 := Lib.hid k1; clear k1; have He1 := Lib.hid e1; clear e1; have Hhe := Lib.hid he; clear he
          go_enter Try.func44, Try.ntmps44
          go_wp2_with (first | (go_at_call 82; ((with_reducible refine (Hks.out _).mono ?_); rintro e w1 ⟨v, rfl, hown, hb1⟩; (obtain ⟨g, cap, rfl, hg, hlt, -, -, hc⟩ := own_open hown (by simp); have yt := blockB hb1 (heap_alloc_new w (.cells #[.int .i64 0, .int .i64 0] 25)); have lt := lt_of_heap yt; have c0 := fun o => cellN (hc 0 _ rfl) o; have Hhown := Lib.hid hown; clear hown; have Hhc := Lib.hid hc; clear hc))) | (go_at_call 83; ((with_reducible refine (Hk0.out _).mono ?_); rintro e w2 ⟨rfl, hb2⟩; (clear c0; have y5 := blockB hb2 (heap_alloc_new w1 (.cells #[.int .i64 0, .int .i64 1] 25)); have yt2 := blockB hb2 (heapN yt (.cells #[.int .i64 0, .int .i64 1] 25)); have u0 := cellAt y5 0; have u1 := cellAt y5 1; have u2 := frozen0 (j := 0) y5; have u3 := frozen0 (j := 1) y5; have y6 := set0 y5 (.int .i64 n); have yz := setO (g := w1.heap.size) (j := 0) (by omega) yt2 (.int .i64 n); have s0 := cellAt y6 0; have s1 := cellAt y6 1; have s2 := frozen0 (j := 0) y6; have s3 := frozen0 (j := 1) y6; have z0 := cellAt yz 0; have z1 := cellAt yz 1; have z2 := frozen0 (j := 0) yz; have z3 := frozen0 (j := 1) yz; have c1 := setC (g := w1.heap.size) (j := 0) (a := ⟨g, 1, none⟩) (by show g ≠ w1.heap.size; omega) (cellB hb2 (cellN (Hhc.out 1 _ rfl) _)) (.int .i64 n); have Hy6 := Lib.hid y6; have Hyz := Lib.hid yz; clear y5 y6 yt2 yz))) | (go_at_call 83; ((with_reducible refine (Hk1.out _).mono ?_); rintro e w3 ⟨rfl, hb3⟩; (clear c1; clear u0 u1 u2 u3 s0 s1 s2 s3 z0 z1 z2 z3; have y8 := blockB hb3 Hy6.out; have yz8 := blockB hb3 Hyz.out; have u0 := cellAt y8 0; have u1 := cellAt y8 1; have u2 := frozen0 (j := 0) y8; have u3 := frozen0 (j := 1) y8; have y9 := set1 y8 (.int .i64 d); have yz9 := setO (g := w1.heap.size) (j := 1) (by omega) yz8 (.int .i64 d); have s0 := cellAt y9 0; have s1 := cellAt y9 1; have s2 := frozen0 (j := 0) y9; have s3 := frozen0 (j := 1) y9; have z0 := cellAt yz9 0; have z1 := cellAt yz9 1; have z2 := frozen0 (j := 0) yz9; have z3 := frozen0 (j := 1) yz9; have Hy9 := Lib.hid y9; have Hyz9 := Lib.hid yz9; clear y8 yz8 y9 yz9))) | (go_at_call 32; ((with_reducible refine (Hkf1.out _).mono ?_); rintro e w4 ⟨rfl, hb4⟩; (clear u0 u1 u2 u3 s0 s1 s2 s3 z0 z1 z2 z3; have y7 := blockB hb4 Hy9.out; have yz7 := blockB hb4 Hyz9.out; have s0 := cellAt y7 0; have s1 := cellAt y7 1; have s2 := frozen0 (j := 0) y7; have s3 := frozen0 (j := 1) y7; have z0 := cellAt yz7 0; have z1 := cellAt yz7 1; have z2 := frozen0 (j := 0) yz7; have z3 := frozen0 (j := 1) yz7; clear y7 yz7))))
          have r0 := setCell_at z0 rfl
          have r1 := setCell_two (u := .int .i64 d) z1
          refine bodyPost_ret (v := .tuple #[.agg #[.int .i64 n, .int .i64 d], .bool true]) (by simp [results, Try.results44, go_sem, ratV, r0, r1]) rfl ⟨rfl, ?_⟩
          have l1 := hb1.size
          simp only [size_alloc] at l1
          have hq := (belowA (below_tr ((Below.refl w.heap.size w).alloc (Nat.le_refl _) _) hb1) hb2).setCell (p := ⟨w1.heap.size, 0, none⟩) (by show w.heap.size ≤ w1.heap.size; omega) (.int .i64 n)
          replace hq := hq.trans (hb3.mono hq.size)
          replace hq := hq.setCell (p := ⟨w1.heap.size, 1, none⟩) (by show w.heap.size ≤ w1.heap.size; omega) (.int .i64 d)
          replace hq := hq.trans (hb4.mono hq.size)
          exact (hq.setCell (Nat.le_refl _) _).setCell (Nat.le_refl _) _
        · rw [parR_no (hbad1 (by simp [he]))]
          have d4 : (fmtR n d == l) = false := by rw [beq_eq_false_iff_ne]; exact he
          have Hks := Lib.hid ks; clear ks; have Hkf := Lib.hid kf; clear kf; have Hkf1 := Lib.hid kf1; clear kf1; have HhW := Lib.hid hW; clear hW; have Hhlen := Lib.hid hlen; clear hlen; have Hhbad := Lib.hid hbad; clear hbad; have Hhbad1 := Lib.hid hbad1; clear hbad1; have Hk0 := Lib.hid k0; clear k0; have He0 := Lib.hid e0; clear e0; have Hhw0 := Lib.hid hw0; clear hw0; have Hk1 := Lib.hid k1; clear k1; have He1 := Lib.hid e1; clear e1; have Hhe := Lib.hid he; clear he
          go_enter Try.func44, Try.ntmps44
          go_wp2_with (first | (go_at_call 82; ((with_reducible refine (Hks.out _).mono ?_); rintro e w1 ⟨v, rfl, hown, hb1⟩; (obtain ⟨g, cap, rfl, hg, hlt, -, -, hc⟩ := own_open hown (by simp); have yt := blockB hb1 (heap_alloc_new w (.cells #[.int .i64 0, .int .i64 0] 25)); have lt := lt_of_heap yt; have c0 := fun o => cellN (hc 0 _ rfl) o; have Hhown := Lib.hid hown; clear hown; have Hhc := Lib.hid hc; clear hc))) | (go_at_call 83; ((with_reducible refine (Hk0.out _).mono ?_); rintro e w2 ⟨rfl, hb2⟩; (clear c0; have y5 := blockB hb2 (heap_alloc_new w1 (.cells #[.int .i64 0, .int .i64 1] 25)); have yt2 := blockB hb2 (heapN yt (.cells #[.int .i64 0, .int .i64 1] 25)); have u0 := cellAt y5 0; have u1 := cellAt y5 1; have u2 := frozen0 (j := 0) y5; have u3 := frozen0 (j := 1) y5; have y6 := set0 y5 (.int .i64 n); have yz := setO (g := w1.heap.size) (j := 0) (by omega) yt2 (.int .i64 n); have s0 := cellAt y6 0; have s1 := cellAt y6 1; have s2 := frozen0 (j := 0) y6; have s3 := frozen0 (j := 1) y6; have z0 := cellAt yz 0; have z1 := cellAt yz 1; have z2 := frozen0 (j := 0) yz; have z3 := frozen0 (j := 1) yz; have c1 := setC (g := w1.heap.size) (j := 0) (a := ⟨g, 1, none⟩) (by show g ≠ w1.heap.size; omega) (cellB hb2 (cellN (Hhc.out 1 _ rfl) _)) (.int .i64 n); have Hy6 := Lib.hid y6; have Hyz := Lib.hid yz; clear y5 y6 yt2 yz))) | (go_at_call 83; ((with_reducible refine (Hk1.out _).mono ?_); rintro e w3 ⟨rfl, hb3⟩; (clear c1; clear u0 u1 u2 u3 s0 s1 s2 s3 z0 z1 z2 z3; have y8 := blockB hb3 Hy6.out; have yz8 := blockB hb3 Hyz.out; have u0 := cellAt y8 0; have u1 := cellAt y8 1; have u2 := frozen0 (j := 0) y8; have u3 := frozen0 (j := 1) y8; have y9 := set1 y8 (.int .i64 d); have yz9 := setO (g := w1.heap.size) (j := 1) (by omega) yz8 (.int .i64 d); have s0 := cellAt y9 0; have s1 := cellAt y9 1; have s2 := frozen0 (j := 0) y9; have s3 := frozen0 (j := 1) y9; have z0 := cellAt yz9 0; have z1 := cellAt yz9 1; have z2 := frozen0 (j := 0) yz9; have z3 := frozen0 (j := 1) yz9; have Hy9 := Lib.hid y9; have Hyz9 := Lib.hid yz9; clear y8 yz8 y9 yz9))) | (go_at_call 32; ((with_reducible refine (Hkf1.out _).mono ?_); rintro e w4 ⟨rfl, hb4⟩; (clear u0 u1 u2 u3 s0 s1 s2 s3 z0 z1 z2 z3; have y7 := blockB hb4 Hy9.out; have yz7 := blockB hb4 Hyz9.out; have s0 := cellAt y7 0; have s1 := cellAt y7 1; have s2 := frozen0 (j := 0) y7; have s3 := frozen0 (j := 1) y7; have z0 := cellAt yz7 0; have z1 := cellAt yz7 1; have z2 := frozen0 (j := 0) yz7; have z3 := frozen0 (j := 1) yz7; clear y7 yz7))))
          have r0 := setCell_at z0 rfl
          have r1 := setCell_two (u := .bool false) z1
          refine bodyPost_ret (v := .tuple #[ratV 0 0, .bool false]) (by simp [results, Try.results44, go_sem, ratV, r0, r1]) rfl ⟨rfl, ?_⟩
          have l1 := hb1.size
          simp only [size_alloc] at l1
          have hq := (belowA (below_tr ((Below.refl w.heap.size w).alloc (Nat.le_refl _) _) hb1) hb2).setCell (p := ⟨w1.heap.size, 0, none⟩) (by show w.heap.size ≤ w1.heap.size; omega) (.int .i64 n)
          replace hq := hq.trans (hb3.mono hq.size)
          replace hq := hq.setCell (p := ⟨w1.heap.size, 1, none⟩) (by show w.heap.size ≤ w1.heap.size; omega) (.int .i64 d)
          replace hq := hq.trans (hb4.mono hq.size)
          exact (hq.setCell (Nat.le_refl _) _).setCell (Nat.le_refl _) _
    | x1 :: x2 :: xs, hW =>
      rw [parR_no (hbad fun n' d' _ _ _ _ h => by simp at h)]
      have h3 : splitL 47 l = w0 :: x1 :: x2 :: xs := hW
      have g3 : xs.length ≤ 1048576 := by have := spl_len 47 l []; rw [show spl 47 [] l = _ from h3] at this; simp at this; omega
      have d5 : (xs.length + 1 + 1 + 1 == 2) = false := by rw [beq_eq_false_iff_ne]; omega
      have d6 : decide ((2 : Int) < (xs.length : Int) + 1 + 1 + 1) = true := by rw [decide_eq_true_eq]; omega
      have d7 : ((xs.length : Int) + 1 + 1 + 1 == 2) = false := by rw [beq_eq_false_iff_ne]; omega
      have Hks := Lib.hid ks; clear ks; have Hkf := Lib.hid kf; clear kf; have HhW := Lib.hid hW; clear hW; have Hh3 := Lib.hid h3; clear h3; have Hhlen := Lib.hid hlen; clear hlen; have Hhbad := Lib.hid hbad; clear hbad; have Hk0 := Lib.hid k0; clear k0; have He0 := Lib.hid e0; clear e0; have Hhw0 := Lib.hid hw0; clear hw0
      go_enter Try.func44, Try.ntmps44
      go_wp2_with (first | (go_at_call 82; ((with_reducible refine (Hks.out _).mono ?_); rintro e w1 ⟨v, rfl, hown, hb1⟩; (obtain ⟨g, cap, rfl, hg, hlt, -, -, hc⟩ := own_open hown (by simp); have yt := blockB hb1 (heap_alloc_new w (.cells #[.int .i64 0, .int .i64 0] 25)); have lt := lt_of_heap yt; have c0 := fun o => cellN (hc 0 _ rfl) o; have Hhown := Lib.hid hown; clear hown; have Hhc := Lib.hid hc; clear hc))) | (go_at_call 83; ((with_reducible refine (Hk0.out _).mono ?_); rintro e w2 ⟨rfl, hb2⟩; (clear c0; have y5 := blockB hb2 (heap_alloc_new w1 (.cells #[.int .i64 0, .int .i64 1] 25)); have yt2 := blockB hb2 (heapN yt (.cells #[.int .i64 0, .int .i64 1] 25)); have u0 := cellAt y5 0; have u1 := cellAt y5 1; have u2 := frozen0 (j := 0) y5; have u3 := frozen0 (j := 1) y5; have y6 := set0 y5 (.int .i64 n); have yz := setO (g := w1.heap.size) (j := 0) (by omega) yt2 (.int .i64 n); have s0 := cellAt y6 0; have s1 := cellAt y6 1; have s2 := frozen0 (j := 0) y6; have s3 := frozen0 (j := 1) y6; have z0 := cellAt yz 0; have z1 := cellAt yz 1; have z2 := frozen0 (j := 0) yz; have z3 := frozen0 (j := 1) yz; have Hy6 := Lib.hid y6; have Hyz := Lib.hid yz; clear y5 y6 yt2 yz))))
      have r0 := setCell_at z0 rfl
      have r1 := setCell_two (u := .bool false) z1
      refine bodyPost_ret (v := .tuple #[ratV 0 0, .bool false]) (by simp [results, Try.results44, go_sem, ratV, r0, r1]) rfl ⟨rfl, ?_⟩
      have l1 := hb1.size
      simp only [size_alloc] at l1
      have hq := (belowA (below_tr ((Below.refl w.heap.size w).alloc (Nat.le_refl _) _) hb1) hb2).setCell (p := ⟨w1.heap.size, 0, none⟩) (by show w.heap.size ≤ w1.heap.size; omega) (.int .i64 n)
      exact (hq.setCell (Nat.le_refl _) _).setCell (Nat.le_refl _) _
end Go.Proofs.Ytkhphjapefijbaa
