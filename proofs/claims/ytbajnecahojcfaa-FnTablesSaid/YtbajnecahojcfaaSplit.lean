/- split: a text divided at a byte. -/
import Derived.Test.YtbajnecahojcfaaSl
namespace Go.Proofs.Ytbajnecahojcfaa
open Go.RowKit Go.Sort
set_option maxHeartbeats 1000000
set_option maxRecDepth 100000

def spl (by_ : UInt8) : List UInt8 → List UInt8 → List (List UInt8)
  | cur, [] => [cur]
  | cur, b :: r => if b = by_ then cur :: spl by_ [] r else spl by_ (cur ++ [b]) r
def splitL (by_ : UInt8) (l : List UInt8) : List (List UInt8) := spl by_ [] l
abbrev strV (s : List UInt8) : Value := .string ⟨s.toArray⟩
theorem spl_pos (by_ : UInt8) : ∀ (r cur : List UInt8), 1 ≤ (spl by_ cur r).length
  | [], _ => by simp [spl]
  | b :: r, cur => by
    unfold spl; split
    · simp
    · exact spl_pos by_ r _
theorem spl_len (by_ : UInt8) : ∀ (r cur : List UInt8), (spl by_ cur r).length ≤ r.length + 1
  | [], _ => by simp [spl]
  | b :: r, cur => by
    unfold spl; split
    · have := spl_len by_ r []; simp; omega
    · have := spl_len by_ r (cur ++ [b]); simp; omega
theorem spl_elem (c : UInt8) : ∀ (r cur x : List UInt8), x ∈ spl c cur r → x.length ≤ cur.length + r.length
  | [], cur, x, h => by simp [spl] at h; subst h; simp
  | b :: r, cur, x, h => by
    unfold spl at h
    split at h
    · rcases List.mem_cons.1 h with h | h
      · subst h; simp
      · have := spl_elem c r [] x h; simp at this ⊢; omega
    · have := spl_elem c r (cur ++ [b]) x h; simp at this ⊢; omega
theorem split_elem {c : UInt8} {l x : List UInt8} (h : x ∈ splitL c l) : x.length ≤ l.length := by
  have := spl_elem c l [] x h; simpa using this
theorem ba_slice (l : List UInt8) (i j : Nat) : (ByteArray.mk l.toArray).extract i j = ⟨((l.drop i).take (j - i)).toArray⟩ := by
  first | (rw [ByteArray.extract_mk]; done) | (rw [ByteArray.extract_mk]; simp)
theorem split_step {by_ : UInt8} {l : List UInt8} {pre : List (List UInt8)} {f k : Nat} (h : splitL by_ l = pre ++ spl by_ ((l.drop f).take (k - f)) (l.drop k)) (hf : f ≤ k) (hk : k < l.length) (hb : l[k] = by_) :
    splitL by_ l = (pre ++ [(l.drop f).take (k - f)]) ++ spl by_ ((l.drop (k + 1)).take (k + 1 - (k + 1))) (l.drop (k + 1)) := by
  rw [h, List.drop_eq_getElem_cons hk, spl, if_pos hb]
  simp
theorem split_skip {by_ : UInt8} {l : List UInt8} {pre : List (List UInt8)} {f k : Nat} (h : splitL by_ l = pre ++ spl by_ ((l.drop f).take (k - f)) (l.drop k)) (hf : f ≤ k) (hk : k < l.length) (hb : ¬ l[k] = by_) :
    splitL by_ l = pre ++ spl by_ ((l.drop f).take (k + 1 - f)) (l.drop (k + 1)) := by
  rw [h, List.drop_eq_getElem_cons hk, spl, if_neg hb]
  congr 2
  rw [show k + 1 - f = (k - f) + 1 by omega, List.take_succ_eq_append_getElem (by simp; omega)]
  simp [show f + (k - f) = k by omega]
theorem split_end {by_ : UInt8} {l : List UInt8} {pre : List (List UInt8)} {f : Nat} (h : splitL by_ l = pre ++ spl by_ ((l.drop f).take (l.length - f)) (l.drop l.length)) :
    splitL by_ l = pre ++ [(l.drop f).take (l.length - f)] := by
  rw [h, List.drop_length, spl]

theorem split_i (l : List UInt8) (c : UInt8) (hl : l.length ≤ 1048576) (w : World) :
    Calls Try.prog 108 #[.string ⟨l.toArray⟩, .int .u8 (c.toNat : Int)] w (fun e w' => ∃ v, e = .returned v ∧ w'.ownsRow w.heap.size 9 1 v (splitL c l).length ((splitL c l).map strV) ∧ Below w.heap.size w w') := by
  go_enter Try.func108, Try.ntmps108
  go_wp2_with fail
  go_loopw [5, 6, 7] (fun v f i wr => ∃ (k fr : Nat) (pre : List (List UInt8)), i = .int .i64 k ∧ f = .int .i64 fr ∧ wr.ownsRow w.heap.size 9 1 v pre.length (pre.map strV) ∧ Below w.heap.size w wr ∧ k ≤ l.length + 1 ∧ pre.length ≤ k ∧ fr ≤ k ∧ (k ≤ l.length → splitL c l = pre ++ spl c ((l.drop fr).take (k - fr)) (l.drop k)) ∧ (k = l.length + 1 → splitL c l = pre)) (fun _ _ i _ => l.length + 1 - (intOf i).toNat)
  case atStart => exact ⟨0, 0, [], rfl, rfl, World.ownsRow_nil _ _ _ _, Below.refl _ _, by omega, by simp, by omega, fun _ => by simp [splitL], fun h => by omega⟩
  case round =>
    obtain ⟨k, fr, pre, rfl, rfl, hown, hb, hk, hpl, hfk, hs, he⟩ := hrel
    by_cases h1 : k ≤ l.length
    · replace hs := hs h1
      clear he
      have g1 : (k : Int) ≤ (l.length : Int) := by omega
      by_cases h2 : k = l.length
      · subst h2
        have hx := split_end hs
        have Hhs := Lib.hid hs; clear hs; have Hhx := Lib.hid hx; clear hx
        go_wp2_with ((at_builtin; go_must (refine wp_append_one strT rfl _ _ rfl w.heap.size _ pre.length (pre.map strV) rfl hown _ rfl rfl (by omega) hb.size ?_; intro v2 w2 hown2 hgr2 hb2)))
        go_roundw
        case rel => exact ⟨l.length + 1, l.length + 1, pre ++ [(l.drop fr).take (l.length - fr)], by go_num, by go_num, by rw [List.map_append, List.length_append]; exact hown2, hb.trans hb2, by omega, by simp; omega, by omega, fun h => by omega, fun _ => Hhx.out⟩
        case measure => simp [intOf]
      · have h3 : k < l.length := by omega
        have g3 : (k : Int) < (l.length : Int) := by omega
        have g2 : ((k : Int) == (l.length : Int)) = false := by rw [beq_eq_false_iff_ne]; omega
        have g4 : (k == l.length) = false := by rw [beq_eq_false_iff_ne]; omega
        by_cases hc : l[k] = c
        · have hx := split_step hs hfk h3 hc
          have d1 : ((l[k].toNat : Int) == (c.toNat : Int)) = true := by rw [beq_iff_eq, hc]
          have d2 : (l[k].toNat == c.toNat) = true := by rw [beq_iff_eq, hc]
          have Hhs := Lib.hid hs; clear hs; have Hhx := Lib.hid hx; clear hx; have Hhc := Lib.hid hc; clear hc; have Hh2 := Lib.hid h2; clear h2
          go_wp2_with ((at_builtin; go_must (refine wp_append_one strT rfl _ _ rfl w.heap.size _ pre.length (pre.map strV) rfl hown _ rfl rfl (by omega) hb.size ?_; intro v2 w2 hown2 hgr2 hb2)))
          go_roundw
          case rel => exact ⟨k + 1, k + 1, pre ++ [(l.drop fr).take (k - fr)], by go_num, by go_num, by rw [List.map_append, List.length_append]; exact hown2, hb.trans hb2, by omega, by simp; omega, by omega, fun _ => Hhx.out, fun h => by omega⟩
          case measure => simp [intOf] <;> omega
        · have hx := split_skip hs hfk h3 hc
          have d1 : ((l[k].toNat : Int) == (c.toNat : Int)) = false := by rw [beq_eq_false_iff_ne]; intro h; exact hc (UInt8.toNat_inj.1 (by omega))
          have d2 : (l[k].toNat == c.toNat) = false := by rw [beq_eq_false_iff_ne]; intro h; exact hc (UInt8.toNat_inj.1 h)
          have Hhs := Lib.hid hs; clear hs; have Hhx := Lib.hid hx; clear hx; have Hhc := Lib.hid hc; clear hc; have Hh2 := Lib.hid h2; clear h2
          go_wp2_with fail
          go_roundw
          case rel => exact ⟨k + 1, fr, pre, by go_num, rfl, hown, hb, by omega, by omega, by omega, fun _ => Hhx.out, fun h => by omega⟩
          case measure => simp [intOf] <;> omega
    · have h2 := he (by omega)
      have g1 : ¬ (k : Int) ≤ (l.length : Int) := by omega
      clear hs he
      have Hh2 := Lib.hid h2; clear h2
      go_wp2_with fail
      go_ret
      exact ⟨_, rfl, by rw [Hh2.out]; exact hown, hb⟩
end Go.Proofs.Ytbajnecahojcfaa
