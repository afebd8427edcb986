/- Base words and laws for the walks of this seat: posts, byte rows, string conversion. -/
import Derived.Test.YtbajnecahojcfaaProg
import Derived.WalkKit
import Derived.Lib.Hide
import Derived.BigGuardPart
import Derived.Laws.BytesArg
import Derived.Laws.AppendOwnNone
import Derived.Deep.Draws
import Derived.Deep.DeepMust
import Derived.Deep.RegionWith
import Derived.BigRegion
import Derived.Deep.RegionHeld3
import Derived.Deep.RegionLaw
namespace Go.Proofs.Ytbajnecahojcfaa
open Go.RowKit

def Ret (v : Value) (w : World) (e : Ending) (w' : World) : Prop := e = .returned v ∧ w = w'
def RetB (v : Value) (w : World) (e : Ending) (w' : World) : Prop := e = .returned v ∧ Below w.heap.size w w'

theorem ret_str {a b : List UInt8} (h : a = b) : Ending.returned (.string ⟨a.toArray⟩) = .returned (.string ⟨b.toArray⟩) := by rw [h]
theorem below_tr {a b c : World} (h1 : Below a.heap.size a b) (h2 : Below b.heap.size b c) : Below a.heap.size a c := h1.trans (h2.mono h1.size)
theorem str_list (s : ByteArray) : ∃ l : List UInt8, s = ⟨l.toArray⟩ := ⟨s.data.toList, by simp⟩
theorem str_app (x y : List UInt8) : Value.string (⟨x.toArray⟩ ++ ⟨y.toArray⟩) = .string ⟨(x ++ y).toArray⟩ := by rw [ByteArray.mk_append_mk]
theorem ret_int {k : IntKind} {a b : Int} (h : a = b) : Ending.returned (.int k a) = .returned (.int k b) := by rw [h]
theorem ret_bool {a b : Bool} (h : a = b) : Ending.returned (.bool a) = .returned (.bool b) := by rw [h]

def byteV (b : UInt8) : Value := .int .u8 (b.toNat : Int)
def intV (z : Int) : Value := .int .i64 z

theorem ba_get (l : List UInt8) (k : Nat) (h : k < (ByteArray.mk l.toArray).size) : (ByteArray.mk l.toArray)[k] = l[k]'(by simpa [ByteArray.size] using h) := rfl
theorem wrap_byte (b : UInt8) : IntKind.i64.wrap (b.toNat : Int) = (b.toNat : Int) := IntWalk.i64_in _ (by have := b.toNat_lt; omega)
theorem wrap64_byte (b : UInt8) : wrap64 (b.toNat : Int) = (b.toNat : Int) := IntWalk.wrap64_in _ (by have := b.toNat_lt; omega)
theorem u8_mask15 (b : UInt8) : bits .and .u8 (b.toNat : Int) 15 = (b.toNat : Int) % 16 := by
  have h := u8_and_nat b.toNat 15 b.toNat_lt (by omega)
  rw [nat_mask4] at h
  exact h
attribute [go_sem] ByteArray.extract_mk
attribute [go_sem] ba_get wrap_byte wrap64_byte

theorem info_u8 : (Try.prog.info? 5).map (fun i => (i.zero, i.size, i.bytes)) = some (some (.int .u8 0), 1, 1) := by kernel_rfl

theorem byteV_one (l : List UInt8) : ∀ u ∈ l.map byteV, u.oneCell' = true := by
  intro u hu
  obtain ⟨_, _, rfl⟩ := List.mem_map.1 hu
  rfl

section
variable {P : Program} {w : World}
/-- string(b): the bytes of an owned row. -/
theorem run_bytes_own {base e src dst : Nat} {v : Value} {n : Nat} {l : List UInt8} (hs : P.underlying src = some (.slice e)) (he : P.underlying e = some (.int .u8)) (hd : P.underlying dst = some .string)
    (h : w.ownsRow base e 1 v n (l.map byteV)) : (convert src dst v).run P w = .ok (.string ⟨l.toArray⟩) w := by
  rcases h.2 with ⟨rfl, h0⟩ | ⟨g, cap, cur, rfl, hg, hh, hnc, hm, hsz, htk⟩
  · have h1 := h.1
    subst h0
    have : l = [] := by cases l <;> simp_all
    subst this
    rw [run_convert_bytes_nil w src e hs he 0 0 dst hd]
    rfl
  · have hl : l.length = n := by have := h.1; simpa using this
    rw [run_convert_bytes_arg w src e hs he g 0 n cap (l.map fun b => (b.toNat : Int)) (by simpa using hl) ?_ dst hd]
    · congr 2
      simp [strOfNums, Function.comp_def]
    · intro i hi
      have hc := h.cells (g := g) rfl i (.int .u8 ((l[i]'(by omega)).toNat : Int)) (by simp [byteV, show i < l.length by omega])
      rw [Addr.add_lit] at hc
      rw [hc]
      simp [List.getD, show i < l.length by omega]
end

/-- string(v) as an operation, v a row of bytes that the call itself made. -/
theorem wp_bytes_string {w : World} {ops : Array Oper} {rest : List Oper} {o : Oper} {a : Act} {Q : Exit → Act → World → Prop} {base : Nat} {v : Value} {n : Nat} {l : List UInt8} (hown : w.ownsRow base 5 1 v n (l.map byteV))
    (hg : o.guard = none) (x : Operand) (ho : o.op = .convert 32 9 x) (hx : a.eval x = v)
    (h : wpList Try.prog ops Q rest (a.put o.dst (.string ⟨l.toArray⟩)) w) : wpList Try.prog ops Q (o :: rest) a w := by
  refine wpList_plain hg fun K hK => ?_
  have hr := run_bytes_own (P := Try.prog) (src := 32) (dst := 9) Try.underlying32 Try.underlying5 Try.underlying9 hown
  unfold Oper.wp
  simp only [execOp, ho, hx, Sem.run_bind, hr, Result.andThen, Sem.run_pure]
  exact hK _ _ h

/-- A row that is owned stays owned where all that was there is as it was. -/
theorem own_below {w w' : World} {base : Nat} {e : TypeId} {size : Nat} {v : Value} {n : Nat} {xs : List Value} (h : w.ownsRow base e size v n xs) (hb : Below w.heap.size w w') : w'.ownsRow base e size v n xs := by
  obtain ⟨h1, h2⟩ := h
  refine ⟨h1, ?_⟩
  rcases h2 with h2 | ⟨g, cap, cur, hv, hg, hh, r⟩
  · exact .inl h2
  · have hlt : g < w.heap.size := by
      rcases Nat.lt_or_ge g w.heap.size with h' | h'
      · exact h'
      · rw [Array.getElem?_eq_none h'] at hh; cases hh
    exact .inr ⟨g, cap, cur, hv, hg, (hb.block g hlt).trans hh, r⟩

/-- append(a, b...): one row of bytes of the call's own behind another. -/
theorem wp_append_row_bytes {w : World} {ops : Array Oper} {rest : List Oper} {o : Oper} {a : Act} {Q : Exit → Act → World → Prop} {base base2 : Nat} {v v2 : Value} {n n2 : Nat} {l l2 : List UInt8}
    (hown : w.ownsRow base 5 1 v n (l.map byteV)) (hown2 : w.ownsRow base2 5 1 v2 n2 (l2.map byteV)) (hgd : o.guard = none) (s x : Operand)
    (ho : o.op = .call { callee := .builtin .append, args := #[s, x], argTypes := #[32, 32] }) (hs : a.eval s = v) (hx : a.eval x = v2) (hn : n + n2 ≤ 1099511627776) (hbase : base ≤ w.heap.size)
    (h : ∀ v' w', w'.ownsRow base 5 1 v' (n + n2) ((l ++ l2).map byteV) → Below base w w' → wpList Try.prog ops Q rest (a.put o.dst v') w') : wpList Try.prog ops Q (o :: rest) a w := by
  obtain ⟨i0, hi, hz0, hz1, hz2⟩ := info_parts info_u8
  rcases hown2.2 with ⟨rfl, h0⟩ | ⟨g, cap, cur, rfl, hg, hh, hnc, hm, hsz, htk⟩
  · have h1 := hown2.1
    subst h0
    have : l2 = [] := by cases l2 <;> simp_all
    subst this
    exact wpList_append_own_none hgd s x 32 ho base 5 i0 1 Try.underlying32 hi v n _ hs hown hx (h v w (by simpa using hown) (Below.refl _ _))
  · refine wpList_append_own _ hgd s x 32 ho base 5 i0 (.int .u8 0) 1 1 Try.underlying32 hi hz0 hz1 hz2 rfl (by decide) v n (l.map byteV) hs hown ⟨g, 0, none⟩ n2 cap (l2.map byteV) hx hown2.1 (hown2.cells (g := g) rfl) (byteV_one _) (by unfold maxLen; omega) (by omega) hbase ?_
    intro v' w' hown' hgr _
    have hlt := hown.lt
    exact h v' w' (by simpa using hown') ((Below.refl base w).grown hgr hbase fun k hk => (hlt k hk).1)

/-- make([]byte, n). -/
theorem wp_make_bytes {w : World} {ops : Array Oper} {rest : List Oper} {o : Oper} {a : Act} {Q : Exit → Act → World → Prop} (hg : o.guard = none) (l c : Operand) (hop : o.op = Op.makeSlice 32 l c)
    (base : Nat) (kl kc : IntKind) (L C : Int) (n : Nat) (hl : a.eval l = .int kl L) (hc : a.eval c = .int kc C) (hL : L = (n : Int)) (hC : C = (n : Int)) (hn : n ≤ 1099511627776) (hb : base ≤ w.heap.size)
    (hK : ∀ w', w'.ownsRow base 5 1 (.slice (some ⟨w.heap.size, 0, none⟩) n n) n ((List.replicate n (0 : UInt8)).map byteV) → Below base w w' → wpList Try.prog ops Q rest (a.put o.dst (.slice (some ⟨w.heap.size, 0, none⟩) n n)) w') :
    wpList Try.prog ops Q (o :: rest) a w := by
  obtain ⟨i0, hi, hz0, hz1, hz2⟩ := info_parts info_u8
  refine wpList_make_full w hg l c 32 hop base 5 i0 (.int .u8 0) 1 Try.underlying32 hi hz0 hz1 kl kc L C n hl hc hL hC (by rw [hz2]; omega) (by unfold maxLen; omega) hb ?_
  intro w' hown hgr
  refine hK w' ?_ ((Below.refl base w).grown hgr hb (fun k hk => by cases hk))
  have e : (madeCells (Value.int IntKind.u8 0).cells (n * 1)).toList = (List.replicate n (0 : UInt8)).map byteV := by
    rw [Nat.mul_one]
    show (madeCells #[Value.int IntKind.u8 0] n).toList = _
    rw [toList_madeCells_one, List.map_replicate]; rfl
  rwa [e] at hown
/-- out[j] = b. -/
theorem own_set {w : World} {base g n cap : Nat} {l : List UInt8} (h : w.ownsRow base 5 1 (.slice (some ⟨g, 0, none⟩) n cap) n (l.map byteV)) (j : Nat) (b : UInt8) :
    (w.setCell ⟨g, j, none⟩ (byteV b)).ownsRow base 5 1 (.slice (some ⟨g, 0, none⟩) n cap) n ((l.set j b).map byteV) := by
  have := (h.stored j (byteV b)).1
  rwa [← List.map_set] at this
theorem own_cell {w : World} {base g n cap : Nat} {l : List UInt8} (h : w.ownsRow base 5 1 (.slice (some ⟨g, 0, none⟩) n cap) n (l.map byteV)) (j : Nat) (hj : j < n) :
    ∃ b, l[j]? = some b ∧ w.cell? ⟨g, j, none⟩ = some (byteV b) := by
  have h1 := h.cellAt j (by omega)
  have hl : l.length = n := by simpa using h.1
  refine ⟨l[j]'(by omega), List.getElem?_eq_getElem (by omega), ?_⟩
  rw [h1, List.getElem?_map, List.getElem?_eq_getElem (by omega)]
  rfl

/-- append(out, b..): literal bytes behind a row of the call's own. -/
theorem wp_append_bytesK {w : World} {o : Oper} {a : Act} {K : Act → World → Prop} {Q : Exit → Act → World → Prop} (s x : Operand)
    (ho : o.op = .call { callee := .builtin .append, args := #[s, x], argTypes := #[32, 32] })
    (base : Nat) (v : Value) (n : Nat) (l : List UInt8) (hs : a.eval s = v) (hown : w.ownsRow base 5 1 v n (l.map byteV)) (g : Nat) (cs : Array Value) (hg : w.heap[g]? = some (.cells cs 5 (0, 0))) (news : List UInt8) (hcs : cs.toList = news.map byteV)
    (m c : Nat) (hm : m = news.length) (hx : a.eval x = .slice (some ⟨g, 0, none⟩) m c)
    (hn : n + m ≤ 1099511627776) (hbase : base ≤ w.heap.size)
    (h : ∀ v' w', w'.ownsRow base 5 1 v' (n + m) ((l ++ news).map byteV) → Below base w w' → K (a.put o.dst v') w') :
    o.wp Try.prog a w K Q := by
  obtain ⟨i0, hi, hz0, hz1, hz2⟩ := info_parts info_u8
  refine wp_append_own _ s x 32 ho base 5 i0 (.int .u8 0) 1 1 Try.underlying32 hi hz0 hz1 hz2 rfl (by decide) v n (l.map byteV) hs hown ⟨g, 0, none⟩ m c (news.map byteV) hx (by simp [hm]) ?_ (byteV_one _) ?_ (by omega) hbase ?_
  · intro j u hu
    rw [← hcs] at hu
    rw [Addr.add_lit, Nat.zero_add, cell_of_row _ _ _ _ _ _ hg, ← Array.getElem?_toList]
    exact hu
  · unfold maxLen; omega
  · intro v' w' hown' hgr _
    have hlt := hown.lt
    exact h v' w' (by simpa using hown') ((Below.refl base w).grown hgr hbase fun k hk => (hlt k hk).1)

theorem wp_append_bytes {w : World} {ops : Array Oper} {rest : List Oper} {o : Oper} {a : Act} {Q : Exit → Act → World → Prop} (hgd : o.guard = none) (s x : Operand)
    (ho : o.op = .call { callee := .builtin .append, args := #[s, x], argTypes := #[32, 32] })
    (base : Nat) (v : Value) (n : Nat) (l : List UInt8) (hs : a.eval s = v) (hown : w.ownsRow base 5 1 v n (l.map byteV)) (cs : Array Value) (news : List UInt8) (hcs : cs.toList = news.map byteV)
    (m c : Nat) (hm : m = news.length) (hx : a.eval x = .slice (some ⟨w.heap.size, 0, none⟩) m c)
    (hn : n + m ≤ 1099511627776) (hbase : base ≤ w.heap.size)
    (h : ∀ v' w', w'.ownsRow base 5 1 v' (n + m) ((l ++ news).map byteV) → Below base w w' → wpList Try.prog ops Q rest (a.put o.dst v') w') :
    wpList Try.prog ops Q (o :: rest) a (w.alloc (.cells cs 5)) :=
  wpList_plain hgd fun _ hK => wp_append_bytesK s x ho base v n l hs (hown.alloc _) w.heap.size cs (heap_alloc_new w _) news hcs m c hm hx hn (by simp; omega)
    fun v' w' h1 h2 => hK _ _ (h v' w' h1 (((Below.refl base w).alloc hbase _).trans h2))

/-- The same inside a region that draws its order. -/
theorem step_append_bytes {w : World} {ops : Array Oper} {o : Oper} {a : Act} {K : Act → World → Prop} {Q : Exit → Act → World → Prop} {E : Prop} (hgd : o.guard = none) (s x : Operand)
    (ho : o.op = .call { callee := .builtin .append, args := #[s, x], argTypes := #[32, 32] })
    (base : Nat) (v : Value) (n : Nat) (l : List UInt8) (hs : a.eval s = v) (hown : w.ownsRow base 5 1 v n (l.map byteV)) (cs : Array Value) (news : List UInt8) (hcs : cs.toList = news.map byteV)
    (m c : Nat) (hm : m = news.length) (hx : a.eval x = .slice (some ⟨w.heap.size, 0, none⟩) m c)
    (hn : n + m ≤ 1099511627776) (hbase : base ≤ w.heap.size)
    (h : ∀ v' w', w'.ownsRow base 5 1 v' (n + m) ((l ++ news).map byteV) → Below base w w' → K (a.put o.dst v') w') :
    if Region.wanted o (yielded ops a.tmps) = true then Oper.wp Try.prog o a (w.alloc (.cells cs 5)).drew K Q else E := by
  rw [if_pos (by simp [Region.wanted, hgd])]
  exact wp_append_bytesK s x ho base v n l hs (hown.alloc _).drew w.heap.size cs (heap_alloc_new w _) news hcs m c hm hx hn (by simp; omega)
    fun v' w' h1 h2 => h v' w' h1 ((((Below.refl base w).alloc hbase _).drew).trans h2)
end Go.Proofs.Ytbajnecahojcfaa
