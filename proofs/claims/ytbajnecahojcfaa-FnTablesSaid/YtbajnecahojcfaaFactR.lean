/- Relations known inside regions that draw. -/
import Derived.Test.YtbajnecahojcfaaRelL
namespace Go.Proofs.Ytbajnecahojcfaa
open Go.RowKit Go.Sort
set_option maxHeartbeats 400000
theorem ownM_mono {w : World} {B B' : Nat} {v : Value} {m : List (List Int)} (h : OwnM w B v m) (hB : B' ≤ B) : OwnM w B' v m := SegM.wide h hB (Nat.le_refl _)
theorem own_mono {w : World} {B B' : Nat} {e : TypeId} {v : Value} {n : Nat} {xs : List Value} (h : w.ownsRow B e 1 v n xs) (hB : B' ≤ B) : w.ownsRow B' e 1 v n xs := ownsRow_mono h hB
theorem segM_store {w w' : World} {lo hi g : Nat} {T : TypeId} {v : Value} {m : List (List Int)} {cs : Array Value} {fr : Nat × Nat} (h : SegM w lo hi v m) (y : w.heap[g]? = some (.cells cs T fr)) (hT : 22 ≠ T ∧ 3 ≠ T) (hw : Within g (g + 1) w w') : SegM w' lo hi v m := SegM.store h y hT.1 hT.2 hw
def Fact.rel (B : Nat) (ar : Int) (m : List (List Int)) : Fact :=
  ⟨fun v w => ∃ A c, v = .agg #[.int .i64 ar, .slice A m.length c] ∧ OwnM w B (.slice A m.length c) m, fun _ _ _ ⟨A, c, h1, h2⟩ hb => ⟨A, c, h1, OwnM.below h2 hb⟩⟩
def Fact.relT (B : Nat) (ar : Int) (m : List (List Int)) (t : Bool) : Fact :=
  ⟨fun v w => ∃ A c, v = .tuple #[.agg #[.int .i64 ar, .slice A m.length c], .bool t] ∧ OwnM w B (.slice A m.length c) m, fun _ _ _ ⟨A, c, h1, h2⟩ hb => ⟨A, c, h1, OwnM.below h2 hb⟩⟩
def Fact.mat (B : Nat) (m : List (List Int)) : Fact :=
  ⟨fun v w => ∃ A c, v = .slice A m.length c ∧ OwnM w B (.slice A m.length c) m, fun _ _ _ ⟨A, c, h1, h2⟩ hb => ⟨A, c, h1, OwnM.below h2 hb⟩⟩
def Fact.ints (B : Nat) (l : List Int) : Fact :=
  ⟨fun v w => ∃ A c, v = .slice A l.length c ∧ OwnI w B (.slice A l.length c) l, fun _ _ _ ⟨A, c, h1, h2⟩ hb => ⟨A, c, h1, own_below h2 hb⟩⟩
end Go.Proofs.Ytbajnecahojcfaa
