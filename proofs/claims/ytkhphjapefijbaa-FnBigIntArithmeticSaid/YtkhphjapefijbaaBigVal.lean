/- Big integers: the values that the digits stand for. -/
import Derived.Test.YtkhphjapefijbaaPow
import Derived.Test.YtkhphjapefijbaaAdd
import Derived.Test.YtkhphjapefijbaaBigFmt
namespace Go.Proofs.Ytkhphjapefijbaa
open Go.RowKit Go.Sort
set_option maxHeartbeats 1000000

def val : List Int → Int
  | [] => 0
  | x :: r => x + 10 * val r
def trimR : List Int → List Int
  | [] => []
  | x :: r => if trimR r = [] then (if x = 0 then [] else [x]) else x :: trimR r
theorem trimN_cons (x : Int) (r : List Int) : ∀ n, trimN (x :: r) (n + 1) = if trimN r n = 0 then (if x = 0 then 0 else 1) else trimN r n + 1
  | 0 => by simp [trimN]
  | n + 1 => by
    rw [trimN, show (x :: r).getD (n + 1) 0 = r.getD n 0 from rfl, trimN_cons x r n, trimN]
    by_cases h : r.getD n 0 = 0
    · rw [if_pos h, if_pos h]
    · rw [if_neg h, if_neg h, if_neg (by omega)]
theorem trim_eq : ∀ l : List Int, l.take (trimN l l.length) = trimR l
  | [] => by simp [trimR]
  | x :: r => by
    have ih := trim_eq r
    have hle := trimN_le r r.length
    rw [List.length_cons, trimN_cons, trimR, ← ih]
    by_cases h : trimN r r.length = 0
    · rw [if_pos h, h, List.take_zero, if_pos rfl]
      by_cases hx : x = 0
      · rw [if_pos hx, if_pos hx]; rfl
      · rw [if_neg hx, if_neg hx]; rfl
    · rw [if_neg h, if_neg, List.take_succ_cons]
      intro e
      have := congrArg List.length e
      rw [List.length_take] at this
      simp at this
      rcases this with h1 | h1
      · exact h h1
      · subst h1; simp at hle; exact h hle
theorem digL_nil {n : Int} (h : digL n = []) : n ≤ 0 := by
  by_cases hn : 0 < n
  · rw [digL_pos hn] at h; simp at h
  · omega
theorem val_nonneg : ∀ l : List Int, (∀ x ∈ l, 0 ≤ x) → 0 ≤ val l
  | [], _ => by simp [val]
  | x :: r, h => by
    have h1 := h x (by simp)
    have h2 := val_nonneg r (fun y hy => h y (by simp [hy]))
    simp only [val]; omega
theorem trimR_digL : ∀ (k : Nat) (n : Int), n.toNat ≤ k → trimR (digL n) = digL n
  | 0, n, h => by rw [digL_zero (by omega)]; rfl
  | k + 1, n, h => by
    by_cases hn : 0 < n
    · have ih := trimR_digL k (n / 10) (by omega)
      rw [digL_pos hn, trimR, ih]
      by_cases he : digL (n / 10) = []
      · have := digL_nil he
        rw [if_pos he, if_neg (by omega), he]
      · rw [if_neg he]
    · rw [digL_zero (by omega)]; rfl
theorem trim_carry : ∀ (l : List Int) (c : Int), 0 ≤ c → (∀ x ∈ l, 0 ≤ x) → trimR (carryF c l) = digL (c + val l)
  | [], c, hc, _ => by rw [carryF, trimR_digL _ _ (Nat.le_refl _), val, Int.add_zero]
  | x :: r, c, hc, hl => by
    have hx := hl x (by simp)
    have hr : ∀ y ∈ r, 0 ≤ y := fun y hy => hl y (by simp [hy])
    have ih := trim_carry r ((c + x) / 10) (by omega) hr
    have hv := val_nonneg r hr
    rw [carryF, trimR, ih, val]
    generalize val r = V at *
    by_cases hN : 0 < c + (x + 10 * V)
    · rw [digL_pos hN, show (c + (x + 10 * V)) % 10 = (c + x) % 10 by omega, show (c + (x + 10 * V)) / 10 = (c + x) / 10 + V by omega]
      by_cases he : digL ((c + x) / 10 + V) = []
      · have := digL_nil he
        rw [if_pos he, if_neg (by omega), he]
      · rw [if_neg he]
    · rw [digL_zero (n := c + (x + 10 * V)) (by omega), digL_zero (n := (c + x) / 10 + V) (by omega), if_pos rfl, if_pos (by omega)]
theorem carR_val {l : List Int} (h : ∀ x ∈ l, 0 ≤ x) : carR l = digL (val l) := by
  unfold carR
  rw [trim_eq, trim_carry l 0 (by omega) h, Int.zero_add]
theorem val_digL : ∀ (k : Nat) (n : Int), n.toNat ≤ k → 0 ≤ n → val (digL n) = n
  | 0, n, h, h0 => by rw [digL_zero (by omega)]; simp [val]; omega
  | k + 1, n, h, h0 => by
    by_cases hn : 0 < n
    · rw [digL_pos hn, val, val_digL k (n / 10) (by omega) (by omega)]; omega
    · rw [digL_zero (by omega)]; simp [val]; omega
theorem val_dig {n : Int} (h : 0 ≤ n) : val (digL n) = n := val_digL _ n (Nat.le_refl _) h
theorem trimR_val : ∀ l : List Int, (∀ d ∈ l, 0 ≤ d ∧ d ≤ 9) → trimR l = digL (val l)
  | [], _ => by rw [digL_zero (by simp [val])]; rfl
  | x :: r, h => by
    have hx := h x (by simp)
    have hr : ∀ y ∈ r, 0 ≤ y ∧ y ≤ 9 := fun y hy => h y (by simp [hy])
    have hv := val_nonneg r (fun y hy => (hr y hy).1)
    rw [trimR, trimR_val r hr, val]
    generalize val r = V at *
    by_cases hN : 0 < x + 10 * V
    · rw [digL_pos hN, show (x + 10 * V) % 10 = x by omega, show (x + 10 * V) / 10 = V by omega]
      by_cases he : digL V = []
      · have := digL_nil he
        rw [if_pos he, if_neg (by omega), he]
      · rw [if_neg he]
    · rw [digL_zero (n := x + 10 * V) (by omega), digL_zero (n := V) (by omega), if_pos rfl, if_pos (by omega)]
theorem trimR_id : ∀ l : List Int, l.getLast? ≠ some 0 → trimR l = l
  | [], _ => rfl
  | [x], h => by
    have : x ≠ 0 := by rintro rfl; exact h rfl
    simp [trimR, this]
  | x :: y :: r, h => by
    have := trimR_id (y :: r) (by simpa [List.getLast?_cons_cons] using h)
    rw [trimR, this]
    simp
theorem bvalid_val {l : List Int} (h : bvalid l = true) : l = digL (val l) := by
  obtain ⟨h1, -, h3⟩ := bvalid_yes h
  rw [← trimR_val l h1, trimR_id l h3]
theorem digL_bd : ∀ (k : Nat) (n : Int), n.toNat ≤ k → ∀ d ∈ digL n, 0 ≤ d ∧ d ≤ 9
  | 0, n, h => by rw [digL_zero (by omega)]; simp
  | k + 1, n, h => by
    by_cases hn : 0 < n
    · rw [digL_pos hn]
      intro d hd
      rcases List.mem_cons.1 hd with rfl | hd
      · omega
      · exact digL_bd k (n / 10) (by omega) d hd
    · rw [digL_zero (by omega)]; simp
theorem trim_last : ∀ l : List Int, trimR l = l → l.getLast? ≠ some 0
  | [], _ => by simp
  | [x], h => by
    intro e
    have : x = 0 := by simpa using e
    subst this
    simp [trimR] at h
  | x :: y :: r, h => by
    rw [List.getLast?_cons_cons]
    refine trim_last (y :: r) ?_
    rw [trimR] at h
    split at h
    · split at h <;> simp at h
    · simpa using h
theorem bvalid_digL {n : Int} (h : (digL n).length ≤ 60) : bvalid (digL n) = true := by
  have h1 := digL_bd _ n (Nat.le_refl _)
  have h3 := trim_last _ (trimR_digL _ n (Nat.le_refl _))
  unfold bvalid
  simp only [Bool.and_eq_true, decide_eq_true_eq, List.all_eq_true, bne_iff_ne]
  exact ⟨⟨fun d hd => inR_iff.2 (h1 d hd), h⟩, h3⟩
theorem val_bv {l : List Int} (h : bvalid l = true) : 0 ≤ val l := val_nonneg l fun x hx => ((bvalid_yes h).1 x hx).1
-- order
theorem cmpTop_cons (x y : Int) (a b : List Int) : ∀ k, cmpTop (x :: a) (y :: b) (k + 1) = if cmpTop a b k = 0 then cmpI x y else cmpTop a b k
  | 0 => by
    simp only [cmpTop, if_true]
    show (if x = y then 0 else cmpI x y) = cmpI x y
    unfold cmpI; split <;> simp_all
  | k + 1 => by
    rw [cmpTop, show (x :: a).getD (k + 1) 0 = a.getD k 0 from rfl, show (y :: b).getD (k + 1) 0 = b.getD k 0 from rfl, cmpTop_cons x y a b k, cmpTop]
    generalize a.getD k 0 = p
    generalize b.getD k 0 = q
    by_cases h : p = q
    · rw [if_pos h, if_pos h]
    · rw [if_neg h, if_neg h, if_neg]
      unfold cmpI
      split
      · omega
      · split <;> omega
theorem cmpI_step {x y A B : Int} (hx : 0 ≤ x ∧ x ≤ 9) (hy : 0 ≤ y ∧ y ≤ 9) : cmpI (x + 10 * A) (y + 10 * B) = if cmpI A B = 0 then cmpI x y else cmpI A B := by
  unfold cmpI
  repeat' split
  all_goals omega
theorem cmpTop_val : ∀ a b : List Int, a.length = b.length → (∀ d ∈ a, 0 ≤ d ∧ d ≤ 9) → (∀ d ∈ b, 0 ≤ d ∧ d ≤ 9) → cmpTop a b a.length = cmpI (val a) (val b)
  | [], [], _, _, _ => by simp [cmpTop, val, cmpI]
  | [], _ :: _, h, _, _ => by simp at h
  | _ :: _, [], h, _, _ => by simp at h
  | x :: a, y :: b, h, ha, hb => by
    rw [List.length_cons, cmpTop_cons, cmpTop_val a b (by simpa using h) (fun d hd => ha d (by simp [hd])) (fun d hd => hb d (by simp [hd])), val, val, cmpI_step (ha x (by simp)) (hb y (by simp))]
theorem digL_mono : ∀ (k : Nat) (m n : Int), n.toNat ≤ k → m ≤ n → (digL m).length ≤ (digL n).length
  | 0, m, n, h, hm => by rw [digL_zero (n := m) (by omega)]; simp
  | k + 1, m, n, h, hm => by
    by_cases h0 : 0 < m
    · rw [digL_pos h0, digL_pos (n := n) (by omega), List.length_cons, List.length_cons]
      have := digL_mono k (m / 10) (n / 10) (by omega) (by omega)
      omega
    · rw [digL_zero (n := m) (by omega)]; simp
theorem cmpB_dig {X Y : Int} (hX : 0 ≤ X) (hY : 0 ≤ Y) (h1 : (digL X).length ≤ 60) (h2 : (digL Y).length ≤ 60) : cmpB (digL X) (digL Y) = cmpI X Y := by
  unfold cmpB
  rw [bvalid_digL h1, bvalid_digL h2]
  by_cases h : (digL X).length = (digL Y).length
  · rw [if_pos h, cmpTop_val _ _ h (digL_bd _ X (Nat.le_refl _)) (digL_bd _ Y (Nat.le_refl _)), val_dig hX, val_dig hY]; rfl
  · rw [if_neg h]
    have m1 : X ≤ Y → (digL X).length ≤ (digL Y).length := digL_mono _ X Y (Nat.le_refl _)
    have m2 : Y ≤ X → (digL Y).length ≤ (digL X).length := digL_mono _ Y X (Nat.le_refl _)
    have hXY : X ≠ Y := by rintro rfl; exact h rfl
    show cmpI _ _ = _
    unfold cmpI
    generalize (digL X).length = p at *
    generalize (digL Y).length = q at *
    rcases Int.lt_or_le X Y with hh | hh
    · have := m1 (by omega)
      repeat' split
      all_goals omega
    · have := m2 hh
      repeat' split
      all_goals omega
theorem cmpB_self (l : List Int) : cmpB l l = 0 := by
  by_cases h : bvalid l = true
  · have e := bvalid_val h
    rw [e, cmpB_dig (val_bv h) (val_bv h) (by rw [← e]; exact (bvalid_yes h).2.1) (by rw [← e]; exact (bvalid_yes h).2.1)]
    simp [cmpI]
  · unfold cmpB; simp [h]
-- sums and products
theorem fl_succ (N : Nat) (f : Nat → Int) : fl (N + 1) f = f 0 :: fl N (fun i => f (i + 1)) := by
  apply List.ext_getElem
  · simp [fl]
  · intro i h1 h2
    rw [fl_get]
    cases i with
    | zero => rfl
    | succ i => rw [List.getElem_cons_succ, fl_get]
theorem val_fl_add : ∀ (N : Nat) (f g : Nat → Int), val (fl N (fun i => f i + g i)) = val (fl N f) + val (fl N g)
  | 0, f, g => by simp [fl, val]
  | N + 1, f, g => by
    rw [fl_succ, fl_succ, fl_succ, val, val, val, val_fl_add N (fun i => f (i + 1)) (fun i => g (i + 1))]; omega
theorem val_fl_zero : ∀ N : Nat, val (fl N (fun _ => 0)) = 0
  | 0 => by simp [fl, val]
  | N + 1 => by rw [fl_succ, val, val_fl_zero N]; omega
theorem val_fl_mul : ∀ (N : Nat) (x : Int) (f : Nat → Int), val (fl N (fun i => x * f i)) = x * val (fl N f)
  | 0, x, f => by simp [fl, val]
  | N + 1, x, f => by
    rw [fl_succ, fl_succ, val, val, val_fl_mul N x (fun i => f (i + 1)), Int.mul_add, ← Int.mul_assoc, ← Int.mul_assoc, Int.mul_comm 10 x]
theorem val_pad : ∀ (a : List Int) (N : Nat), a.length ≤ N → val (fl N (fun i => a.getD i 0)) = val a
  | [], N, _ => by
    rw [show fl N (fun i => ([] : List Int).getD i 0) = fl N (fun _ => 0) from fl_congr fun i _ => by simp]
    rw [val_fl_zero]; rfl
  | x :: a, 0, h => by simp at h
  | x :: a, N + 1, h => by
    rw [fl_succ, val, val]
    have := val_pad a N (by simpa using h)
    show x + 10 * val (fl N fun i => a.getD i 0) = _
    rw [this]
theorem val_addL (a b : List Int) : val (addL a b) = val a + val b := by
  unfold addL
  rw [val_fl_add _ (fun i => a.getD i 0) (fun i => b.getD i 0), val_pad a _ (by omega), val_pad b _ (by omega)]
def shf (x : Int) (b : List Int) (i p : Nat) : Int := if i ≤ p then x * b.getD (p - i) 0 else 0
theorem val_shf (x : Int) (b : List Int) : ∀ (i N : Nat), i + b.length ≤ N → val (fl N (shf x b i)) = x * 10 ^ i * val b
  | 0, N, h => by
    rw [show fl N (shf x b 0) = fl N (fun p => x * b.getD p 0) from fl_congr fun p _ => by unfold shf; rw [if_pos (by omega), Nat.sub_zero]]
    rw [val_fl_mul, val_pad b N (by omega), Int.pow_zero, Int.mul_one]
  | i + 1, 0, h => by omega
  | i + 1, N + 1, h => by
    rw [fl_succ, val]
    rw [show fl N (fun p => shf x b (i + 1) (p + 1)) = fl N (shf x b i) from fl_congr fun p _ => by
      unfold shf
      by_cases hp : i ≤ p
      · rw [if_pos hp, if_pos (by omega), show p + 1 - (i + 1) = p - i by omega]
      · rw [if_neg hp, if_neg (by omega)]]
    rw [val_shf x b i N (by omega)]
    unfold shf
    rw [if_neg (by omega), Int.zero_add, Int.pow_succ, ← Int.mul_assoc, ← Int.mul_assoc, Int.mul_comm 10 x, Int.mul_assoc x 10, Int.mul_comm 10, ← Int.mul_assoc]
theorem mrow_shf (a b : List Int) (i p : Nat) : mrow a b i b.length p = shf (a.getD i 0) b i p := by
  unfold mrow shf
  by_cases h : i ≤ p
  · by_cases h2 : p < i + b.length
    · rw [if_pos ⟨h, h2⟩, if_pos h]
    · rw [if_neg (by omega), if_pos h, getD_out (l := b) (by omega), Int.mul_zero]
  · rw [if_neg (by omega), if_neg h]
theorem val_take : ∀ (a : List Int) (i : Nat), i < a.length → val (a.take (i + 1)) = val (a.take i) + a.getD i 0 * 10 ^ i
  | [], i, h => by simp at h
  | x :: a, 0, h => by simp [val]
  | x :: a, i + 1, h => by
    have := val_take a i (by simpa using h)
    rw [List.take_succ_cons, List.take_succ_cons, val, val, this, show (x :: a).getD (i + 1) 0 = a.getD i 0 from rfl, Int.mul_add, Int.pow_succ]
    rw [show 10 * (a.getD i 0 * 10 ^ i) = a.getD i 0 * (10 ^ i * 10) by rw [Int.mul_comm 10, Int.mul_assoc]]
    omega
theorem val_macc (a b : List Int) : ∀ (i N : Nat), i ≤ a.length → a.length + b.length ≤ N → val (fl N (macc a b i)) = val (a.take i) * val b
  | 0, N, _, _ => by
    rw [show fl N (macc a b 0) = fl N (fun _ => 0) from rfl, val_fl_zero, List.take_zero, val, Int.zero_mul]
  | i + 1, N, h, hN => by
    rw [show fl N (macc a b (i + 1)) = fl N (fun p => macc a b i p + shf (a.getD i 0) b i p) from fl_congr fun p _ => by rw [← mrow_shf]; rfl]
    rw [val_fl_add, val_macc a b i N (by omega) hN, val_shf _ _ _ _ (by omega), val_take a i (by omega), Int.add_mul]
theorem val_mulL (a b : List Int) : val (mulL a b) = val a * val b := by
  unfold mulL
  rw [val_macc a b _ _ (Nat.le_refl _) (Nat.le_refl _), List.take_length]
theorem mulL_nn {a b : List Int} (ha : bvalid a = true) (hb : bvalid b = true) : ∀ x ∈ mulL a b, 0 ≤ x := fl_mem fun i _ => (macc_bd (bvalid_yes ha).1 (bvalid_yes hb).1 a.length i).1
theorem addL_nn {a b : List Int} (ha : bvalid a = true) (hb : bvalid b = true) : ∀ x ∈ addL a b, 0 ≤ x := fl_mem fun i _ => by have := getD_dig (bvalid_yes ha).1 i; have := getD_dig (bvalid_yes hb).1 i; omega
def okD (n : Int) : Bool := decide ((digL n).length ≤ 60)
def capD (n : Int) : List Int := if okD n then digL n else []
theorem carOk_val {l : List Int} (h : ∀ x ∈ l, 0 ≤ x) : carOk l = okD (val l) := by unfold carOk okD; rw [carR_val h]
theorem carV_val {l : List Int} (h : ∀ x ∈ l, 0 ≤ x) : carV l = capD (val l) := by unfold carV capD; rw [carOk_val h, carR_val h]
theorem mulOk_val {a b : List Int} (ha : bvalid a = true) (hb : bvalid b = true) : mulOk a b = okD (val a * val b) := by
  unfold mulOk; rw [ha, hb, carOk_val (mulL_nn ha hb), val_mulL]; rfl
theorem mulB_val {a b : List Int} (ha : bvalid a = true) (hb : bvalid b = true) : mulB a b = capD (val a * val b) := by
  unfold mulB; rw [ha, hb, carV_val (mulL_nn ha hb), val_mulL]; rfl
theorem addOk_val {a b : List Int} (ha : bvalid a = true) (hb : bvalid b = true) : addOk a b = okD (val a + val b) := by
  unfold addOk; rw [ha, hb, carOk_val (addL_nn ha hb), val_addL]; rfl
theorem addB_val {a b : List Int} (ha : bvalid a = true) (hb : bvalid b = true) : addB a b = capD (val a + val b) := by
  unfold addB; rw [ha, hb, carV_val (addL_nn ha hb), val_addL]; rfl
theorem mulOk_comm (a b : List Int) : mulOk a b = mulOk b a := by
  by_cases ha : bvalid a = true
  · by_cases hb : bvalid b = true
    · rw [mulOk_val ha hb, mulOk_val hb ha, Int.mul_comm]
    · unfold mulOk; simp [hb]
  · unfold mulOk; simp [ha]
theorem mulB_comm (a b : List Int) : mulB a b = mulB b a := by
  by_cases ha : bvalid a = true
  · by_cases hb : bvalid b = true
    · rw [mulB_val ha hb, mulB_val hb ha, Int.mul_comm]
    · unfold mulB; simp [hb]
  · unfold mulB; simp [ha]
theorem okD_int {n : Int} (h : n ≤ 9223372036854775807) : okD n = true := by unfold okD; rw [decide_eq_true_eq]; have := digL_len n h; omega
theorem capD_int {n : Int} (h : n ≤ 9223372036854775807) : capD n = digL n := by unfold capD; rw [okD_int h]; rfl
theorem bvalid_int {n : Int} (h : n ≤ 9223372036854775807) : bvalid (digL n) = true := bvalid_digL (by have := digL_len n h; omega)
theorem mul_int {m n : Int} (hm : 0 ≤ m) (hn : 0 ≤ n) (h1 : m ≤ 9223372036854775807) (h2 : n ≤ 9223372036854775807) (h : m * n ≤ 9223372036854775807) : mulB (digL m) (digL n) = digL (m * n) := by
  rw [mulB_val (bvalid_int h1) (bvalid_int h2), val_dig hm, val_dig hn, capD_int h]
theorem add_int {m n : Int} (hm : 0 ≤ m) (hn : 0 ≤ n) (h : m + n ≤ 9223372036854775807) : addB (digL m) (digL n) = digL (m + n) := by
  rw [addB_val (bvalid_int (by omega)) (bvalid_int (by omega)), val_dig hm, val_dig hn, capD_int h]
theorem cmp_int {m n : Int} (hm : 0 ≤ m) (hn : 0 ≤ n) (h1 : m ≤ 9223372036854775807) (h2 : n ≤ 9223372036854775807) : cmpB (digL m) (digL n) = cmpI m n := cmpB_dig hm hn (by have := digL_len m h1; omega) (by have := digL_len n h2; omega)
theorem cmpI_neg (m n : Int) : decide (cmpI m n < 0) = decide (m < n) := by
  unfold cmpI
  by_cases h : m < n
  · rw [if_pos h]; simp [h]
  · rw [if_neg h]; split <;> simp [h]
theorem add_ge {a b : List Int} (h : addOk a b = true) : 0 ≤ cmpB (addB a b) a := by
  have ha : bvalid a = true := by unfold addOk at h; simp at h; exact h.1.1
  have hb : bvalid b = true := by unfold addOk at h; simp at h; exact h.1.2
  rw [addOk_val ha hb] at h
  have va := val_bv ha
  have vb := val_bv hb
  rw [addB_val ha hb, capD, h, if_pos rfl]
  have e := bvalid_val ha
  have hl := (bvalid_yes ha).2.1
  rw [e] at hl
  have : cmpB (digL (val a + val b)) (digL (val a)) = cmpI (val a + val b) (val a) := cmpB_dig (by omega) va (by simpa [okD] using h) hl
  rw [← e] at this
  rw [this]
  unfold cmpI
  rw [if_neg (by omega)]
  split <;> omega
-- powers
theorem powN_val {n : Int} (hn : 0 ≤ n) (h1 : n ≤ 9223372036854775807) : ∀ j, powG n j = true → powN n j = digL (n ^ j) ∧ (digL (n ^ j)).length ≤ 60
  | 0, _ => ⟨by rw [powN, Int.pow_zero], by rw [Int.pow_zero]; have := digL_len 1 (by omega); omega⟩
  | j + 1, h => by
    rw [powG, Bool.and_eq_true] at h
    obtain ⟨e, hl⟩ := powN_val hn h1 j h.1
    have hv : bvalid (powN n j) = true := by rw [e]; exact bvalid_digL hl
    have hp : 0 ≤ n ^ j := Int.pow_nonneg hn
    have h2 := h.2
    rw [mulOk_val hv (bvalid_int h1), e, val_dig hp, val_dig hn, ← Int.pow_succ] at h2
    refine ⟨?_, by simpa [okD] using h2⟩
    rw [powN, mulB_val hv (bvalid_int h1), e, val_dig hp, val_dig hn, ← Int.pow_succ, capD, h2, if_pos rfl]
theorem powOk_iff {n k : Int} : powOk n k = true ↔ 0 ≤ n ∧ 0 ≤ k ∧ k ≤ 100 ∧ powG n k.toNat = true := by
  unfold powOk; simp [Bool.and_eq_true, decide_eq_true_eq, and_assoc]
theorem powB_yes {n k : Int} (h : powOk n k = true) : powB n k = powN n k.toNat := by unfold powB; rw [h, if_pos rfl]
theorem pow_next {n k : Int} (h : powOk n k = true) (hk : k ≤ 20) : powOk n (k + 1) = mulOk (powB n k) (digL n) := by
  have h1 := powOk_iff.1 h
  rw [powB_yes h]
  unfold powOk
  rw [show (k + 1).toNat = k.toNat + 1 by omega, powG, h1.2.2.2]
  simp; omega
theorem pow_nextB {n k : Int} (h : powOk n k = true) (hk : k ≤ 20) (h2 : powOk n (k + 1) = true) : powB n (k + 1) = mulB (powB n k) (digL n) := by
  have h1 := powOk_iff.1 h
  rw [powB_yes h2, powB_yes h, show (k + 1).toNat = k.toNat + 1 by omega, powN]
theorem pow_mono {n k : Int} (h : powOk n k = true) (h2 : powOk (n + 1) k = true) (hn : n ≤ 1000) : cmpB (powB n k) (powB (n + 1) k) ≤ 0 ∧ (decide (k = 0) = decide (cmpB (powB n k) (powB (n + 1) k) = 0)) := by
  have a := powOk_iff.1 h
  have b := powOk_iff.1 h2
  obtain ⟨e1, l1⟩ := powN_val a.1 (by omega) _ a.2.2.2
  obtain ⟨e2, l2⟩ := powN_val b.1 (by omega) _ b.2.2.2
  rw [powB_yes h, powB_yes h2, e1, e2, cmpB_dig (Int.pow_nonneg a.1) (Int.pow_nonneg b.1) l1 l2]
  obtain ⟨K, rfl⟩ : ∃ K : Nat, k = (K : Int) := ⟨k.toNat, by omega⟩
  obtain ⟨N, rfl⟩ : ∃ N : Nat, n = (N : Int) := ⟨n.toNat, by omega⟩
  rw [show ((K : Int)).toNat = K by omega]
  by_cases hK : K = 0
  · subst hK; simp [cmpI]
  · have hlt : (N : Int) ^ K < ((N : Int) + 1) ^ K := by
      have := Nat.pow_lt_pow_left (Nat.lt_succ_self N) hK
      have h3 : ((N ^ K : Nat) : Int) < (((N + 1) ^ K : Nat) : Int) := by exact_mod_cast this
      simpa using h3
    unfold cmpI
    rw [if_pos hlt]
    refine ⟨by omega, ?_⟩
    simp; omega
end Go.Proofs.Ytkhphjapefijbaa
