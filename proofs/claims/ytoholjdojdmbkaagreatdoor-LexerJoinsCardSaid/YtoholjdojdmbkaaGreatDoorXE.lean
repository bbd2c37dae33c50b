/- Parts of one proof, joined: I1, I2, I3, I4, I5, I7, I9. No condition of its own. -/
import Derived.Test.YtoholjdojdmbkaaGreatDoorXA
namespace Go.Proofs.YtoholjdojdmbkaaGreatDoor
def Bs : Nat := 4294967296
/-- the value of digits, the lowest one first -/
def valL : List Nat → Nat
  | [] => 0
  | d :: m => d + Bs * valL m
def LimL (m : List Nat) : Prop := ∀ d ∈ m, d < Bs
theorem valL_append : ∀ (a b : List Nat), valL (a ++ b) = valL a + Bs ^ a.length * valL b
  | [], b => by simp [valL]
  | d :: a, b => by
    show d + Bs * valL (a ++ b) = d + Bs * valL a + Bs ^ (a.length + 1) * valL b
    rw [valL_append a b, Nat.mul_add, Nat.pow_succ, Nat.mul_comm (Bs ^ a.length) Bs, Nat.mul_assoc]
    omega
theorem valL_lt : ∀ {m : List Nat}, LimL m → valL m < Bs ^ m.length
  | [], _ => by simp [valL]
  | d :: m, h => by
    have ih := valL_lt (m := m) fun x hx => h x (List.mem_cons_of_mem _ hx)
    have hd := h d (by simp)
    show d + Bs * valL m < Bs ^ (m.length + 1)
    rw [Nat.pow_succ, Nat.mul_comm (Bs ^ m.length) Bs]
    have : Bs * (valL m + 1) ≤ Bs * Bs ^ m.length := Nat.mul_le_mul_left _ ih
    rw [Nat.mul_add] at this
    omega
/-- the estimate of the quotient digit from the two greatest digits of the divisor is the digit or one more -/
theorem knuth {U V U3 V2 P q u' v' : Nat} (hU : U = U3 * P + u') (hu : u' < P) (hV : V = V2 * P + v') (hv : v' < P) (hq : q * V2 ≤ U3) (hqB : q < Bs) (hmax : ∀ x, x < Bs → x * V2 ≤ U3 → x ≤ q) (hlt : U < Bs * V) (hV1 : Bs * P ≤ V) :
    q * V < U + V ∧ U < (q + 1) * V := by
  have hP : 0 < P := by omega
  have hPV : 0 < V := Nat.lt_of_lt_of_le (Nat.mul_pos (by decide) hP) hV1
  refine ⟨?_, ?_⟩
  · rcases Nat.eq_zero_or_pos q with h0 | h0
    · subst h0; omega
    · have e1 : q * V = q * V2 * P + q * v' := by rw [hV, Nat.mul_add, Nat.mul_assoc]
      have e2 : q * V2 * P ≤ U3 * P := Nat.mul_le_mul_right _ hq
      have e3 : q * v' < q * P := Nat.mul_lt_mul_of_pos_left hv h0
      have e4 : q * P ≤ Bs * P := Nat.mul_le_mul_right _ (by omega)
      omega
  · refine Classical.byContradiction fun hn => ?_
    have hn : (q + 1) * V ≤ U := by omega
    by_cases hc : q + 1 < Bs
    · have e1 : (q + 1) * V2 * P ≤ (q + 1) * V := by
        rw [hV, Nat.mul_add, Nat.mul_assoc]; omega
      have e2 : (q + 1) * V2 * P < (U3 + 1) * P := by
        rw [Nat.add_mul U3 1 P, Nat.one_mul]; omega
      have e3 : (q + 1) * V2 < U3 + 1 := Nat.lt_of_mul_lt_mul_right e2
      have := hmax (q + 1) hc (by omega)
      omega
    · have e : q + 1 = Bs := by omega
      rw [e] at hn
      omega
/-- one row of the multiplication and subtraction: digits, carry, borrow -/
def msub (q : Nat) : List Nat → List Nat → Nat → Nat → List Nat × Nat × Nat
  | u :: us, v :: vs, c, b =>
    let x := (c + q * v) % Bs
    let r := msub q us vs ((c + q * v) / Bs) (if u < b + x then 1 else 0)
    ((u + 2 * Bs - b - x) % Bs :: r.1, r.2)
  | us, [], c, b => (us, c, b)
  | [], _ :: _, c, b => ([], c, b)
theorem msub_val {q : Nat} (hq : q < Bs) : ∀ (us vs : List Nat) (c b : Nat), us.length = vs.length → LimL us → LimL vs → c < Bs → b ≤ 1 →
    valL (msub q us vs c b).1 + q * valL vs + c + b = valL us + Bs ^ us.length * ((msub q us vs c b).2.1 + (msub q us vs c b).2.2) ∧ (msub q us vs c b).1.length = us.length ∧ LimL (msub q us vs c b).1 ∧ (msub q us vs c b).2.1 < Bs ∧ (msub q us vs c b).2.2 ≤ 1
  | [], [], c, b, _, _, _, hc, hb => by
    refine ⟨?_, rfl, nofun, hc, hb⟩
    show valL [] + q * valL [] + c + b = valL [] + Bs ^ 0 * (c + b)
    simp [valL]
  | u :: us, v :: vs, c, b, hl, hu, hv, hc, hb => by
    have h1 := hu u (by simp)
    have h2 := hv v (by simp)
    have hqv : q * v ≤ (Bs - 1) * (Bs - 1) := Nat.mul_le_mul (by omega) (by omega)
    have hc2 : (c + q * v) / Bs < Bs := by
      rw [Nat.div_lt_iff_lt_mul (by decide)]
      have : (Bs - 1) * (Bs - 1) + Bs ≤ Bs * Bs := by decide
      omega
    obtain ⟨g1, g2, g3, g4, g5⟩ := msub_val hq us vs ((c + q * v) / Bs) (if u < b + (c + q * v) % Bs then 1 else 0) (by simpa using hl) (fun x hx => hu x (List.mem_cons_of_mem _ hx)) (fun x hx => hv x (List.mem_cons_of_mem _ hx)) hc2 (by split <;> omega)
    obtain ⟨r, hr⟩ : ∃ r, r = msub q us vs ((c + q * v) / Bs) (if u < b + (c + q * v) % Bs then 1 else 0) := ⟨_, rfl⟩
    have e : msub q (u :: us) (v :: vs) c b = ((u + 2 * Bs - b - (c + q * v) % Bs) % Bs :: r.1, r.2) := by rw [hr]; rfl
    rw [← hr] at g1 g2 g3 g4 g5
    rw [e]
    dsimp only
    refine ⟨?_, by simp [g2], fun x hx => ?_, g4, g5⟩
    · show (u + 2 * Bs - b - (c + q * v) % Bs) % Bs + Bs * valL r.1 + q * (v + Bs * valL vs) + c + b = u + Bs * valL us + Bs ^ (us.length + 1) * (r.2.1 + r.2.2)
      have e0 : q * (v + Bs * valL vs) = q * v + Bs * (q * valL vs) := by
        rw [Nat.mul_add, Nat.mul_left_comm]
      have e1 : Bs ^ (us.length + 1) * (r.2.1 + r.2.2) = Bs * (Bs ^ us.length * (r.2.1 + r.2.2)) := by
        rw [Nat.pow_succ, Nat.mul_comm (Bs ^ us.length) Bs, Nat.mul_assoc]
      rw [e0, e1]
      generalize q * v = w at *
      generalize q * valL vs = y at *
      generalize Bs ^ us.length * (r.2.1 + r.2.2) = z at *
      generalize valL r.1 = m at *
      generalize valL us = n at *
      unfold Bs at *
      split at g1 <;> omega
    · rcases List.mem_cons.1 hx with rfl | hx
      · exact Nat.mod_lt _ (by decide)
      · exact g3 x hx
/-! ### the loop that finds the digit -/
structure QInv (u0 u1 u2 v1 v2 q r : Nat) : Prop where
  e : q * v1 + r = u0 * Bs + u1
  m : ∀ x, x < Bs → x * (v1 * Bs + v2) ≤ (u0 * Bs + u1) * Bs + u2 → x ≤ q
theorem qV2 {u0 u1 v1 v2 q r : Nat} (h : q * v1 + r = u0 * Bs + u1) : q * (v1 * Bs + v2) + r * Bs = (u0 * Bs + u1) * Bs + q * v2 := by
  rw [← h, Nat.add_mul, Nat.mul_add, Nat.mul_assoc]
  omega
theorem QInv.start {u0 u1 u2 v1 v2 : Nat} (hv : 0 < v1) (h2 : u2 < Bs) : QInv u0 u1 u2 v1 v2 ((u0 * Bs + u1) / v1) ((u0 * Bs + u1) % v1) := by
  refine ⟨by rw [Nat.mul_comm]; exact Nat.div_add_mod _ _, fun x _ h => ?_⟩
  rw [Nat.le_div_iff_mul_le hv]
  have e1 : x * v1 * Bs ≤ x * (v1 * Bs + v2) := by rw [Nat.mul_add, Nat.mul_assoc]; omega
  have e2 : x * v1 * Bs < (u0 * Bs + u1 + 1) * Bs := by
    rw [Nat.add_mul (u0 * Bs + u1) 1 Bs, Nat.one_mul]; omega
  have := Nat.lt_of_mul_lt_mul_right e2
  omega
theorem QInv.step {u0 u1 u2 v1 v2 q r : Nat} (h : QInv u0 u1 u2 v1 v2 q r) (hc : Bs ≤ q ∨ r * Bs + u2 < q * v2) : 0 < q ∧ QInv u0 u1 u2 v1 v2 (q - 1) (r + v1) := by
  have hq : 0 < q := by
    rcases Nat.eq_zero_or_pos q with h0 | h0
    · subst h0
      rcases hc with g | g
      · unfold Bs at g; omega
      · rw [Nat.zero_mul] at g; omega
    · exact h0
  refine ⟨hq, ?_, fun x hx hle => ?_⟩
  · have := h.e
    obtain ⟨k, rfl⟩ : ∃ k, q = k + 1 := ⟨q - 1, by omega⟩
    rw [Nat.add_mul, Nat.one_mul] at this
    rw [Nat.add_sub_cancel]
    omega
  · have h1 := h.m x hx hle
    have h2 : x ≠ q := fun e => by
      subst e
      rcases hc with g | g
      · omega
      · have := qV2 (v2 := v2) h.e
        omega
    omega
theorem QInv.done {u0 u1 u2 v1 v2 q r : Nat} (h : QInv u0 u1 u2 v1 v2 q r) (h1 : u1 < Bs) (hv2 : v2 < Bs) (hle : u0 ≤ v1) (hc : ¬ (r < Bs ∧ (Bs ≤ q ∨ r * Bs + u2 < q * v2))) : q < Bs ∧ q * (v1 * Bs + v2) ≤ (u0 * Bs + u1) * Bs + u2 := by
  have e := qV2 (v2 := v2) h.e
  have he := h.e
  by_cases hr : r < Bs
  · have h3 : ¬ Bs ≤ q := fun g => hc ⟨hr, .inl g⟩
    have h4 : ¬ r * Bs + u2 < q * v2 := fun g => hc ⟨hr, .inr g⟩
    exact ⟨by omega, by omega⟩
  · have hq : q < Bs := Classical.byContradiction fun g => by
      have g1 : Bs * v1 ≤ q * v1 := Nat.mul_le_mul_right _ (by omega)
      have g2 : u0 * Bs ≤ v1 * Bs := Nat.mul_le_mul_right _ hle
      rw [Nat.mul_comm Bs v1] at g1
      omega
    refine ⟨hq, ?_⟩
    have g1 : q * v2 ≤ Bs * Bs := Nat.mul_le_mul (by omega) (by omega)
    have g2 : Bs * Bs ≤ r * Bs := Nat.mul_le_mul_right _ (by omega)
    omega
/-! ### adding back -/
def madd : List Nat → List Nat → Nat → List Nat × Nat
  | u :: us, v :: vs, c => ((c + u + v) % Bs :: (madd us vs ((c + u + v) / Bs)).1, (madd us vs ((c + u + v) / Bs)).2)
  | us, [], c => (us, c)
  | [], _ :: _, c => ([], c)
theorem madd_val : ∀ (us vs : List Nat) (c : Nat), us.length = vs.length → LimL us → LimL vs → c ≤ 1 →
    valL (madd us vs c).1 + Bs ^ us.length * (madd us vs c).2 = valL us + valL vs + c ∧ (madd us vs c).1.length = us.length ∧ LimL (madd us vs c).1 ∧ (madd us vs c).2 ≤ 1
  | [], [], c, _, _, _, hc => by
    refine ⟨?_, rfl, nofun, hc⟩
    show valL [] + Bs ^ 0 * c = valL [] + valL [] + c
    simp [valL]
  | u :: us, v :: vs, c, hl, hu, hv, hc => by
    have h1 := hu u (by simp)
    have h2 := hv v (by simp)
    obtain ⟨g1, g2, g3, g4⟩ := madd_val us vs ((c + u + v) / Bs) (by simpa using hl) (fun x hx => hu x (List.mem_cons_of_mem _ hx)) (fun x hx => hv x (List.mem_cons_of_mem _ hx)) (by
      have : (c + u + v) / Bs < 2 := by rw [Nat.div_lt_iff_lt_mul (by decide)]; omega
      omega)
    obtain ⟨r, hr⟩ : ∃ r, r = madd us vs ((c + u + v) / Bs) := ⟨_, rfl⟩
    have e : madd (u :: us) (v :: vs) c = ((c + u + v) % Bs :: r.1, r.2) := by rw [hr]; rfl
    rw [← hr] at g1 g2 g3 g4
    rw [e]
    dsimp only
    refine ⟨?_, by simp [g2], fun x hx => ?_, g4⟩
    · show (c + u + v) % Bs + Bs * valL r.1 + Bs ^ (us.length + 1) * r.2 = u + Bs * valL us + (v + Bs * valL vs) + c
      have e1 : Bs ^ (us.length + 1) * r.2 = Bs * (Bs ^ us.length * r.2) := by
        rw [Nat.pow_succ, Nat.mul_comm (Bs ^ us.length) Bs, Nat.mul_assoc]
      rw [e1]
      generalize Bs ^ us.length * r.2 = z at *
      generalize valL r.1 = m at *
      generalize valL us = n at *
      generalize valL vs = k at *
      unfold Bs at *
      omega
    · rcases List.mem_cons.1 hx with rfl | hx
      · exact Nat.mod_lt _ (by decide)
      · exact g3 x hx
/-- what a step of the division leaves: the digit is the quotient, the digits are the rest -/
theorem digit_fit {q : Nat} {us vs : List Nat} {t : Nat} (hl : us.length = vs.length) (hu : LimL us) (hv : LimL vs) (hq : q < Bs) (h1 : q * valL vs < valL us + Bs ^ us.length * t + valL vs) (h2 : valL us + Bs ^ us.length * t < (q + 1) * valL vs) :
    let r := msub q us vs 0 0
    (r.2.1 + r.2.2 ≤ t → valL r.1 + Bs ^ us.length * (t - (r.2.1 + r.2.2)) + q * valL vs = valL us + Bs ^ us.length * t) ∧
    (t < r.2.1 + r.2.2 → 0 < q ∧ t + 1 = r.2.1 + r.2.2 ∧ (madd r.1 vs 0).2 = 1 ∧ valL (madd r.1 vs 0).1 + (q - 1) * valL vs = valL us + Bs ^ us.length * t) := by
  intro r
  obtain ⟨g1, g2, g3, g4, g5⟩ := msub_val hq us vs 0 0 hl hu hv (by decide) (by decide)
  have hr : r = msub q us vs 0 0 := rfl
  rw [← hr] at g1 g2 g3 g4 g5
  obtain ⟨a1, a2, a3, a4⟩ := madd_val r.1 vs 0 (by rw [g2, hl]) g3 hv (by decide)
  have hb := valL_lt g3
  have hvb := valL_lt hv
  rw [g2] at hb a1
  rw [← hl] at hvb
  rw [Nat.add_mul, Nat.one_mul] at h2
  refine ⟨fun h => ?_, fun h => ?_⟩
  · obtain ⟨k, hk⟩ : ∃ k, t = r.2.1 + r.2.2 + k := ⟨t - (r.2.1 + r.2.2), by omega⟩
    rw [hk, Nat.add_sub_cancel_left, Nat.mul_add]
    omega
  · obtain ⟨k, hk⟩ : ∃ k, r.2.1 + r.2.2 = t + (k + 1) := ⟨r.2.1 + r.2.2 - t - 1, by omega⟩
    rw [hk, Nat.mul_add, Nat.mul_add, Nat.mul_one] at g1
    have hk0 : k = 0 := by
      rcases Nat.eq_zero_or_pos k with e | e
      · exact e
      · have : Bs ^ us.length * 1 ≤ Bs ^ us.length * k := Nat.mul_le_mul_left _ e
        omega
    subst hk0
    rw [Nat.mul_zero] at g1
    have hq0 : 0 < q := by
      rcases Nat.eq_zero_or_pos q with e | e
      · subst e; rw [Nat.zero_mul] at g1; omega
      · exact e
    have hc : (madd r.1 vs 0).2 = 1 := by
      rcases (show (madd r.1 vs 0).2 = 0 ∨ (madd r.1 vs 0).2 = 1 by omega) with e | e
      · rw [e, Nat.mul_zero] at a1
        have := valL_lt a3
        rw [a2, g2] at this
        omega
      · exact e
    rw [hc, Nat.mul_one] at a1
    refine ⟨hq0, by omega, hc, ?_⟩
    obtain ⟨p, rfl⟩ : ∃ p, q = p + 1 := ⟨q - 1, by omega⟩
    rw [Nat.add_sub_cancel]
    rw [Nat.add_mul, Nat.one_mul] at g1
    omega
end Go.Proofs.YtoholjdojdmbkaaGreatDoor
namespace Go.Proofs.YtoholjdojdmbkaaGreatDoor
/-- no zero at the end -/
def Tr (m : List Nat) : Prop := ∀ k, 0 < m.length → k + 1 = m.length → m.getD k 0 ≠ 0
structure Can (m : List Nat) (n : Nat) : Prop where
  l : LimL m
  t : Tr m
  v : valL m = n
theorem Can.nil : Can [] 0 := ⟨nofun, (fun k h _ => by cases h), rfl⟩
theorem snoc_of {m : List Nat} (h : 0 < m.length) : ∃ a p, m = a ++ [p] ∧ a.length + 1 = m.length ∧ m.getD (m.length - 1) 0 = p := by
  refine ⟨m.take (m.length - 1), m[m.length - 1]'(by omega), ?_, by rw [List.length_take]; omega, ?_⟩
  · have := List.take_succ_eq_append_getElem (l := m) (i := m.length - 1) (by omega)
    rw [← this, show m.length - 1 + 1 = m.length by omega, List.take_length]
  · rw [List.getD_eq_getElem?_getD, List.getElem?_eq_getElem (by omega)]; rfl
theorem valL_snoc (a : List Nat) (p : Nat) : valL (a ++ [p]) = valL a + Bs ^ a.length * p := by
  rw [valL_append]; simp [valL]
theorem Can.ge {m : List Nat} {n : Nat} (h : Can m n) (h0 : 0 < m.length) : Bs ^ (m.length - 1) ≤ n := by
  obtain ⟨a, p, e, hl, hp⟩ := snoc_of h0
  have hp0 := h.t (m.length - 1) h0 (by omega)
  rw [hp] at hp0
  have hv := h.v
  rw [e, valL_snoc] at hv
  have : a.length = m.length - 1 := by omega
  rw [← this, ← hv]
  have : Bs ^ a.length * 1 ≤ Bs ^ a.length * p := Nat.mul_le_mul_left _ (by omega)
  omega
theorem Can.lt {m : List Nat} {n : Nat} (h : Can m n) : n < Bs ^ m.length := by rw [← h.v]; exact valL_lt h.l
theorem Can.zero {m : List Nat} {n : Nat} (h : Can m n) : n = 0 ↔ m = [] := by
  constructor
  · intro hn
    rcases Nat.eq_zero_or_pos m.length with g | g
    · exact List.eq_nil_of_length_eq_zero g
    · have := h.ge g
      have : 0 < Bs ^ (m.length - 1) := Nat.pow_pos (by decide)
      omega
  · intro hm
    have := h.v
    rw [hm] at this
    exact this.symm
theorem Can.shorter {a b : List Nat} {x y : Nat} (ha : Can a x) (hb : Can b y) (h : a.length < b.length) : x < y := by
  have h1 := ha.lt
  have h2 := hb.ge (by omega)
  exact Nat.lt_of_lt_of_le h1 (Nat.le_trans (Nat.pow_le_pow_right (by decide) (by omega)) h2)
/-- the first difference from the top decides -/
theorem top_lt {a b t : List Nat} {p q : Nat} (hl : a.length = b.length) (ha : LimL a) (h : p < q) : valL (a ++ p :: t) < valL (b ++ q :: t) := by
  rw [valL_append, valL_append, hl]
  have h1 := valL_lt ha
  rw [hl] at h1
  show valL a + Bs ^ b.length * (p + Bs * valL t) < valL b + Bs ^ b.length * (q + Bs * valL t)
  have : Bs ^ b.length * (p + 1 + Bs * valL t) ≤ Bs ^ b.length * (q + Bs * valL t) := Nat.mul_le_mul_left _ (by omega)
  have e : Bs ^ b.length * (p + 1 + Bs * valL t) = Bs ^ b.length * (p + Bs * valL t) + Bs ^ b.length := by
    rw [show p + 1 + Bs * valL t = (p + Bs * valL t) + 1 by omega, Nat.mul_add, Nat.mul_one]
  omega
theorem valL_inj : ∀ {a b : List Nat}, a.length = b.length → LimL a → LimL b → valL a = valL b → a = b
  | [], [], _, _, _, _ => rfl
  | x :: a, y :: b, hl, ha, hb, h => by
    have h1 := ha x (by simp)
    have h2 := hb y (by simp)
    have h : x + Bs * valL a = y + Bs * valL b := h
    have e1 : x = y := by
      have this : (x + Bs * valL a) % Bs = (y + Bs * valL b) % Bs := by rw [h]
      rw [Nat.add_mul_mod_self_left, Nat.add_mul_mod_self_left, Nat.mod_eq_of_lt h1, Nat.mod_eq_of_lt h2] at this
      exact this
    subst e1
    have e2 : valL a = valL b := Nat.eq_of_mul_eq_mul_left (show 0 < Bs by decide) (by omega)
    rw [valL_inj (by simpa using hl) (fun z hz => ha z (List.mem_cons_of_mem _ hz)) (fun z hz => hb z (List.mem_cons_of_mem _ hz)) e2]
theorem Can.uniq {a b : List Nat} {n : Nat} (ha : Can a n) (hb : Can b n) : a = b := by
  refine valL_inj ?_ ha.l hb.l (ha.v.trans hb.v.symm)
  rcases Nat.lt_trichotomy a.length b.length with h | h | h
  · have := ha.shorter hb h; omega
  · exact h
  · have := hb.shorter ha h; omega
/-- a zero at the end is dropped -/
theorem drop_zero {a : List Nat} (h : LimL (a ++ [0])) : LimL a ∧ valL (a ++ [0]) = valL a := by
  refine ⟨fun d hd => h d (by simp [hd]), ?_⟩
  rw [valL_snoc]; simp
theorem trim_done {m : List Nat} (h : LimL m) (ht : m.length = 0 ∨ m.getD (m.length - 1) 0 ≠ 0) : Can m (valL m) := by
  refine ⟨h, fun k h0 hk => ?_, rfl⟩
  rcases ht with g | g
  · omega
  · have : k = m.length - 1 := by omega
    rw [this]; exact g
/-! ### times a digit, plus another one; by a digit -/
def scaL (by' : Nat) : List Nat → Nat → List Nat × Nat
  | [], c => ([], c)
  | d :: m, c => ((c + d * by') % Bs :: (scaL by' m ((c + d * by') / Bs)).1, (scaL by' m ((c + d * by') / Bs)).2)
theorem scaL_val {by' : Nat} (hb : by' < Bs) : ∀ (m : List Nat) (c : Nat), LimL m → c < Bs → valL (scaL by' m c).1 + Bs ^ m.length * (scaL by' m c).2 = valL m * by' + c ∧ (scaL by' m c).1.length = m.length ∧ LimL (scaL by' m c).1 ∧ (scaL by' m c).2 < Bs
  | [], c, _, hc => by
    refine ⟨?_, rfl, nofun, hc⟩
    show valL [] + Bs ^ 0 * c = valL [] * by' + c
    simp [valL]
  | d :: m, c, hm, hc => by
    have h1 := hm d (by simp)
    have hdb : d * by' ≤ (Bs - 1) * (Bs - 1) := Nat.mul_le_mul (by omega) (by omega)
    have hc2 : (c + d * by') / Bs < Bs := by
      rw [Nat.div_lt_iff_lt_mul (by decide)]
      have : (Bs - 1) * (Bs - 1) + Bs ≤ Bs * Bs := by decide
      omega
    obtain ⟨g1, g2, g3, g4⟩ := scaL_val hb m ((c + d * by') / Bs) (fun x hx => hm x (List.mem_cons_of_mem _ hx)) hc2
    obtain ⟨r, hr⟩ : ∃ r, r = scaL by' m ((c + d * by') / Bs) := ⟨_, rfl⟩
    have e : scaL by' (d :: m) c = ((c + d * by') % Bs :: r.1, r.2) := by rw [hr]; rfl
    rw [← hr] at g1 g2 g3 g4
    rw [e]
    dsimp only
    refine ⟨?_, by simp [g2], fun x hx => ?_, g4⟩
    · show (c + d * by') % Bs + Bs * valL r.1 + Bs ^ (m.length + 1) * r.2 = (d + Bs * valL m) * by' + c
      have e1 : Bs ^ (m.length + 1) * r.2 = Bs * (Bs ^ m.length * r.2) := by
        rw [Nat.pow_succ, Nat.mul_comm (Bs ^ m.length) Bs, Nat.mul_assoc]
      rw [e1, Nat.add_mul, Nat.mul_assoc Bs]
      generalize Bs ^ m.length * r.2 = z at *
      generalize valL r.1 = k at *
      generalize valL m * by' = n at *
      generalize d * by' = w at *
      unfold Bs at *
      omega
    · rcases List.mem_cons.1 hx with rfl | hx
      · exact Nat.mod_lt _ (by decide)
      · exact g3 x hx
/-- the digits from the top, by a digit: quotients and rest -/
def shoL (by' : Nat) : List Nat → List Nat × Nat
  | [] => ([], 0)
  | d :: m => ((((shoL by' m).2 * Bs + d) / by') :: (shoL by' m).1, ((shoL by' m).2 * Bs + d) % by')
theorem shoL_val {by' : Nat} (h0 : 0 < by') (hb : by' < Bs) : ∀ (m : List Nat), LimL m → valL (shoL by' m).1 * by' + (shoL by' m).2 = valL m ∧ (shoL by' m).1.length = m.length ∧ LimL (shoL by' m).1 ∧ (shoL by' m).2 < by'
  | [], _ => ⟨by show valL [] * by' + 0 = valL []; simp [valL], rfl, nofun, h0⟩
  | d :: m, hm => by
    have h1 := hm d (by simp)
    obtain ⟨g1, g2, g3, g4⟩ := shoL_val h0 hb m fun x hx => hm x (List.mem_cons_of_mem _ hx)
    obtain ⟨r, hr⟩ : ∃ r, r = shoL by' m := ⟨_, rfl⟩
    have e : shoL by' (d :: m) = ((r.2 * Bs + d) / by' :: r.1, (r.2 * Bs + d) % by') := by rw [hr]; rfl
    rw [← hr] at g1 g2 g3 g4
    rw [e]
    dsimp only
    have hq : (r.2 * Bs + d) / by' < Bs := by
      rw [Nat.div_lt_iff_lt_mul h0]
      have : (r.2 + 1) * Bs ≤ by' * Bs := Nat.mul_le_mul_right _ (by omega)
      rw [Nat.add_mul, Nat.one_mul, Nat.mul_comm by' Bs] at this
      omega
    refine ⟨?_, by simp [g2], fun x hx => ?_, Nat.mod_lt _ h0⟩
    · show ((r.2 * Bs + d) / by' + Bs * valL r.1) * by' + (r.2 * Bs + d) % by' = d + Bs * valL m
      have e1 := Nat.div_add_mod (r.2 * Bs + d) by'
      rw [Nat.mul_comm] at e1
      rw [Nat.add_mul, Nat.mul_assoc, ← g1, Nat.mul_add, Nat.mul_comm Bs r.2]
      omega
    · rcases List.mem_cons.1 hx with rfl | hx
      · exact hq
      · exact g3 x hx
end Go.Proofs.YtoholjdojdmbkaaGreatDoor
namespace Go.Proofs.YtoholjdojdmbkaaGreatDoor
/-- the value of decimal digits, the greatest one first -/
def decV (l : List Nat) : Nat := l.foldl (fun v d => 10 * v + d) 0
theorem dec_from : ∀ (l : List Nat) (v : Nat), l.foldl (fun v d => 10 * v + d) v = v * 10 ^ l.length + decV l
  | [], v => by simp [decV]
  | d :: l, v => by
    show l.foldl (fun v d => 10 * v + d) (10 * v + d) = v * 10 ^ (l.length + 1) + l.foldl (fun v d => 10 * v + d) (10 * 0 + d)
    rw [dec_from l (10 * v + d), dec_from l (10 * 0 + d), Nat.pow_succ]
    have e : (10 * v + d) * 10 ^ l.length = v * (10 ^ l.length * 10) + d * 10 ^ l.length := by
      rw [Nat.add_mul, Nat.mul_comm 10 v, Nat.mul_assoc, Nat.mul_comm 10 (10 ^ l.length)]
    rw [e]
    simp only [Nat.mul_zero, Nat.zero_add]
    omega
theorem dec_append (a b : List Nat) : decV (a ++ b) = decV a * 10 ^ b.length + decV b := by
  unfold decV
  rw [List.foldl_append, dec_from]
  rfl
theorem dec_lt : ∀ {l : List Nat}, (∀ d ∈ l, d < 10) → decV l < 10 ^ l.length
  | [], _ => by simp [decV]
  | d :: l, h => by
    have ih := dec_lt (l := l) fun x hx => h x (List.mem_cons_of_mem _ hx)
    have hd := h d (by simp)
    have e := dec_append [d] l
    have e1 : decV [d] = d := by show 10 * 0 + d = d; omega
    rw [e1] at e
    show decV ([d] ++ l) < 10 ^ (l.length + 1)
    rw [e, Nat.pow_succ]
    have : (d + 1) * 10 ^ l.length ≤ 10 * 10 ^ l.length := Nat.mul_le_mul_right _ (by omega)
    rw [Nat.add_mul, Nat.one_mul, Nat.mul_comm 10] at this
    omega
theorem dec_pos : ∀ {l : List Nat}, (∀ d ∈ l, d < 10) → 0 < l.length → l.getD 0 0 ≠ 0 → 0 < decV l
  | [], _, h, _ => by cases h
  | d :: l, _, _, h => by
    have hd : 0 < d := Nat.pos_of_ne_zero h
    have e := dec_append [d] l
    have e1 : decV [d] = d := by show 10 * 0 + d = d; omega
    rw [e1] at e
    show 0 < decV ([d] ++ l)
    rw [e]
    have : 0 < d * 10 ^ l.length := Nat.mul_pos hd (Nat.pow_pos (by decide))
    omega
theorem dec_zero : ∀ {l : List Nat}, decV l = 0 ↔ ∀ d ∈ l, d = 0
  | [] => ⟨fun _ => nofun, fun _ => rfl⟩
  | d :: l => by
    have e := dec_append [d] l
    have e1 : decV [d] = d := by show 10 * 0 + d = d; omega
    rw [e1] at e
    have ih := dec_zero (l := l)
    show decV ([d] ++ l) = 0 ↔ _
    rw [e]
    constructor
    · intro h x hx
      have hp : 0 < 10 ^ l.length := Nat.pow_pos (by decide)
      have h1 : d * 10 ^ l.length = 0 := by omega
      have hd : d = 0 := by
        rcases Nat.mul_eq_zero.1 h1 with g | g
        · exact g
        · omega
      rcases List.mem_cons.1 hx with rfl | hx
      · exact hd
      · exact ih.1 (by omega) x hx
    · intro h
      have hd := h d (by simp)
      have hl := ih.2 fun x hx => h x (List.mem_cons_of_mem _ hx)
      rw [hd, hl]; simp
/-- one more group: what Parse keeps -/
theorem dec_group (a g : List Nat) : decV (a ++ g) = decV a * 10 ^ g.length + decV g := dec_append a g
theorem pow9 {k : Nat} (h : k ≤ 9) : 10 ^ k < Bs := by
  have : 10 ^ k ≤ 10 ^ 9 := Nat.pow_le_pow_right (by decide) h
  have : 10 ^ 9 < Bs := by decide
  omega
end Go.Proofs.YtoholjdojdmbkaaGreatDoor
namespace Go.Proofs.YtoholjdojdmbkaaGreatDoor
/-- a part of the digits is replaced -/
theorem valL_window (a w w' b : List Nat) (hl : w.length = w'.length) : valL (a ++ w' ++ b) + Bs ^ a.length * valL w = valL (a ++ w ++ b) + Bs ^ a.length * valL w' := by
  rw [List.append_assoc, List.append_assoc, valL_append a, valL_append a, valL_append w', valL_append w, hl, Nat.mul_add, Nat.mul_add]
  omega
theorem valL_cut (u : List Nat) (i : Nat) : valL u = valL (u.take i) + Bs ^ (u.take i).length * valL (u.drop i) := by
  conv => lhs; rw [← List.take_append_drop i u]
  rw [valL_append]
/-- a shift to the left is a multiplication -/
theorem shl_or {d c p s : Nat} (hps : p * s = Bs) (hc : c < p) : (c + d * p) % Bs = d * p % Bs + c ∧ (c + d * p) / Bs = d * p / Bs := by
  have e : d * p % Bs = p * (d % s) := by rw [← hps, Nat.mul_comm d p, Nat.mul_mod_mul_left]
  have hs : 0 < s := by
    rcases Nat.eq_zero_or_pos s with h | h
    · subst h; rw [Nat.mul_zero] at hps; unfold Bs at hps; omega
    · exact h
  have hlt : p * (d % s) + c < Bs := by
    have h1 := Nat.mod_lt d hs
    have h2 : p * (d % s + 1) ≤ p * s := Nat.mul_le_mul_left _ h1
    rw [Nat.mul_add, Nat.mul_one, hps] at h2
    omega
  have h0 := Nat.div_add_mod (d * p) Bs
  have e1 : c + d * p = (p * (d % s) + c) + Bs * (d * p / Bs) := by rw [← e]; omega
  refine ⟨?_, ?_⟩
  · rw [e1, Nat.add_mul_mod_self_left, Nat.mod_eq_of_lt hlt, e]
  · rw [e1, Nat.add_mul_div_left _ _ (show 0 < Bs by decide), Nat.div_eq_of_lt hlt]
    omega
/-- digits by a power of 2 -/
def lowL (p s : Nat) : List Nat → List Nat
  | [] => []
  | d :: m => (d / p + (m.getD 0 0 * s) % Bs) :: lowL p s m
theorem lowL_len (p s : Nat) : ∀ m : List Nat, (lowL p s m).length = m.length
  | [] => rfl
  | _ :: m => by show (lowL p s m).length + 1 = m.length + 1; rw [lowL_len p s m]
theorem lowL_val {p s : Nat} (hps : p * s = Bs) (hp : 0 < p) : ∀ (m : List Nat), LimL m → valL (lowL p s m) = valL m / p
  | [], _ => by simp [lowL, valL]
  | [d], _ => by
    show d / p + (0 * s) % Bs + Bs * valL [] = (d + Bs * valL []) / p
    simp [valL]
  | d :: e :: m, h => by
    have ih := lowL_val hps hp (e :: m) fun x hx => h x (List.mem_cons_of_mem _ hx)
    have he := h e (by simp)
    show d / p + (e * s) % Bs + Bs * valL (lowL p s (e :: m)) = (d + Bs * valL (e :: m)) / p
    rw [ih]
    have hs : 0 < s := by
      rcases Nat.eq_zero_or_pos s with g | g
      · subst g; rw [Nat.mul_zero] at hps; unfold Bs at hps; omega
      · exact g
    have hX : valL (e :: m) = e + Bs * valL m := rfl
    generalize valL m = Y at hX
    rw [hX]
    have e1 : (d + Bs * (e + Bs * Y)) / p = d / p + s * (e + Bs * Y) := by
      rw [← hps, Nat.mul_assoc p s, Nat.add_mul_div_left _ _ hp, hps]
    have e2 : (e + Bs * Y) / p = e / p + s * Y := by
      rw [← hps, Nat.mul_assoc p s, Nat.add_mul_div_left _ _ hp]
    have e3 : e * s / Bs = e / p := by rw [← hps, Nat.mul_div_mul_right _ _ hs]
    have e4 := Nat.div_add_mod (e * s) Bs
    rw [e3] at e4
    have e5 : s * (e + Bs * Y) = e * s + Bs * (s * Y) := by rw [Nat.mul_add, Nat.mul_comm s e, Nat.mul_left_comm]
    have e6 : Bs * (e / p + s * Y) = Bs * (e / p) + Bs * (s * Y) := Nat.mul_add _ _ _
    rw [e1, e2, e5, e6]
    omega
/-! ### the loop of the long division -/
/-- i digits of the quotient are still to be found: what is left, and the quotient's digits found so far -/
structure DInv (U V : Nat) (n : Nat) (u : List Nat) (i Q : Nat) : Prop where
  l : LimL u
  e : valL u + V * (Bs ^ i * Q) = U
  r : valL (u.drop i) < V
theorem DInv.next {U V n : Nat} {u u' : List Nat} {i Q q : Nat} (h : DInv U V n u (i + 1) Q) (hi : i < u.length) (hl : LimL u') (hlen : u'.length = u.length) (htk : u'.take i = u.take i) (hq : valL (u'.drop i) + q * V = valL (u.drop i)) (hr : valL (u'.drop i) < V) : DInv U V n u' i (q + Bs * Q) := by
  refine ⟨hl, ?_, hr⟩
  have e1 := valL_cut u i
  have e2 := valL_cut u' i
  rw [htk] at e2
  have hlt : (u.take i).length = i := by rw [List.length_take]; omega
  rw [hlt] at e1 e2
  have he := h.e
  rw [Nat.pow_succ] at he
  have e3 : V * (Bs ^ i * (q + Bs * Q)) = Bs ^ i * (q * V) + V * (Bs ^ i * Bs * Q) := by
    rw [Nat.mul_add, Nat.mul_add, Nat.mul_left_comm V (Bs ^ i) q, Nat.mul_comm V q, Nat.mul_assoc (Bs ^ i) Bs Q]
  rw [e2, e3]
  have e4 : Bs ^ i * valL (u.drop i) = Bs ^ i * valL (u'.drop i) + Bs ^ i * (q * V) := by rw [← hq, Nat.mul_add]
  omega
/-- before each step the digits in question are less than the divisor's times the base -/
theorem DInv.window {U V n : Nat} {u : List Nat} {i Q : Nat} (h : DInv U V n u (i + 1) Q) (hi : i < u.length) : valL (u.drop i) < Bs * V := by
  have e : u.drop i = u[i] :: u.drop (i + 1) := List.drop_eq_getElem_cons hi
  have h1 := h.l u[i] (List.getElem_mem hi)
  rw [e]
  show u[i] + Bs * valL (u.drop (i + 1)) < Bs * V
  have h2 : Bs * (valL (u.drop (i + 1)) + 1) ≤ Bs * V := Nat.mul_le_mul_left _ h.r
  rw [Nat.mul_add, Nat.mul_one] at h2
  omega
/-- in the end the quotient and the rest -/
theorem DInv.fin {U V n : Nat} {u : List Nat} {Q : Nat} (h : DInv U V n u 0 Q) : Q = U / V ∧ valL u = U % V := by
  have hr : valL u < V := by have := h.r; rwa [List.drop_zero] at this
  have he := h.e
  rw [Nat.pow_zero, Nat.one_mul] at he
  have hV : 0 < V := by omega
  refine ⟨?_, ?_⟩
  · rw [← he, Nat.add_mul_div_left _ _ hV, Nat.div_eq_of_lt hr, Nat.zero_add]
  · rw [← he, Nat.add_mul_mod_self_left, Nat.mod_eq_of_lt hr]
/-- the highest digits of what is left are zeros -/
theorem high_zero {w : List Nat} {n : Nat} (h : valL w < Bs ^ n) : ∀ k, n ≤ k → k < w.length → w.getD k 0 = 0 := by
  intro k hk hkl
  have e := valL_cut w k
  have hlt : (w.take k).length = k := by rw [List.length_take]; omega
  rw [hlt, List.drop_eq_getElem_cons hkl] at e
  have hg : w.getD k 0 = w[k] := by rw [List.getD_eq_getElem?_getD, List.getElem?_eq_getElem hkl]; rfl
  rw [hg]
  refine Classical.byContradiction fun hn => ?_
  have h1 : Bs ^ k * 1 ≤ Bs ^ k * valL (w[k] :: w.drop (k + 1)) := Nat.mul_le_mul_left _ (by show 1 ≤ w[k] + Bs * valL (w.drop (k + 1)); omega)
  have h2 : Bs ^ n ≤ Bs ^ k := Nat.pow_le_pow_right (by decide) hk
  omega
/-! ### Gcd -/
theorem gcd_step (x y : Nat) : Nat.gcd x y = Nat.gcd y (x % y) := by
  rw [Nat.gcd_comm x y, Nat.gcd_rec y x, Nat.gcd_comm]
end Go.Proofs.YtoholjdojdmbkaaGreatDoor
namespace Go.Proofs.YtoholjdojdmbkaaGreatDoor
abbrev Byts := List UInt8
def isLow (c : UInt8) : Bool := decide (97 ≤ c.toNat) && decide (c.toNat ≤ 122)
def isDig (c : UInt8) : Bool := decide (48 ≤ c.toNat) && decide (c.toNat ≤ 57)
def isInn (c : UInt8) : Bool := isLow c || isDig c || decide (c = 45) || decide (c = 95)
/-- the place behind a byte -/
def pas1 (p : Nat × Nat) (c : UInt8) : Nat × Nat := if c = 10 then (p.1 + 1, 1) else (p.1, p.2 + 1)
def pasN (p : Nat × Nat) (l : Byts) : Nat × Nat := l.foldl pas1 p
/-- how many of the first bytes belong to a class -/
def runN (f : UInt8 → Bool) (l : Byts) : Nat := (l.takeWhile f).length
def dgV (l : Byts) : Nat := decV (l.map fun c => c.toNat - 48)
/-- digits in canonical form -/
def canD (l : Byts) : Bool := decide (0 < l.length) && (decide (l.length = 1) || !decide (l.getD 0 0 = 48))
/-- a number in canonical form: k digits, and behind a stroke others -/
def canN (s : Byts) (k : Nat) : Bool :=
  if s.length = k then canD s else canD (s.take k) && (canD (s.drop (k + 1)) && (decide (1 < dgV (s.drop (k + 1))) && decide (Nat.gcd (dgV (s.take k)) (dgV (s.drop (k + 1))) = 1)))
/-- behind the opening quote: index, what is denoted -/
def quoF : Byts → Nat → Byts → Nat × Byts × Int
  | [], _, _ => (0, [], 4)
  | [c], i, out => if c = 10 then (0, [], 4) else if c = 34 then (if 4096 < out.length then (0, [], 5) else (i + 1, out, 0)) else if c.toNat < 32 ∨ 126 < c.toNat then (i, [], 14) else if c = 92 then (i, [], 14) else (0, [], 4)
  | c :: e :: r, i, out => if c = 10 then (0, [], 4) else if c = 34 then (if 4096 < out.length then (0, [], 5) else (i + 1, out, 0)) else if c.toNat < 32 ∨ 126 < c.toNat then (i, [], 14) else
    if c = 92 then (if e = 34 ∨ e = 92 then quoF r (i + 2) (out ++ [e]) else (i, [], 14)) else quoF (e :: r) (i + 1) (out ++ [c])
def twoS : List Byts := [[46, 46], [60, 61], [62, 61], [45, 62]]
def oneS : Byts := [123, 125, 40, 41, 91, 93, 44, 59, 58, 61, 60, 62, 43, 45, 42, 47, 64]
def symN (s : Byts) : Nat := if twoS.any (fun x => decide (s.take 2 = x)) then 2 else if s.length ≠ 0 ∧ s.getD 0 0 ∈ oneS then 1 else 0
/-- digits, and their number with a denominator -/
def numN (s : Byts) : Nat × Nat :=
  let k := runN isDig s
  let m := runN isDig (s.drop (k + 1))
  if s.getD k 0 = 47 ∧ k < s.length ∧ 0 < m then (k + 1 + m, k) else (k, k)
/-- a token at the begin of a text: its bytes, its kind, what it denotes; or how far the error is, and the error -/
def tokF (s : Byts) : Nat × Int × Byts × Int :=
  let c := s.getD 0 0
  if c = 34 then
    let r := quoF (s.drop 1) 1 []
    (r.1, 3, r.2.1, r.2.2)
  else if isLow c then (if 40 < runN isInn s then (0, 1, [], 5) else (runN isInn s, 1, s.take (runN isInn s), 0))
  else if isDig c then
    let n := numN s
    if 400 < n.1 then (0, 2, [], 5) else if canN (s.take n.1) n.2 then (n.1, 2, s.take n.1, 0) else (0, 2, [], 3)
  else if symN s = 0 then (0, 4, [], 14) else (symN s, 4, s.take (symN s), 0)
abbrev Tok := Int × Byts × Nat × Nat
/-- the tokens, or the place and the kind of the first error; fuel: the number of bytes -/
def scaK : Nat → Byts → Nat × Nat → List Tok → List Tok × Nat × Nat × Int
  | 0, _, p, out => (out ++ [(5, [], p.1, p.2)], 0, 0, 0)
  | f + 1, s, p, out => match s with
    | [] => (out ++ [(5, [], p.1, p.2)], 0, 0, 0)
    | c :: r =>
      if c = 32 ∨ c = 10 then scaK f r (pas1 p c) out
      else if c = 35 then scaK f (s.drop (runN (fun c => !decide (c = 10)) s)) (pasN p (s.take (runN (fun c => !decide (c = 10)) s))) out
      else
        let t := tokF s
        if t.2.2.2 ≠ 0 then ([], (pasN p (s.take t.1)).1, (pasN p (s.take t.1)).2, t.2.2.2)
        else scaK f (s.drop t.1) (pasN p (s.take t.1)) (out ++ [(t.2.1, t.2.2.1, p.1, p.2)])
def scaF (s : Byts) : List Tok × Nat × Nat × Int := if 65536 < s.length then ([], 1, 1, 5) else scaK (s.length + 1) s (1, 1) []
theorem tok_pos {s : Byts} (h0 : 0 < s.length) (h : (tokF s).2.2.2 = 0) : 0 < (tokF s).1 := by
  cases s with
  | nil => cases h0
  | cons c r =>
    have key : ∀ (l : Byts) (i : Nat) (out : Byts), (quoF l i out).2.2 = 0 → i < (quoF l i out).1 := by
      intro l
      induction hn : l.length using Nat.strongRecOn generalizing l with
      | _ n ih =>
        intro i out h
        match l, hn with
        | [], _ => simp [quoF] at h
        | [c], _ =>
          unfold quoF at h ⊢
          split at h
          · cases h
          · split at h
            · split at h
              · cases h
              · rename_i g1 g2 g3
                rw [if_neg g1, if_pos g2, if_neg g3]; exact Nat.lt_succ_self i
            · split at h
              · cases h
              · split at h <;> cases h
        | c :: e :: r, hn =>
          unfold quoF at h ⊢
          split at h
          · cases h
          · rename_i g1
            rw [if_neg g1]
            split at h
            · rename_i g2
              rw [if_pos g2]
              split at h
              · cases h
              · rename_i g3
                rw [if_neg g3]; exact Nat.lt_succ_self i
            · rename_i g2
              rw [if_neg g2]
              split at h
              · cases h
              · rename_i g3
                rw [if_neg g3]
                split at h
                · rename_i g4
                  rw [if_pos g4]
                  split at h
                  · rename_i g5
                    rw [if_pos g5]
                    have := ih r.length (by simp at hn; omega) r rfl (i + 2) (out ++ [e]) h
                    omega
                  · cases h
                · rename_i g4
                  rw [if_neg g4]
                  have := ih (e :: r).length (by simp at hn ⊢; omega) (e :: r) rfl (i + 1) (out ++ [c]) h
                  omega
    have run1 : ∀ f : UInt8 → Bool, f c = true → 0 < runN f (c :: r) := fun f hf => by
      unfold runN
      rw [List.takeWhile_cons, if_pos hf]
      exact Nat.succ_pos _
    unfold tokF at h ⊢
    have e : (c :: r).getD 0 0 = c := rfl
    rw [e] at h ⊢
    dsimp only at h ⊢
    by_cases c1 : c = 34
    · rw [if_pos c1] at h ⊢
      have := key r 1 [] h
      show 0 < (quoF r 1 []).1
      omega
    · rw [if_neg c1] at h ⊢
      by_cases c2 : isLow c = true
      · rw [if_pos c2] at h ⊢
        have hi : isInn c = true := by unfold isInn; rw [c2]; rfl
        split at h
        · cases h
        · rename_i g
          rw [if_neg g]; exact run1 _ hi
      · rw [if_neg c2] at h ⊢
        by_cases c3 : isDig c = true
        · rw [if_pos c3] at h ⊢
          have hk := run1 isDig c3
          have hn : 0 < (numN (c :: r)).1 := by
            unfold numN
            dsimp only
            split
            · show 0 < runN isDig (c :: r) + 1 + _; omega
            · exact hk
          split at h
          · cases h
          · rename_i g
            rw [if_neg g]
            split at h
            · rename_i g2
              rw [if_pos g2]; exact hn
            · cases h
        · rw [if_neg c3] at h ⊢
          split at h
          · cases h
          · rename_i g
            rw [if_neg g]
            exact Nat.pos_of_ne_zero g
/-! ### the chapter's examples -/
theorem ex_gap : (scaF "gap -> 3/4 # end".toUTF8.data.toList).1.length = 4 ∧ (scaF "gap -> 3/4 # end".toUTF8.data.toList).2.2.2 = 0 ∧ (scaF "gap -> 3/4 # end".toUTF8.data.toList).1.getD 1 default = (4, [45, 62], 1, 5) ∧ (scaF "gap -> 3/4 # end".toUTF8.data.toList).1.getD 3 default = (5, [], 1, 17) := by decide +kernel
theorem ex_two4 : (scaF "2/4".toUTF8.data.toList).2.2.2 = 3 := by decide +kernel
theorem ex_dots : (scaF "1..2".toUTF8.data.toList).1.length = 4 ∧ (scaF "1..2".toUTF8.data.toList).2.2.2 = 0 := by decide +kernel
theorem ex_line : (scaF "a\n \"x".toUTF8.data.toList).2 = (2, 2, 4) := by decide +kernel
end Go.Proofs.YtoholjdojdmbkaaGreatDoor
namespace Go.Proofs.YtoholjdojdmbkaaGreatDoor
/-- one step: how many bytes, what tokens, what error -/
def stp (s : Byts) : Nat × List (Int × Byts) × Int :=
  if s.getD 0 0 = 32 ∨ s.getD 0 0 = 10 then (1, [], 0)
  else if s.getD 0 0 = 35 then (runN (fun c => !decide (c = 10)) s, [], 0)
  else ((tokF s).1, [((tokF s).2.1, (tokF s).2.2.1)], (tokF s).2.2.2)
def atP (p : Nat × Nat) (l : List (Int × Byts)) : List Tok := l.map fun x => (x.1, x.2, p.1, p.2)
theorem sca_stp (f : Nat) (c : UInt8) (r : Byts) (p : Nat × Nat) (out : List Tok) : scaK (f + 1) (c :: r) p out =
    if (stp (c :: r)).2.2 ≠ 0 then ([], (pasN p ((c :: r).take (stp (c :: r)).1)).1, (pasN p ((c :: r).take (stp (c :: r)).1)).2, (stp (c :: r)).2.2)
    else scaK f ((c :: r).drop (stp (c :: r)).1) (pasN p ((c :: r).take (stp (c :: r)).1)) (out ++ atP p (stp (c :: r)).2.1) := by
  have e : scaK (f + 1) (c :: r) p out = if c = 32 ∨ c = 10 then scaK f r (pas1 p c) out
      else if c = 35 then scaK f ((c :: r).drop (runN (fun c => !decide (c = 10)) (c :: r))) (pasN p ((c :: r).take (runN (fun c => !decide (c = 10)) (c :: r)))) out
      else if (tokF (c :: r)).2.2.2 ≠ 0 then ([], (pasN p ((c :: r).take (tokF (c :: r)).1)).1, (pasN p ((c :: r).take (tokF (c :: r)).1)).2, (tokF (c :: r)).2.2.2)
        else scaK f ((c :: r).drop (tokF (c :: r)).1) (pasN p ((c :: r).take (tokF (c :: r)).1)) (out ++ [((tokF (c :: r)).2.1, (tokF (c :: r)).2.2.1, p.1, p.2)]) := rfl
  rw [e]
  have g : (c :: r).getD 0 0 = c := rfl
  unfold stp
  rw [g]
  by_cases h1 : c = 32 ∨ c = 10
  · simp only [if_pos h1]
    rw [if_neg (by decide)]
    show _ = scaK f r (pas1 p c) (out ++ [])
    rw [List.append_nil]
  · simp only [if_neg h1]
    by_cases h2 : c = 35
    · simp only [if_pos h2]
      rw [if_neg (show ¬ ((0 : Int) ≠ 0) by decide)]
      show _ = scaK f _ _ (out ++ [])
      rw [List.append_nil]
    · simp only [if_neg h2]
      rfl
theorem run_le7 (f : UInt8 → Bool) : ∀ l : Byts, runN f l ≤ l.length
  | [] => Nat.le_refl _
  | c :: l => by
    have := run_le7 f l
    unfold runN at this ⊢
    rw [List.takeWhile_cons]
    split
    · simp only [List.length_cons]; omega
    · simp
theorem run_app7 {f : UInt8 → Bool} (h : f 10 = false) (t : Byts) : ∀ l : Byts, runN f (l ++ 10 :: t) = runN f l
  | [] => by
    show (List.takeWhile f (10 :: t)).length = 0
    rw [List.takeWhile_cons, if_neg (by rw [h]; decide)]
    rfl
  | c :: l => by
    have := run_app7 h t l
    unfold runN at this ⊢
    rw [List.cons_append, List.takeWhile_cons, List.takeWhile_cons]
    split
    · rw [List.length_cons, List.length_cons, this]
    · rfl
theorem quo_app (t : Byts) : ∀ (l : Byts) (i : Nat) (out : Byts), (quoF l i out).2.2 = 0 → quoF (l ++ 10 :: t) i out = quoF l i out ∧ (quoF l i out).1 ≤ i + l.length := by
  intro l
  induction hn : l.length using Nat.strongRecOn generalizing l with
  | _ n ih =>
    intro i out h
    match l, hn with
    | [], _ => exact absurd h (by show ¬ ((4 : Int) = 0); decide)
    | [c], hn =>
      have e : quoF [c] i out = if c = 10 then (0, [], 4) else if c = 34 then (if 4096 < out.length then (0, [], 5) else (i + 1, out, 0)) else if c.toNat < 32 ∨ 126 < c.toNat then (i, [], 14) else if c = 92 then (i, [], 14) else (0, [], 4) := rfl
      have e2 : quoF ([c] ++ 10 :: t) i out = if c = 10 then (0, [], 4) else if c = 34 then (if 4096 < out.length then (0, [], 5) else (i + 1, out, 0)) else if c.toNat < 32 ∨ 126 < c.toNat then (i, [], 14) else if c = 92 then (if (10 : UInt8) = 34 ∨ (10 : UInt8) = 92 then quoF t (i + 2) (out ++ [10]) else (i, [], 14)) else quoF (10 :: t) (i + 1) (out ++ [c]) := rfl
      rw [e] at h ⊢
      rw [e2]
      subst hn
      by_cases h1 : c = 10
      · rw [if_pos h1] at h; exact absurd h (by show ¬ ((4 : Int) = 0); decide)
      · rw [if_neg h1] at h ⊢
        rw [if_neg h1]
        by_cases h2 : c = 34
        · rw [if_pos h2] at h ⊢
          rw [if_pos h2]
          by_cases h3 : 4096 < out.length
          · rw [if_pos h3] at h; exact absurd h (by show ¬ ((5 : Int) = 0); decide)
          · rw [if_neg h3]; exact ⟨rfl, Nat.le_refl _⟩
        · rw [if_neg h2] at h
          split at h
          · exact absurd h (by show ¬ ((14 : Int) = 0); decide)
          · split at h
            · exact absurd h (by show ¬ ((14 : Int) = 0); decide)
            · exact absurd h (by show ¬ ((4 : Int) = 0); decide)
    | c :: e :: r, hn =>
      have e1 : ∀ r' : Byts, quoF (c :: e :: r') i out = if c = 10 then (0, [], 4) else if c = 34 then (if 4096 < out.length then (0, [], 5) else (i + 1, out, 0)) else if c.toNat < 32 ∨ 126 < c.toNat then (i, [], 14) else if c = 92 then (if e = 34 ∨ e = 92 then quoF r' (i + 2) (out ++ [e]) else (i, [], 14)) else quoF (e :: r') (i + 1) (out ++ [c]) := fun _ => rfl
      have e2 : (c :: e :: r) ++ 10 :: t = c :: e :: (r ++ 10 :: t) := rfl
      rw [e2, e1, e1]
      rw [e1] at h
      subst hn
      by_cases h1 : c = 10
      · rw [if_pos h1] at h; exact absurd h (by show ¬ ((4 : Int) = 0); decide)
      · rw [if_neg h1] at h ⊢
        rw [if_neg h1]
        by_cases h2 : c = 34
        · rw [if_pos h2] at h ⊢
          rw [if_pos h2]
          by_cases h3 : 4096 < out.length
          · rw [if_pos h3] at h; exact absurd h (by show ¬ ((5 : Int) = 0); decide)
          · rw [if_neg h3]; exact ⟨rfl, by show i + 1 ≤ i + (r.length + 1 + 1); omega⟩
        · rw [if_neg h2] at h ⊢
          rw [if_neg h2]
          by_cases h3 : c.toNat < 32 ∨ 126 < c.toNat
          · rw [if_pos h3] at h; exact absurd h (by show ¬ ((14 : Int) = 0); decide)
          · rw [if_neg h3] at h ⊢
            rw [if_neg h3]
            by_cases h4 : c = 92
            · rw [if_pos h4] at h ⊢
              rw [if_pos h4]
              by_cases h5 : e = 34 ∨ e = 92
              · rw [if_pos h5] at h ⊢
                rw [if_pos h5]
                obtain ⟨g1, g2⟩ := ih r.length (by simp only [List.length_cons]; omega) r rfl (i + 2) (out ++ [e]) h
                exact ⟨g1, by simp only [List.length_cons]; omega⟩
              · rw [if_neg h5] at h; exact absurd h (by show ¬ ((14 : Int) = 0); decide)
            · rw [if_neg h4] at h ⊢
              rw [if_neg h4]
              obtain ⟨g1, g2⟩ := ih (e :: r).length (by simp only [List.length_cons]; omega) (e :: r) rfl (i + 1) (out ++ [c]) h
              exact ⟨g1, by simp only [List.length_cons] at g2 ⊢; omega⟩
theorem num_le7 (s : Byts) : (numN s).1 ≤ s.length := by
  unfold numN
  dsimp only
  have h1 := run_le7 isDig s
  have h2 := run_le7 isDig (s.drop (runN isDig s + 1))
  rw [List.length_drop] at h2
  split
  · rename_i h; obtain ⟨_, h3, _⟩ := h; dsimp only; omega
  · exact h1
theorem num_app (s t : Byts) : numN (s ++ 10 :: t) = numN s := by
  unfold numN
  rw [run_app7 (by decide)]
  have h1 := run_le7 isDig s
  generalize runN isDig s = k at h1
  dsimp only
  by_cases hk : k < s.length
  · have e1 : (s ++ 10 :: t).getD k 0 = s.getD k 0 := by
      rw [List.getD_eq_getElem?_getD, List.getD_eq_getElem?_getD, List.getElem?_append_left hk]
    have e2 : (s ++ 10 :: t).drop (k + 1) = s.drop (k + 1) ++ 10 :: t := List.drop_append_of_le_length hk
    rw [e1, e2, run_app7 (by decide)]
    by_cases hc : s.getD k 0 = 47 ∧ k < s.length ∧ 0 < runN isDig (s.drop (k + 1))
    · rw [if_pos hc, if_pos ⟨hc.1, by rw [List.length_append]; omega, hc.2.2⟩]
    · rw [if_neg hc, if_neg fun h => hc ⟨h.1, hk, h.2.2⟩]
  · have e1 : (s ++ 10 :: t).getD k 0 = 10 := by
      rw [List.getD_eq_getElem?_getD, List.getElem?_append_right (by omega), show k - s.length = 0 by omega]; rfl
    rw [if_neg (fun h => by rw [e1] at h; exact absurd h.1 (by decide)), if_neg (fun h => hk h.2.1)]
theorem ite01 {P Q : Prop} [Decidable P] [Decidable Q] (h : P ↔ Q) : (if P then 1 else 0 : Nat) = if Q then 1 else 0 := by
  by_cases hp : P
  · rw [if_pos hp, if_pos (h.1 hp)]
  · rw [if_neg hp, if_neg fun hq => hp (h.2 hq)]
theorem sym_app {s : Byts} (h0 : 0 < s.length) (t : Byts) : symN (s ++ 10 :: t) = symN s := by
  match s, h0 with
  | [c], _ =>
    have e1 : twoS.any (fun x => decide (([c] ++ 10 :: t).take 2 = x)) = false := by
      show twoS.any (fun x => decide ([c, 10] = x)) = false
      rw [List.any_eq_false]
      intro x hx h
      have h := of_decide_eq_true h
      subst h
      simp [twoS] at hx
    have e2 : twoS.any (fun x => decide ([c].take 2 = x)) = false := by
      show twoS.any (fun x => decide ([c] = x)) = false
      rw [List.any_eq_false]
      intro x hx h
      have h := of_decide_eq_true h
      subst h
      simp [twoS] at hx
    unfold symN
    rw [e1, e2, if_neg Bool.false_ne_true, if_neg Bool.false_ne_true]
    exact ite01 ⟨fun e => ⟨Nat.succ_ne_zero _, e.2⟩, fun e => ⟨Nat.succ_ne_zero _, e.2⟩⟩
  | c :: d :: r, _ =>
    unfold symN
    have e1 : ((c :: d :: r) ++ 10 :: t).take 2 = (c :: d :: r).take 2 := rfl
    rw [e1]
    by_cases h2 : twoS.any (fun x => decide ((c :: d :: r).take 2 = x)) = true
    · rw [if_pos h2, if_pos h2]
    · rw [if_neg h2, if_neg h2]
      exact ite01 ⟨fun e => ⟨Nat.succ_ne_zero _, e.2⟩, fun e => ⟨Nat.succ_ne_zero _, e.2⟩⟩
theorem sym_le7 {s : Byts} (h : symN s ≠ 0) : symN s ≤ s.length := by
  match s with
  | [] => exact absurd rfl h
  | [c] =>
    have e2 : twoS.any (fun x => decide ([c].take 2 = x)) = false := by
      show twoS.any (fun x => decide ([c] = x)) = false
      rw [List.any_eq_false]
      intro x hx h
      have h := of_decide_eq_true h
      subst h
      simp [twoS] at hx
    unfold symN
    rw [e2]
    rw [if_neg (by decide)]
    split
    · exact Nat.le_refl _
    · exact Nat.zero_le _
  | c :: d :: r =>
    unfold symN
    split
    · simp only [List.length_cons]; omega
    · split
      · simp only [List.length_cons]; omega
      · exact Nat.zero_le _
theorem tok_app {s : Byts} (h0 : 0 < s.length) (h : (tokF s).2.2.2 = 0) (t : Byts) : tokF (s ++ 10 :: t) = tokF s ∧ (tokF s).1 ≤ s.length := by
  match s, h0 with
  | c :: r, _ =>
    have gd : ∀ u : Byts, (c :: u).getD 0 0 = c := fun _ => rfl
    have tk : ∀ n, n ≤ (c :: r).length → ((c :: r) ++ 10 :: t).take n = (c :: r).take n := fun n hn => List.take_append_of_le_length hn
    have rl := run_le7 isInn (c :: r)
    have nl := num_le7 (c :: r)
    have sa := sym_app (s := c :: r) (Nat.succ_pos _) t
    have na := num_app (c :: r) t
    have ra := run_app7 (f := isInn) (by decide) t (c :: r)
    unfold tokF at h ⊢
    have e0 : ((c :: r) ++ 10 :: t).getD 0 0 = c := rfl
    rw [e0, gd] at *
    rw [sa, na, ra]
    dsimp only at h ⊢
    by_cases c1 : c = 34
    · rw [if_pos c1] at h ⊢
      rw [if_pos c1]
      obtain ⟨g1, g2⟩ := quo_app t r 1 [] h
      refine ⟨?_, ?_⟩
      · show ((quoF (r ++ 10 :: t) 1 []).1, (3 : Int), (quoF (r ++ 10 :: t) 1 []).2.1, (quoF (r ++ 10 :: t) 1 []).2.2) = _
        rw [g1]; rfl
      · show (quoF r 1 []).1 ≤ r.length + 1
        omega
    · rw [if_neg c1] at h ⊢
      rw [if_neg c1]
      by_cases c2 : isLow c = true
      · rw [if_pos c2] at h ⊢
        rw [if_pos c2, tk _ rl]
        refine ⟨rfl, ?_⟩
        split
        · exact Nat.zero_le _
        · exact rl
      · rw [if_neg c2] at h ⊢
        rw [if_neg c2]
        by_cases c3 : isDig c = true
        · rw [if_pos c3] at h ⊢
          rw [if_pos c3, tk _ nl]
          refine ⟨rfl, ?_⟩
          split
          · exact Nat.zero_le _
          · split
            · exact nl
            · exact Nat.zero_le _
        · rw [if_neg c3] at h ⊢
          rw [if_neg c3]
          by_cases c4 : symN (c :: r) = 0
          · rw [if_pos c4] at h; exact absurd h (by show ¬ ((14 : Int) = 0); decide)
          · rw [if_neg c4, if_neg c4]
            have := sym_le7 c4
            rw [tk _ this]
            exact ⟨rfl, this⟩
theorem stp_app {s : Byts} (h0 : 0 < s.length) (h : (stp s).2.2 = 0) (t : Byts) : stp (s ++ 10 :: t) = stp s ∧ (stp s).1 ≤ s.length ∧ 0 < (stp s).1 := by
  match s, h0 with
  | c :: r, h0 =>
    have ra := run_app7 (f := fun c => !decide (c = 10)) (by decide) t (c :: r)
    have rl := run_le7 (fun c => !decide (c = 10)) (c :: r)
    unfold stp at h ⊢
    have e0 : ((c :: r) ++ 10 :: t).getD 0 0 = c := rfl
    have e1 : (c :: r).getD 0 0 = c := rfl
    rw [e0, ra]
    rw [e1] at h ⊢
    by_cases c1 : c = 32 ∨ c = 10
    · rw [if_pos c1, if_pos c1]; exact ⟨rfl, by show 1 ≤ r.length + 1; omega, by show 0 < 1; omega⟩
    · rw [if_neg c1] at h ⊢
      rw [if_neg c1]
      by_cases c2 : c = 35
      · rw [if_pos c2, if_pos c2]
        refine ⟨rfl, rl, ?_⟩
        show 0 < runN _ (c :: r)
        unfold runN
        rw [List.takeWhile_cons, if_pos (by subst c2; decide)]
        exact Nat.succ_pos _
      · rw [if_neg c2] at h ⊢
        rw [if_neg c2]
        obtain ⟨g1, g2⟩ := tok_app h0 h t
        rw [g1]
        exact ⟨rfl, g2, tok_pos h0 h⟩
theorem stp_fit {s : Byts} (h0 : 0 < s.length) (h : (stp s).2.2 = 0) : (stp s).1 ≤ s.length ∧ 0 < (stp s).1 := (stp_app h0 h []).2
theorem sca_fuel : ∀ (n f f' : Nat) (s : Byts) (p : Nat × Nat) (out : List Tok), s.length ≤ n → s.length < f → s.length < f' → scaK f s p out = scaK f' s p out
  | n, f + 1, f' + 1, [], p, out, _, _, _ => rfl
  | n + 1, f + 1, f' + 1, c :: r, p, out, hn, h1, h2 => by
    rw [sca_stp, sca_stp]
    by_cases h : (stp (c :: r)).2.2 = 0
    · obtain ⟨g1, g2⟩ := stp_fit (s := c :: r) (Nat.succ_pos _) h
      rw [if_neg (fun e => e h), if_neg (fun e => e h)]
      simp only [List.length_cons] at *
      exact sca_fuel n f f' _ _ _ (by rw [List.length_drop, List.length_cons]; omega) (by rw [List.length_drop, List.length_cons]; omega) (by rw [List.length_drop, List.length_cons]; omega)
    · rw [if_pos h, if_pos h]
/-- what was found before stands ahead; a place further down gives tokens further down -/
theorem sca_out : ∀ (n f : Nat) (s : Byts) (p : Nat × Nat) (d : Nat) (out : List Tok), s.length ≤ n → s.length < f → (scaK f s p []).2.2.2 = 0 →
    scaK f s (p.1 + d, p.2) out = (out ++ (scaK f s p []).1.map (fun t => (t.1, t.2.1, t.2.2.1 + d, t.2.2.2)), 0, 0, 0)
  | n, f + 1, [], p, d, out, _, _, _ => rfl
  | n + 1, f + 1, c :: r, p, d, out, hn, h1, h2 => by
    have pa : ∀ (l : Byts) (p : Nat × Nat), pasN (p.1 + d, p.2) l = ((pasN p l).1 + d, (pasN p l).2) := by
      intro l
      induction l with
      | nil => intro p; rfl
      | cons x l ih =>
        intro p
        show pasN (pas1 (p.1 + d, p.2) x) l = ((pasN (pas1 p x) l).1 + d, (pasN (pas1 p x) l).2)
        have e : pas1 (p.1 + d, p.2) x = ((pas1 p x).1 + d, (pas1 p x).2) := by
          unfold pas1
          split
          · show (p.1 + d + 1, 1) = (p.1 + 1 + d, 1); rw [Nat.add_right_comm]
          · rfl
        rw [e, ih]
    have ap : atP (p.1 + d, p.2) (stp (c :: r)).2.1 = (atP p (stp (c :: r)).2.1).map (fun t => (t.1, t.2.1, t.2.2.1 + d, t.2.2.2)) := by
      unfold atP; rw [List.map_map]; rfl
    rw [sca_stp] at h2 ⊢
    by_cases h : (stp (c :: r)).2.2 = 0
    · obtain ⟨g1, g2⟩ := stp_fit (s := c :: r) (Nat.succ_pos _) h
      rw [if_neg (fun e => e h)] at h2 ⊢
      rw [sca_stp, if_neg (fun e => e h)]
      have hl : ((c :: r).drop (stp (c :: r)).1).length < f := by rw [List.length_drop]; simp only [List.length_cons] at *; omega
      have hl2 : ((c :: r).drop (stp (c :: r)).1).length ≤ n := by rw [List.length_drop]; simp only [List.length_cons] at *; omega
      have hz : (scaK f ((c :: r).drop (stp (c :: r)).1) (pasN p ((c :: r).take (stp (c :: r)).1)) []).2.2.2 = 0 := by
        rcases Classical.em ((scaK f ((c :: r).drop (stp (c :: r)).1) (pasN p ((c :: r).take (stp (c :: r)).1)) []).2.2.2 = 0) with g | g
        · exact g
        · exfalso
          refine g ?_
          have key := sca_err n f ((c :: r).drop (stp (c :: r)).1) (pasN p ((c :: r).take (stp (c :: r)).1)) ([] ++ atP p (stp (c :: r)).2.1) [] hl2 hl
          rw [key] at h2
          exact h2
      have ih := sca_out n f ((c :: r).drop (stp (c :: r)).1) (pasN p ((c :: r).take (stp (c :: r)).1))
      rw [pa, ih d _ hl2 hl hz, ap]
      have ih0 := ih 0 ([] ++ atP p (stp (c :: r)).2.1) hl2 hl hz
      rw [Nat.add_zero] at ih0
      have id0 : (fun t : Tok => ((t.1, t.2.1, t.2.2.1 + 0, t.2.2.2) : Tok)) = id := by funext t; rfl
      rw [id0, List.map_id] at ih0
      rw [show ((pasN p ((c :: r).take (stp (c :: r)).1)).1, (pasN p ((c :: r).take (stp (c :: r)).1)).2) = pasN p ((c :: r).take (stp (c :: r)).1) from rfl] at ih0
      rw [ih0]
      simp only [List.nil_append, List.map_append, List.append_assoc]
    · rw [if_pos h] at h2
      exact absurd h2 h
where
  sca_err : ∀ (n f : Nat) (s : Byts) (p : Nat × Nat) (out out' : List Tok), s.length ≤ n → s.length < f → (scaK f s p out).2.2.2 = (scaK f s p out').2.2.2
  | n, f + 1, [], p, out, out', _, _ => rfl
  | n + 1, f + 1, c :: r, p, out, out', hn, h1 => by
    rw [sca_stp, sca_stp]
    by_cases h : (stp (c :: r)).2.2 = 0
    · obtain ⟨g1, g2⟩ := stp_fit (s := c :: r) (Nat.succ_pos _) h
      rw [if_neg (fun e => e h), if_neg (fun e => e h)]
      exact sca_err n f _ _ _ _ (by rw [List.length_drop]; simp only [List.length_cons] at *; omega) (by rw [List.length_drop]; simp only [List.length_cons] at *; omega)
    · rw [if_pos h, if_pos h]
/-- the tokens of a text, then those of the rest behind the line feed -/
theorem sca_app (t : Byts) : ∀ (n f : Nat) (s : Byts) (p : Nat × Nat) (out : List Tok), s.length ≤ n → s.length < f → (scaK f s p out).2.2.2 = 0 →
    ∃ l : List Tok, (scaK f s p out) = (l ++ [(5, [], (pasN p s).1, (pasN p s).2)], 0, 0, 0) ∧ ∀ F, (s ++ 10 :: t).length < F → scaK F (s ++ 10 :: t) p out = scaK F t (pas1 (pasN p s) 10) l
  | n, f + 1, [], p, out, _, _, _ => by
    refine ⟨out, rfl, fun F hF => ?_⟩
    match F, hF with
    | F + 1, hF =>
      have e : scaK (F + 1) ([] ++ 10 :: t) p out = scaK F t (pas1 p 10) out := rfl
      rw [e]
      simp only [List.nil_append, List.length_cons] at hF
      exact sca_fuel t.length F (F + 1) t _ _ (Nat.le_refl _) (by omega) (by omega)
  | n + 1, f + 1, c :: r, p, out, hn, h1, h2 => by
    rw [sca_stp] at h2 ⊢
    by_cases h : (stp (c :: r)).2.2 = 0
    · obtain ⟨g0, g1, g2⟩ := stp_app (s := c :: r) (Nat.succ_pos _) h t
      rw [if_neg (fun e => e h)] at h2 ⊢
      obtain ⟨l, e1, e2⟩ := sca_app t n f _ _ _ (by rw [List.length_drop]; simp only [List.length_cons] at *; omega) (by rw [List.length_drop]; simp only [List.length_cons] at *; omega) h2
      have ep : pasN (pasN p ((c :: r).take (stp (c :: r)).1)) ((c :: r).drop (stp (c :: r)).1) = pasN p (c :: r) := by
        unfold pasN
        rw [← List.foldl_append, List.take_append_drop]
      rw [ep] at e1 e2
      refine ⟨l, e1, fun F hF => ?_⟩
      match F, hF with
      | F + 1, hF =>
        have ec : (c :: r) ++ 10 :: t = c :: (r ++ 10 :: t) := rfl
        have es := sca_stp F c (r ++ 10 :: t) p out
        rw [← ec, g0, if_neg (fun e => e h)] at es
        rw [es]
        have ed : ((c :: r) ++ 10 :: t).drop (stp (c :: r)).1 = (c :: r).drop (stp (c :: r)).1 ++ 10 :: t := List.drop_append_of_le_length g1
        have et : ((c :: r) ++ 10 :: t).take (stp (c :: r)).1 = (c :: r).take (stp (c :: r)).1 := List.take_append_of_le_length g1
        rw [ed, et]
        rw [List.length_append, List.length_cons, List.length_cons] at hF
        have hF2 : ((c :: r).drop (stp (c :: r)).1 ++ 10 :: t).length < F := by
          rw [List.length_append, List.length_drop, List.length_cons, List.length_cons]; simp only [List.length_cons] at g1; omega
        rw [e2 F hF2]
        refine sca_fuel t.length F (F + 1) t _ _ (Nat.le_refl _) ?_ ?_ <;> omega
    · rw [if_pos h] at h2
      exact absurd h2 h
/-- how many lines down a text goes -/
theorem pas_lines : ∀ (s : Byts) (p : Nat × Nat), (pasN p s).1 = p.1 + (s.filter (fun c => decide (c = 10))).length
  | [], p => rfl
  | c :: s, p => by
    have ih := pas_lines s (pas1 p c)
    show (pasN (pas1 p c) s).1 = _
    rw [ih]
    by_cases h : c = 10
    · rw [List.filter_cons_of_pos (by simpa using h), List.length_cons]
      unfold pas1; rw [if_pos h]
      show p.1 + 1 + _ = _
      omega
    · rw [List.filter_cons_of_neg (by simpa using h)]
      unfold pas1; rw [if_neg h]
theorem follows {s t : Byts} (hs : s.length ≤ 1000) (ht : t.length ≤ 1000) (h1 : (scaF s).2.2.2 = 0) (h2 : (scaF t).2.2.2 = 0) :
    ∃ l : List Tok, ∃ q : Tok, (scaF s) = (l ++ [q], 0, 0, 0) ∧ scaF (s ++ 10 :: t) = (l ++ (scaF t).1.map (fun x => (x.1, x.2.1, x.2.2.1 + (1 + (s.filter (fun c => decide (c = 10))).length), x.2.2.2)), 0, 0, 0) := by
  unfold scaF at h1 h2 ⊢
  rw [if_neg (by omega)] at h1 h2 ⊢
  rw [if_neg (by rw [List.length_append, List.length_cons]; omega), if_neg (by omega)]
  obtain ⟨l, e1, e2⟩ := sca_app t s.length (s.length + 1) s (1, 1) [] (Nat.le_refl _) (Nat.lt_succ_self _) h1
  refine ⟨l, _, e1, ?_⟩
  rw [e2 _ (Nat.lt_succ_self _)]
  have ep : pas1 (pasN (1, 1) s) 10 = (1 + (1 + (s.filter (fun c => decide (c = 10))).length), 1) := by
    have := pas_lines s (1, 1)
    unfold pas1
    rw [if_pos rfl, this]
    show (1 + (s.filter (fun c => decide (c = 10))).length + 1, 1) = _
    rw [show 1 + (s.filter (fun c => decide (c = 10))).length + 1 = 1 + (1 + (s.filter (fun c => decide (c = 10))).length) by omega]
  have hf : t.length < (s ++ 10 :: t).length + 1 := by rw [List.length_append, List.length_cons]; omega
  rw [ep]
  have hx := sca_fuel t.length ((s ++ 10 :: t).length + 1) (t.length + 1) t (1, 1) [] (Nat.le_refl _) hf (Nat.lt_succ_self _)
  have hz : (scaK ((s ++ 10 :: t).length + 1) t (1, 1) []).2.2.2 = 0 := by rw [hx]; exact h2
  have := sca_out t.length ((s ++ 10 :: t).length + 1) t (1, 1) (1 + (s.filter (fun c => decide (c = 10))).length) l (Nat.le_refl _) hf hz
  rw [this, hx]
end Go.Proofs.YtoholjdojdmbkaaGreatDoor
namespace Go.Proofs.YtoholjdojdmbkaaGreatDoor
theorem scaL_snoc (b : Nat) : ∀ (a : List Nat) (d c : Nat), scaL b (a ++ [d]) c = ((scaL b a c).1 ++ [((scaL b a c).2 + d * b) % Bs], ((scaL b a c).2 + d * b) / Bs)
  | [], d, c => rfl
  | x :: a, d, c => by
    show ((c + x * b) % Bs :: (scaL b (a ++ [d]) ((c + x * b) / Bs)).1, (scaL b (a ++ [d]) ((c + x * b) / Bs)).2) = _
    rw [scaL_snoc b a d]
    rfl
theorem scaL_len (b : Nat) : ∀ (a : List Nat) (c : Nat), (scaL b a c).1.length = a.length
  | [], _ => rfl
  | x :: a, c => by
    show (scaL b a ((c + x * b) / Bs)).1.length + 1 = a.length + 1
    rw [scaL_len b a]
theorem take_snoc {α : Type} (L : List α) (i : Nat) (h : i < L.length) : L.take (i + 1) = L.take i ++ [L[i]] := List.take_succ_eq_append_getElem h
/-- setting the next element of what is zero so far -/
theorem set_rep {α : Type} (a : List α) (z x : α) (n : Nat) (b : List α) : (a ++ (List.replicate (n + 1) z ++ b)).set a.length x = (a ++ [x]) ++ (List.replicate n z ++ b) := by
  rw [List.set_append_right _ _ (Nat.le_refl _), Nat.sub_self, List.replicate_succ]
  simp
theorem set_mid {α : Type} (a : List α) (z x : α) (b : List α) : (a ++ z :: b).set a.length x = (a ++ [x]) ++ b := by
  rw [List.set_append_right _ _ (Nat.le_refl _), Nat.sub_self]
  simp
theorem get_mid {α : Type} (a : List α) (z : α) (b : List α) (h : a.length < (a ++ z :: b).length) : (a ++ z :: b)[a.length] = z := by
  rw [List.getElem_append_right (Nat.le_refl _)]
  simp
theorem msub_snoc (q : Nat) : ∀ (us vs : List Nat) (u v c b : Nat), us.length = vs.length → msub q (us ++ [u]) (vs ++ [v]) c b =
    ((msub q us vs c b).1 ++ [(u + 2 * Bs - (msub q us vs c b).2.2 - ((msub q us vs c b).2.1 + q * v) % Bs) % Bs], ((msub q us vs c b).2.1 + q * v) / Bs, if u < (msub q us vs c b).2.2 + ((msub q us vs c b).2.1 + q * v) % Bs then 1 else 0)
  | [], [], u, v, c, b, _ => rfl
  | [], _ :: _, _, _, _, _, h => by simp at h
  | _ :: _, [], _, _, _, _, h => by simp at h
  | x :: us, y :: vs, u, v, c, b, h => by
    have ih := msub_snoc q us vs u v ((c + q * y) / Bs) (if x < b + (c + q * y) % Bs then 1 else 0) (by simpa using h)
    show ((x + 2 * Bs - b - (c + q * y) % Bs) % Bs :: (msub q (us ++ [u]) (vs ++ [v]) _ _).1, (msub q (us ++ [u]) (vs ++ [v]) _ _).2) = _
    rw [ih]
    rfl
theorem msub_len (q : Nat) : ∀ (us vs : List Nat) (c b : Nat), us.length = vs.length → (msub q us vs c b).1.length = us.length
  | [], [], _, _, _ => rfl
  | [], _ :: _, _, _, h => by simp at h
  | _ :: _, [], _, _, h => by simp at h
  | x :: us, y :: vs, c, b, h => by
    show (msub q us vs _ _).1.length + 1 = us.length + 1
    rw [msub_len q us vs _ _ (by simpa using h)]
theorem madd_snoc : ∀ (us vs : List Nat) (u v c : Nat), us.length = vs.length → madd (us ++ [u]) (vs ++ [v]) c = ((madd us vs c).1 ++ [((madd us vs c).2 + u + v) % Bs], ((madd us vs c).2 + u + v) / Bs)
  | [], [], u, v, c, _ => rfl
  | [], _ :: _, _, _, _, h => by simp at h
  | _ :: _, [], _, _, _, h => by simp at h
  | x :: us, y :: vs, u, v, c, h => by
    have ih := madd_snoc us vs u v ((c + x + y) / Bs) (by simpa using h)
    show ((c + x + y) % Bs :: (madd (us ++ [u]) (vs ++ [v]) _).1, (madd (us ++ [u]) (vs ++ [v]) _).2) = _
    rw [ih]
    rfl
theorem madd_len : ∀ (us vs : List Nat) (c : Nat), us.length = vs.length → (madd us vs c).1.length = us.length
  | [], [], _, _ => rfl
  | [], _ :: _, _, h => by simp at h
  | _ :: _, [], _, h => by simp at h
  | x :: us, y :: vs, c, h => by
    show (madd us vs _).1.length + 1 = us.length + 1
    rw [madd_len us vs _ (by simpa using h)]
theorem shoL_len (b : Nat) : ∀ m : List Nat, (shoL b m).1.length = m.length
  | [] => rfl
  | x :: m => by show (shoL b m).1.length + 1 = m.length + 1; rw [shoL_len b m]
theorem shoL_drop (b : Nat) (m : List Nat) (i : Nat) (h : i < m.length) : shoL b (m.drop i) = ((((shoL b (m.drop (i + 1))).2 * Bs + m[i]) / b) :: (shoL b (m.drop (i + 1))).1, ((shoL b (m.drop (i + 1))).2 * Bs + m[i]) % b) := by
  rw [List.drop_eq_getElem_cons h]; rfl
/-- digits times a power of 2 less than 2^32: one digit more -/
def raiL (p : Nat) (m : List Nat) : List Nat := (scaL p m 0).1 ++ [(scaL p m 0).2]
theorem raiL_val {p : Nat} (hp : p < Bs) {m : List Nat} (hm : LimL m) : valL (raiL p m) = valL m * p ∧ LimL (raiL p m) ∧ (raiL p m).length = m.length + 1 := by
  obtain ⟨h1, h2, h3, h4⟩ := scaL_val hp m 0 hm (by decide)
  refine ⟨?_, fun d hd => ?_, by unfold raiL; rw [List.length_append, h2]; rfl⟩
  · unfold raiL
    rw [valL_snoc, h2]; omega
  · rcases List.mem_append.1 hd with g | g
    · exact h3 d g
    · rw [List.mem_singleton] at g; rw [g]; exact h4
/-- the carry of a shift is less than the power -/
theorem scaL_carry {p s : Nat} (hps : p * s = Bs) : ∀ (m : List Nat) (c : Nat), LimL m → c < p → (scaL p m c).2 < p
  | [], c, _, h => h
  | d :: m, c, hm, h => by
    refine scaL_carry hps m _ (fun x hx => hm x (List.mem_cons_of_mem _ hx)) ?_
    have hd := hm d (by simp)
    rw [Nat.div_lt_iff_lt_mul (by decide)]
    have : (d + 1) * p ≤ Bs * p := Nat.mul_le_mul_right _ hd
    rw [Nat.add_mul, Nat.one_mul, Nat.mul_comm Bs p] at this
    omega
theorem or_low {p k x y : Nat} (hp : p = 2 ^ k) (hx : x < p) : (p * y) ||| x = p * y + x := by
  subst hp
  rw [Nat.two_pow_add_eq_or_of_lt hx]
theorem or_low' {p k x y : Nat} (hp : p = 2 ^ k) (hx : x < p) : x ||| (p * y) = x + p * y := by
  rw [Nat.or_comm, or_low hp hx, Nat.add_comm]
/-- one digit of a shift to the left -/
theorem shl_digit {p s k c d : Nat} (hp : p = 2 ^ k) (hps : p * s = Bs) (hc : c < p) : c ||| (d * p % Bs) = (c + d * p) % Bs ∧ d * p / Bs = (c + d * p) / Bs := by
  obtain ⟨h1, h2⟩ := shl_or (d := d) hps hc
  refine ⟨?_, h2.symm⟩
  have e : d * p % Bs = p * (d % s) := by rw [← hps, Nat.mul_comm d p, Nat.mul_mod_mul_left]
  rw [h1, e, or_low' hp hc, Nat.add_comm]
/-- one digit of a shift to the right -/
theorem shr_digit {p s k d e : Nat} (hs : s = 2 ^ k) (hps : p * s = Bs) (hp : 0 < p) (hd : d < Bs) : (d / p) ||| (e * s % Bs) = d / p + e * s % Bs := by
  have e1 : e * s % Bs = s * (e % p) := by rw [← hps, Nat.mul_comm p s, Nat.mul_comm e s, Nat.mul_mod_mul_left]
  have hlt : d / p < s := by
    rw [Nat.div_lt_iff_lt_mul hp, Nat.mul_comm, hps]; exact hd
  rw [e1, or_low' hs hlt]
theorem lowL_drop (p s : Nat) : ∀ (m : List Nat) (i : Nat) (h : i < m.length), lowL p s (m.drop i) = (m[i] / p + (m.getD (i + 1) 0 * s) % Bs) :: lowL p s (m.drop (i + 1))
  | m, i, h => by
    rw [List.drop_eq_getElem_cons h]
    show (m[i] / p + ((m.drop (i + 1)).getD 0 0 * s) % Bs) :: lowL p s (m.drop (i + 1)) = _
    rw [List.getD_eq_getElem?_getD, List.getElem?_drop, List.getD_eq_getElem?_getD]
theorem lowL_get {p s : Nat} {m : List Nat} {i : Nat} (h : i < m.length) (h2 : i < (lowL p s m).length) : (lowL p s m)[i] = m[i] / p + (m.getD (i + 1) 0 * s) % Bs := by
  induction m generalizing i with
  | nil => cases h
  | cons d m ih =>
    cases i with
    | zero => rfl
    | succ i =>
      have := ih (i := i) (by simpa using h) (by rw [lowL_len]; simpa using h)
      simpa [lowL] using this
theorem lowL_lim {p s : Nat} (hps : p * s = Bs) (hp : 0 < p) : ∀ {m : List Nat}, LimL m → LimL (lowL p s m)
  | [], _ => nofun
  | d :: m, h => by
    intro x hx
    rcases List.mem_cons.1 hx with rfl | hx
    · have hd := h d (by simp)
      have e1 : m.getD 0 0 * s % Bs = s * (m.getD 0 0 % p) := by rw [← hps, Nat.mul_comm p s, Nat.mul_comm _ s, Nat.mul_mod_mul_left]
      have hlt : d / p < s := by
        rw [Nat.div_lt_iff_lt_mul hp, Nat.mul_comm, hps]; exact hd
      have h2 := Nat.mod_lt (m.getD 0 0) hp
      have h3 : s * (m.getD 0 0 % p + 1) ≤ s * p := Nat.mul_le_mul_left _ h2
      rw [Nat.mul_add, Nat.mul_one, Nat.mul_comm s p, hps] at h3
      rw [e1]; omega
    · exact lowL_lim hps hp (m := m) (fun y hy => h y (List.mem_cons_of_mem _ hy)) x hx
/-- the first difference from the top decides -/
theorem ord_top {a b : List Nat} (hl : a.length = b.length) (ha : LimL a) {i : Nat} (hi : i < a.length) (hi2 : i < b.length) (h : a.drop (i + 1) = b.drop (i + 1)) (hlt : a[i] < b[i]) : valL a < valL b := by
  have e1 : a = a.take i ++ a[i] :: a.drop (i + 1) := by rw [← List.drop_eq_getElem_cons hi, List.take_append_drop]
  have e2 : b = b.take i ++ b[i] :: a.drop (i + 1) := by rw [h, ← List.drop_eq_getElem_cons hi2, List.take_append_drop]
  rw [e1, e2]
  have t1 : (a.take i).length = (b.take i).length := by rw [List.length_take, List.length_take, hl]
  have := top_lt (t := a.drop (i + 1)) t1 (fun d hd => ha d (List.mem_of_mem_take hd)) hlt
  simpa using this
/-- -1, 0 or 1 -/
def cmpN (x y : Nat) : Int := if x < y then -1 else if y < x then 1 else 0
def ordZ (x y : Int) : Int := if x < y then -1 else if y < x then 1 else 0
end Go.Proofs.YtoholjdojdmbkaaGreatDoor
