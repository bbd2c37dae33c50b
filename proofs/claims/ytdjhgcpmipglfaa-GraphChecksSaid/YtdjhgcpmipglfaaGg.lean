/- Distances in a graph, and what a search for them finds: plain lists, no program. No condition. -/
import Derived.Test.YtdjhgcpmipglfaaGf
namespace Go.Proofs.Ytdjhgcpmipglfaa
open Go Go.RowKit Go.Dw

def dn (D : List Int) (x : Int) : Int := D.getD x.toNat (-1)
theorem dn_set {D : List Int} {x y v : Int} (hx : 0 ≤ x) (hl : x.toNat < D.length) (hy : 0 ≤ y) : dn (D.set x.toNat v) y = if y = x then v else dn D y := by
  unfold dn
  rw [List.getD_eq_getElem?_getD, List.getD_eq_getElem?_getD, List.getElem?_set]
  by_cases h : x = y
  · subst h; simp [hl]
  · have : x.toNat ≠ y.toNat := by omega
    simp [this, Ne.symm h]
def cneg (D : List Int) : Nat := (D.filter fun v => decide (v < 0)).length
theorem cneg_set : ∀ {D : List Int} {k : Nat} {u v : Int}, D[k]? = some u → u < 0 → 0 ≤ v → cneg (D.set k v) + 1 = cneg D
  | x :: r, 0, u, v, h, hu, hv => by simp at h; subst h; simp [cneg, hu, show ¬ v < 0 by omega]
  | x :: r, k + 1, u, v, h, hu, hv => by
    have := cneg_set (D := r) (k := k) (by simpa using h) hu hv
    by_cases hx : x < 0 <;> simp [cneg, hx] at * <;> omega
structure Db (N : Nat) (X : List (Int × Int)) (src : Int) (D : List Int) (Q : List Int) (k : Int) (rest : List Int) : Prop where
  len : D.length = N
  q : ∀ x ∈ Q, 0 ≤ x ∧ x < N ∧ dn D k ≤ dn D x
  srt : Q.Pairwise fun x y => dn D x ≤ dn D y
  up : ∀ x : Int, 0 ≤ x → x < N → dn D x ≤ dn D k + 1
  low : ∀ x : Int, 0 ≤ x → x < N → -1 ≤ dn D x
  fnd : ∀ x : Int, 0 ≤ x → x < N → 0 ≤ dn D x → wlk X (dn D x).toNat src x = true
  bnd : ∀ x : Int, 0 ≤ x → x < N → dn D x + cneg D + 1 ≤ N
  s0 : dn D src = 0
  k0 : 0 ≤ k ∧ k < N ∧ 0 ≤ dn D k
  clo : ∀ e ∈ X, 0 ≤ dn D e.1 → e.1 ∈ Q ∨ (0 ≤ dn D e.2 ∧ dn D e.2 ≤ dn D e.1 + 1) ∨ (e.1 = k ∧ e.2 ∈ rest)
  kk : ∀ t ∈ rest, (k, t) ∈ X
theorem Db.init {N : Nat} {X : List (Int × Int)} (hG : Gr N X) {src : Int} (hs : 0 ≤ src ∧ src < N) : Db N X src ((List.replicate N (-1)).set src.toNat 0) [src] src [] := by
  have hl : src.toNat < (List.replicate N (-1 : Int)).length := by simp; omega
  have hv : ∀ x : Int, 0 ≤ x → dn ((List.replicate N (-1)).set src.toNat 0) x = if x = src then 0 else -1 := fun x hx => by
    rw [dn_set hs.1 hl hx]
    split
    · rfl
    · unfold dn; rw [List.getD_eq_getElem?_getD, List.getElem?_replicate]; split <;> rfl
  have hs0 := hv src hs.1
  rw [if_pos rfl] at hs0
  have hc : cneg ((List.replicate N (-1 : Int)).set src.toNat 0) + 1 = N := by
    rw [cneg_set (u := -1) (by rw [List.getElem?_replicate, if_pos (by omega)]) (by omega) (by omega)]
    unfold cneg
    rw [List.filter_eq_self.2 (fun a ha => by rw [List.eq_of_mem_replicate ha]; rfl), List.length_replicate]
  refine ⟨by simp, fun x hx => ?_, by simp, fun x h0 h1 => ?_, fun x h0 h1 => ?_, fun x h0 h1 h2 => ?_, fun x h0 h1 => ?_, hs0, ⟨hs.1, hs.2, by omega⟩, fun e he h => ?_, by simp⟩
  · simp at hx; subst hx; exact ⟨hs.1, hs.2, Int.le_refl _⟩
  · rw [hv x h0, hs0]; split <;> omega
  · rw [hv x h0]; split <;> omega
  · rw [hv x h0] at h2 ⊢
    split at h2
    · rename_i e; subst e; simp [wlk]
    · omega
  · rw [hv x h0]; split <;> omega
  · rw [hv _ (hG.rng e he).1] at h
    split at h
    · rename_i e'; exact .inl (by simp [e'])
    · omega
theorem Db.pop {N : Nat} {X : List (Int × Int)} {src : Int} {D Q : List Int} {k0 h : Int} {n : Nat} (hB : Db N X src D (h :: Q) k0 []) (hn : h = n) : Db N X src D Q h (succs X n) := by
  obtain ⟨h1, h2, h3⟩ := hB.q h (by simp)
  have hs := List.pairwise_cons.1 hB.srt
  have hk := hB.k0
  refine ⟨hB.len, fun x hx => ⟨(hB.q x (by simp [hx])).1, (hB.q x (by simp [hx])).2.1, hs.1 x hx⟩, hs.2, fun x h4 h5 => ?_, hB.low, hB.fnd, hB.bnd, hB.s0, ⟨h1, h2, by omega⟩, fun e he hd => ?_, fun t ht => by rw [hn]; exact mem_succs.1 ht⟩
  · have := hB.up x h4 h5; omega
  · rcases hB.clo e he hd with h4 | h4 | h4
    · rcases List.mem_cons.1 h4 with h5 | h5
      · refine .inr (.inr ⟨h5, mem_succs.2 ?_⟩)
        rw [← hn, ← h5]; exact he
      · exact .inl h5
    · exact .inr (.inl h4)
    · simp at h4
theorem Db.skip {N : Nat} {X : List (Int × Int)} (hG : Gr N X) {src : Int} {D Q : List Int} {k t : Int} {rest : List Int} (hB : Db N X src D Q k (t :: rest)) (ht : 0 ≤ dn D t) : Db N X src D Q k rest := by
  have hr := hG.rng _ (hB.kk t (by simp))
  refine ⟨hB.len, hB.q, hB.srt, hB.up, hB.low, hB.fnd, hB.bnd, hB.s0, hB.k0, fun e he hd => ?_, fun u hu => hB.kk u (by simp [hu])⟩
  rcases hB.clo e he hd with h4 | h4 | ⟨h4, h5⟩
  · exact .inl h4
  · exact .inr (.inl h4)
  · rcases List.mem_cons.1 h5 with h6 | h6
    · refine .inr (.inl ?_)
      rw [h6, h4]; exact ⟨ht, hB.up t hr.2.2.1 hr.2.2.2⟩
    · exact .inr (.inr ⟨h4, h6⟩)
theorem Db.mark {N : Nat} {X : List (Int × Int)} (hG : Gr N X) {src : Int} {D Q : List Int} {k t : Int} {rest : List Int} (hB : Db N X src D Q k (t :: rest)) (ht : dn D t < 0) : Db N X src (D.set t.toNat (dn D k + 1)) (Q ++ [t]) k rest := by
  have hkt := hB.kk t (by simp)
  obtain ⟨_, _, r3, r4⟩ := hG.rng _ hkt
  simp only at r3 r4
  obtain ⟨k1, k2, k3⟩ := hB.k0
  have hl : t.toNat < D.length := by rw [hB.len]; omega
  have hv : ∀ x : Int, 0 ≤ x → dn (D.set t.toNat (dn D k + 1)) x = if x = t then dn D k + 1 else dn D x := fun x hx => dn_set r3 hl hx
  have hkne : k ≠ t := fun e => by rw [e] at k3; omega
  have hk := hv k k1
  rw [if_neg hkne] at hk
  have hc : cneg (D.set t.toNat (dn D k + 1)) + 1 = cneg D := by
    refine cneg_set (u := dn D t) ?_ ht (by omega)
    unfold dn; rw [List.getD_eq_getElem?_getD, List.getElem?_eq_getElem hl]; rfl
  have hsrc : dn (D.set t.toNat (dn D k + 1)) src = 0 := by
    by_cases h0 : 0 ≤ src
    · rw [hv src h0, if_neg (fun e => by have := hB.s0; rw [e] at this; omega)]; exact hB.s0
    · have h1 : src.toNat = 0 := by omega
      have h2 := hB.s0
      unfold dn at h2 ⊢
      rw [h1, List.getD_eq_getElem?_getD] at h2 ⊢
      rw [List.getElem?_set]
      by_cases h3 : t.toNat = 0
      · exfalso
        unfold dn at ht
        rw [h3, List.getD_eq_getElem?_getD, h2] at ht
        omega
      · rw [if_neg h3]; exact h2
  have ne : ∀ x ∈ Q, x ≠ t := fun x hx e => by have := hB.q x hx; rw [e] at this; omega
  refine ⟨by rw [List.length_set]; exact hB.len, fun x hx => ?_, ?_, fun x h0 h1 => ?_, fun x h0 h1 => ?_, fun x h0 h1 h2 => ?_, fun x h0 h1 => ?_, hsrc, ⟨k1, k2, by omega⟩, fun e he hd => ?_, fun u hu => hB.kk u (by simp [hu])⟩
  · rcases List.mem_append.1 hx with h1 | h1
    · have h2 := hB.q x h1
      refine ⟨h2.1, h2.2.1, ?_⟩
      rw [hk, hv x h2.1]; split <;> omega
    · simp at h1; subst h1
      refine ⟨r3, r4, ?_⟩
      rw [hk, hv x r3, if_pos rfl]; omega
  · refine List.pairwise_append.2 ⟨?_, by simp, fun x hx y hy => ?_⟩
    · refine List.Pairwise.imp_of_mem (fun {x y} hx hy h => ?_) hB.srt
      rw [hv x (hB.q x hx).1, hv y (hB.q y hy).1, if_neg (ne x hx), if_neg (ne y hy)]
      exact h
    · simp at hy; subst hy
      rw [hv x (hB.q x hx).1, hv y r3, if_pos rfl, if_neg (ne x hx)]
      exact hB.up x (hB.q x hx).1 (hB.q x hx).2.1
  · rw [hk, hv x h0]; have := hB.up x h0 h1; split <;> omega
  · rw [hv x h0]; have := hB.low x h0 h1; split <;> omega
  · rw [hv x h0] at h2 ⊢
    split
    · rename_i e; subst e
      rw [show (dn D k + 1).toNat = (dn D k).toNat + 1 by omega]
      exact wlk_succ.2 ⟨k, hkt, hB.fnd k k1 k2 k3⟩
    · rename_i e; rw [if_neg e] at h2; exact hB.fnd x h0 h1 h2
  · rw [hv x h0]
    have h2 := hB.bnd x h0 h1
    have h3 := hB.bnd k k1 k2
    split <;> omega
  · have he' := hG.rng e he
    rw [hv e.1 he'.1] at hd
    by_cases hx : e.1 = t
    · exact .inl (by simp [hx])
    · rw [if_neg hx] at hd
      rcases hB.clo e he hd with h1 | h1 | ⟨h1, h2⟩
      · exact .inl (by simp [h1])
      · refine .inr (.inl ?_)
        rw [hv e.2 he'.2.2.1, hv e.1 he'.1, if_neg hx]
        split
        · rename_i e2; rw [e2] at h1; omega
        · exact h1
      · rcases List.mem_cons.1 h2 with h3 | h3
        · refine .inr (.inl ?_)
          rw [hv e.2 he'.2.2.1, if_pos h3, hv e.1 he'.1, if_neg hx, h1]; omega
        · exact .inr (.inr ⟨h1, h3⟩)
def dz : Option Nat → Int
  | none => -1
  | some s => s
def dstL (N : Nat) (X : List (Int × Int)) (src : Int) : List Int := (List.range N).map fun (k : Nat) => dz (dst N X src k)
theorem Db.fin {N : Nat} {X : List (Int × Int)} {src : Int} {D : List Int} {k : Int} (hB : Db N X src D [] k []) : D = dstL N X src := by
  have lowr : ∀ s (x : Int), wlk X s src x = true → 0 ≤ dn D x ∧ dn D x ≤ s := by
    intro s
    induction s with
    | zero => intro x h; simp only [wlk, beq_iff_eq] at h; subst h; have := hB.s0; omega
    | succ s ih =>
      intro x h
      obtain ⟨c, h1, h2⟩ := wlk_succ.1 h
      obtain ⟨h3, h4⟩ := ih c h2
      rcases hB.clo _ h1 h3 with h5 | h5 | ⟨_, h5⟩
      · cases h5
      · simp only at h5; omega
      · cases h5
  apply List.ext_getElem
  · simp [dstL, hB.len]
  · intro i h1 h2
    have hi : i < N := by rw [← hB.len]; exact h1
    simp only [dstL, List.getElem_map, List.getElem_range]
    have e1 : D[i] = dn D i := by simp [dn, h1]
    rw [e1]
    by_cases h0 : 0 ≤ dn D i
    · have hw := hB.fnd i (by omega) (by omega) h0
      have hb := hB.bnd i (by omega) (by omega)
      obtain ⟨t, ht⟩ := least_ex (p := fun s => wlk X s src i) (n := N) (s := (dn D i).toNat) (by omega) hw
      have ht' := least_some ht
      have hl := lowr t i ht'.2.1
      have : ¬ (dn D i).toNat < t := fun h => by have := ht'.2.2 _ h; rw [hw] at this; cases this
      unfold dst
      rw [ht]
      simp only [dz]
      omega
    · have hlo := hB.low i (by omega) (by omega)
      have : dst N X src i = none := by
        cases hd : dst N X src i with
        | none => rfl
        | some s => have := lowr s i (least_some hd).2.1; omega
      rw [this]
      simp only [dz]; omega
/-- a walk, turned round -/
theorem wlk_flip {E F : List (Int × Int)} (h : ∀ e, e ∈ F ↔ flip e ∈ E) : ∀ (s : Nat) (a b : Int), wlk F s a b = true → wlk E s b a = true
  | 0, a, b, hw => by simp only [wlk, beq_iff_eq] at hw ⊢; exact hw.symm
  | s + 1, a, b, hw => by
    obtain ⟨c, h1, h2⟩ := wlk_succ.1 hw
    have h3 := wlk_flip h s a c h2
    have h4 : (b, c) ∈ E := (h (c, b)).1 h1
    have h5 : wlk E 1 b c = true := wlk_succ.2 ⟨b, h4, by simp [wlk]⟩
    have := wlk_add h5 h3
    rw [Nat.add_comm] at this
    exact this
theorem sortF_mem {L : List (Int × Int)} {x : Int × Int} : x ∈ sortF L ↔ x ∈ L := List.Perm.mem_iff (List.mergeSort_perm _ _)
theorem revF_mem {E : List (Int × Int)} {e : Int × Int} : e ∈ revF E ↔ flip e ∈ E := by
  unfold revF
  rw [sortF_mem, List.mem_map]
  constructor
  · rintro ⟨x, h, rfl⟩; exact h
  · intro h; exact ⟨_, h, rfl⟩
theorem revF_gr {N : Nat} {E : List (Int × Int)} (hG : Gr N E) : Gr N (revF E) := by
  refine ⟨hG.hN, fun e he => ?_, by unfold revF; rw [sortF_len, List.length_map]; exact hG.len⟩
  have := hG.rng _ (revF_mem.1 he)
  simp only [flip] at this
  omega
theorem dst_flip {N : Nat} {E : List (Int × Int)} (a b : Int) : dst N (revF E) a b = dst N E b a := by
  unfold dst
  congr 1
  funext s
  rw [Bool.eq_iff_iff]
  constructor
  · exact wlk_flip (fun e => revF_mem) s a b
  · refine wlk_flip (fun e => ?_) s b a
    rw [revF_mem]; rfl
/-- the distances to b -/
def farF (N : Nat) (E : List (Int × Int)) (b : Int) : List Int := (List.range N).map fun (k : Nat) => dz (dst N E k b)
theorem farF_eq {N : Nat} {E : List (Int × Int)} (b : Int) : dstL N (revF E) b = farF N E b := by
  unfold dstL farF
  apply List.map_congr_left
  intro k _
  rw [dst_flip]
end Go.Proofs.Ytdjhgcpmipglfaa
