/- Contract of the graph's path; what a path is, in plain lists. Its premises are its own. -/
import Derived.Test.YtdjhgcpmipglfaaGh
namespace Go.Proofs.Ytdjhgcpmipglfaa
open Go Go.RowKit Go.Dw

theorem dst_some {N : Nat} {E : List (Int × Int)} {a b : Int} {s : Nat} (h : dst N E a b = some s) : s < N ∧ wlk E s a b = true ∧ ∀ t, t < s → wlk E t a b = false := least_some h
theorem dst_of {N : Nat} {E : List (Int × Int)} (hG : Gr N E) {a b : Int} (ha : 0 ≤ a ∧ a < N) {s : Nat} (h : wlk E s a b = true) (hm : ∀ t, t < s → wlk E t a b = false) : dst N E a b = some s := by
  have hr := (rch_iff hG ha).2 ⟨s, h⟩
  unfold rch at hr
  obtain ⟨t, ht⟩ := Option.isSome_iff_exists.1 hr
  obtain ⟨_, h2, h3⟩ := dst_some ht
  rw [ht]
  congr 1
  have c1 : ¬ t < s := fun h4 => by rw [hm t h4] at h2; cases h2
  have c2 : ¬ s < t := fun h4 => by rw [h3 s h4] at h; cases h
  omega
theorem dst_self {N : Nat} {E : List (Int × Int)} (hG : Gr N E) {a : Int} (ha : 0 ≤ a ∧ a < N) : dst N E a a = some 0 := dst_of hG ha (by simp [wlk]) (fun t h => by omega)
theorem dst_zero {N : Nat} {E : List (Int × Int)} {a b : Int} (h : dst N E a b = some 0) : a = b := by
  have := (dst_some h).2.1
  simpa [wlk] using this
theorem find_hit {α : Type} {p : α → Bool} : ∀ {L : List α} {j : Nat} (h : j < L.length), (∀ t ∈ L.take j, p t = false) → p L[j] = true → L.find? p = some L[j]
  | x :: r, 0, _, _, e => List.find?_cons_of_pos e
  | x :: r, j + 1, h, hn, e => by
    rw [List.find?_cons_of_neg (by rw [hn x (by simp)]; simp)]
    exact find_hit (L := r) (j := j) (by simpa using h) (fun t ht => hn t (by simp [ht])) e
/-- one step nearer -/
def near (N : Nat) (E : List (Int × Int)) (b : Int) (k : Int) (t : Int) : Bool := decide (dz (dst N E t b) = dz (dst N E k b) - 1)
def stp (N : Nat) (E : List (Int × Int)) (b : Int) (k : Int) : Int := ((succs E k.toNat).find? (near N E b k)).getD k
theorem near_ex {N : Nat} {E : List (Int × Int)} (hG : Gr N E) {k b : Int} (hk : 0 ≤ k ∧ k < N) {s : Nat} (h : dst N E k b = some (s + 1)) : ∃ t ∈ succs E k.toNat, near N E b k t = true := by
  obtain ⟨_, h2, h3⟩ := dst_some h
  obtain ⟨c, h4, h5⟩ := wlk_split (s := 1) (t := s) (by rw [Nat.add_comm]; exact h2)
  obtain ⟨d, h6, h7⟩ := wlk_succ.1 h4
  have h8 : k = d := by simpa [wlk] using h7
  subst h8
  have hc := hG.rng _ h6
  refine ⟨c, mem_succs.2 (by rw [Int.toNat_of_nonneg hk.1]; exact h6), ?_⟩
  have hd : dst N E c b = some s := dst_of hG ⟨hc.2.2.1, hc.2.2.2⟩ h5 (fun t ht => by
    cases hw : wlk E t c b with
    | false => rfl
    | true =>
      have := wlk_add h4 hw
      rw [Nat.add_comm, h3 (t + 1) (by omega)] at this
      cases this)
  unfold near
  rw [h, hd]
  simp [dz]
theorem near_dst {N : Nat} {E : List (Int × Int)} {k b t : Int} {s : Nat} (h : dst N E k b = some (s + 1)) (hn : near N E b k t = true) : dst N E t b = some s := by
  unfold near at hn
  rw [h] at hn
  cases hd : dst N E t b with
  | none => rw [hd] at hn; simp [dz] at hn <;> omega
  | some u => rw [hd] at hn; simp [dz] at hn; congr 1 <;> omega
/-- the path of s steps from k to b -/
def pth (N : Nat) (E : List (Int × Int)) (b : Int) : Nat → Int → List Int
  | 0, k => [k]
  | s + 1, k => k :: pth N E b s (stp N E b k)
theorem pth_len (N : Nat) (E : List (Int × Int)) (b : Int) : ∀ (s : Nat) (k : Int), (pth N E b s k).length = s + 1
  | 0, k => rfl
  | s + 1, k => by simp [pth, pth_len N E b s]
theorem pth_cons (N : Nat) (E : List (Int × Int)) (b : Int) (s : Nat) (k : Int) : pth N E b s k = k :: (pth N E b s k).tail := by cases s <;> rfl
def pathF (N : Nat) (E : List (Int × Int)) (a b : Int) : List Int := match dst N E a b with | none => [] | some s => pth N E b s a
theorem farF_get {N : Nat} {E : List (Int × Int)} {b x : Int} (hx : 0 ≤ x ∧ x < N) (h : x.toNat < (farF N E b).length) : (farF N E b)[x.toNat] = dz (dst N E x b) := by
  simp only [farF, List.getElem_map, List.getElem_range]
  rw [Int.toNat_of_nonneg hx.1]

theorem path_spec {a : Option Addr} {n c : Nat} {E : List (Int × Int)} (N : Nat) (x y : Int) (w : World) (hL : Sl (encF fE) 2 (Hp.whole w) a n c E) (hG : Gr N E) (hx : 0 ≤ x ∧ x < N) (hy : 0 ≤ y ∧ y < N) :
    CallsE Try.prog 78 #[gv N a n c, .int .i64 x, .int .i64 y] w (Ret w fun v cs => ∃ o : Dw.Os, v = o.v ∧ cs = [.hp o.h] ∧ OwnO fI 3 1 o (pathF N E x y) ∧ (o.a = none ↔ dst N E x y = none)) := by
  have hN := hG.hN
  refine enter (X := cx 55) (cxg _) (args := [.agg #[.int .i64 N, .slice a n c], .int .i64 x, .int .i64 y]) [.tmp 6] Try.func78 rfl rfl rfl rfl rfl ?_
  intro b
  refine NeedD.by_order (cxg _) (.take 0 <| .take 1 <| .take 3 <| .run 2 <| .run 4 <| .take 5 <| .take 6 <| .done) (by kernel_rfl) ?_
  refine call (fun w' hm => distances_spec N y w' (hL.mono (encF_mono _) (hm 0 _ rfl)) hG hy) ?_
  rintro _ _ ⟨o1, rfl, rfl, hf⟩
  have hfs := OwnO.sl (f := fI) (fun _ => rfl) (by decide) hf
  have hfl : (farF N E y).length = N := by simp [farF]
  refine ⟨(by repeat first | exact trivial | refine ⟨.inl rfl, ?_⟩ | refine ⟨.inr rfl, ?_⟩), ?_⟩
  refine call (fun w' hm => next_spec N w' (hL.mono (encF_mono _) (hm 0 _ rfl)) hG) ?_
  rintro _ _ ⟨a2, c2, hh, rfl, rfl, hXs⟩
  refine ⟨(by repeat first | exact trivial | refine ⟨.inl rfl, ?_⟩ | refine ⟨.inr rfl, ?_⟩), ?_⟩
  have hxl : x.toNat < (farF N E y).length := by omega
  refine idx (cxg _) (e := 3) rfl hfs x.toNat (by omega) hxl (fun b o cs hcs hR hcell => ?_)
  subst hR
  refine ld1 (cxg _) (i := 2) rfl (hcell 0 _ rfl) rfl ?_
  rw [farF_get hx hxl]
  refine bsplitd (fun hneg => ?_) (fun hpos => ?_)
  · have hd : dst N E x y = none := by
      cases h : dst N E x y with
      | none => rfl
      | some s => rw [h] at hneg; simp [dz] at hneg; omega
    refine ⟨[.hp Hp.emp], ⟨Os.nil, rfl, rfl, ?_, by rw [hd]; exact ⟨fun _ => rfl, fun _ => rfl⟩⟩, fun w' h => (h.pick [0] rfl rfl).emp⟩
    unfold pathF; rw [hd]; exact OwnO.nil _ _ _
  obtain ⟨s0, hs0⟩ : ∃ s, dst N E x y = some s := by
    cases h : dst N E x y with
    | none => rw [h] at hpos; simp [dz] at hpos
    | some s => exact ⟨s, rfl⟩
  have htot : pathF N E x y = pth N E y s0 x := by unfold pathF; rw [hs0]
  intro b4
  have hq0 : OwnO fI 3 1 ⟨some ⟨b4, 0, none⟩, 1, 1, (Ch.box b4 [.int .i64 x] 3).h⟩ [x] := OwnO.box (fun _ => rfl) [x] rfl rfl (by simp)
  refine NeedL.mk (Nat × Int × Dw.Os × List Int) (fun g => [(2, .v (.int .i64 y)), (7, .v o1.v), (8, .v (.slice a2 N c2)), (9, .v g.2.2.1.v), (10, .v (.int .i64 g.2.1))]) (fun g => [.hp (Hp.whole w), .hp o1.h, .hp hh, .hp g.2.2.1.h])
    (fun g => 0 ≤ g.2.1 ∧ g.2.1 < N ∧ dst N E g.2.1 y = some g.1 ∧ OwnO fI 3 1 g.2.2.1 g.2.2.2 ∧ g.2.2.2 ++ (pth N E y g.1 g.2.1).tail = pathF N E x y) (fun g => g.1) (s0, x, ⟨some ⟨b4, 0, none⟩, 1, 1, (Ch.box b4 [.int .i64 x] 3).h⟩, [x])
    ⟨hx.1, hx.2, hs0, hq0, by dsimp only; rw [htot]; exact (pth_cons _ _ _ _ _).symm⟩ (Ent.mk (fun _ _ h => Ok.same (s := [.hp (Hp.whole w), .hp o1.h, .hp hh, .box b4 [.int .i64 x] 3]) (i := 3) (c := .box b4 [.int .i64 x] 3) (d := .hp (Ch.box b4 [.int .i64 x] 3).h) rfl rfl (h.pick [0, 2, 3, 4] rfl rfl)) rfl rfl) ?_
  clear hq0
  rintro ⟨s, k, o2, P⟩ ⟨hk0, hk1, hd, ho2, hP⟩
  dsimp only at *
  have hPl : P.length ≤ s0 + 1 := by
    have := congrArg List.length hP
    rw [htot, pth_len, List.length_append] at this
    omega
  have hs0N := (dst_some hs0).1
  refine bsplitd (fun hne => ?_) (fun heq => ?_)
  · cases s with
    | zero => exact absurd (dst_zero hd) hne
    | succ s =>
    obtain ⟨v, rfl⟩ : ∃ v : Nat, k = v := ⟨_, (Int.toNat_of_nonneg hk0).symm⟩
    obtain ⟨t0, ht0, hn0⟩ := near_ex hG ⟨hk0, hk1⟩ hd
    rw [Int.toNat_natCast] at ht0
    have hvN : v < (nextF N E).length := by simp [nextF]; omega
    refine idx (cxg _) (e := 42) rfl hXs v rfl hvN (fun b o cs hcs hR hcell => ?_)
    obtain ⟨a3, n3, c3, rfl, hs3⟩ := hR
    refine ld1 (cxg _) (i := 2) rfl (hcell 0 _ rfl) rfl ?_
    have hrow : (nextF N E)[v] = succs E v := by simp [nextF]
    rw [hrow] at hs3
    have hn3 := hs3.len
    have hsl : (succs E v).length ≤ 10000 := by
      have := hG.len
      simp only [succs, List.length_map]
      exact Nat.le_trans (List.length_filter_le _ _) this
    refine NeedL.mk Nat (fun j => [(2, .v (.int .i64 y)), (7, .v o1.v), (8, .v (.slice a2 N c2)), (9, .v o2.v), (10, .v (.int .i64 v)), (36, .v (.slice a3 n3 c3)), (37, .v (.int .i64 n3)), (38, .v (.int .i64 j))]) (fun _ => [.hp (Hp.whole w), .hp o1.h, .hp hh, .hp o2.h])
      (fun j => j ≤ n3 ∧ ∀ t ∈ (succs E v).take j, near N E y v t = false) (fun j => n3 - j) 0 ⟨Nat.zero_le _, by simp⟩ (Ent.mk (fun _ _ h => h) rfl rfl) ?_
    rintro j ⟨hj, hno⟩
    refine bsplitd (fun hlt => ?_) (fun hge => ?_)
    · have hlt' : j < (succs E v).length := by omega
      refine idx (cxg _) (e := 3) rfl hs3 j rfl hlt' (fun b o cs hcs hR hcell => ?_)
      subst hR
      refine ld1 (cxg _) (i := 2) rfl (hcell 0 _ rfl) rfl ?_
      obtain ⟨_, _, h3, h4⟩ := hG.rng _ (mem_succs.1 (List.getElem_mem hlt'))
      dsimp only at h3 h4
      have ht : (succs E v)[j].toNat < (farF N E y).length := by omega
      have hv : (v : Int).toNat < (farF N E y).length := by omega
      refine NeedD.by_order (cxg _) (.take 0 <| .take 1 <| .take 2 <| .take 3 <| .take 4 <| .take 5 <| .take 6 <| .take 7 <| .take 8 <| .take 9 <| .done) (by kernel_rfl) ?_
      refine idx (cxg _) (e := 3) rfl hfs (succs E v)[j].toNat (by omega) ht (fun b o cs hcs hR hcell => ?_)
      subst hR
      refine ld1 (cxg _) (i := 1) rfl (hcell 0 _ rfl) rfl ?_
      refine idx (cxg _) (e := 3) rfl hfs (v : Int).toNat (by omega) hv (fun b o cs hcs hR hcell => ?_)
      subst hR
      refine ld1 (cxg _) (i := 1) rfl (hcell 0 _ rfl) rfl ?_
      rw [farF_get ⟨h3, h4⟩ ht, farF_get ⟨hk0, hk1⟩ hv]
      have hsN := (dst_some hd).1
      have hdz : dz (dst N E v y) = (s : Int) + 1 := by rw [hd]; rfl
      refine nw (by omega) (by omega) ?_
      refine bsplitd (fun hb => ?_) (fun hb => ?_)
      · have hnr : near N E y v (succs E v)[j] = true := decide_eq_true hb
        have hst : stp N E y v = (succs E v)[j] := by
          unfold stp
          rw [Int.toNat_natCast, find_hit hlt' hno hnr]
          rfl
        intro b5
        refine appO (cxg _) (e := 3) rfl (i := 3) rfl ho2 (j := 4) (succs E v)[j] rfl rfl rfl rfl (by omega) (fun o' ho' => ?_)
        refine ⟨(s, (succs E v)[j], o', P ++ [(succs E v)[j]]), ⟨h3, h4, near_dst hd hnr, ho', ?_⟩, Nat.lt_succ_self _, Ent.mk (fun _ _ h => h.pick [0, 1, 2, 3] rfl rfl) rfl rfl⟩
        dsimp only
        rw [← hP, pth, hst, List.tail_cons, pth_cons N E y s (succs E v)[j]]
        simp
      · refine nw (by omega) (by omega) ?_
        refine ⟨j + 1, ⟨by omega, ?_⟩, by omega, Ent.mk (fun _ _ h => h) rfl rfl⟩
        exact take_all_step hlt' hno (decide_eq_false hb)
    · rw [List.take_of_length_le (by omega)] at hno
      rw [hno t0 ht0] at hn0; cases hn0
  · have heq : k = y := Decidable.not_not.1 heq
    subst heq
    rw [dst_self hG ⟨hk0, hk1⟩] at hd
    cases hd
    refine ⟨[.hp o2.h], ⟨o2, rfl, rfl, ?_, ?_⟩, fun w' h => h.pick [0, 3] rfl rfl⟩
    · rw [← hP]; simpa [pth] using ho2
    · rw [hs0]
      refine ⟨fun hn => ?_, fun h => by cases h⟩
      have := ho2.nilAddr hn
      subst this
      rw [htot] at hP
      have := congrArg List.length hP
      rw [pth_len] at this
      simp [pth] at this
end Go.Proofs.Ytdjhgcpmipglfaa
