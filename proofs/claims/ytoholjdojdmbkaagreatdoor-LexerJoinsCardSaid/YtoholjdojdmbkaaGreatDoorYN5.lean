/- What Join returns, off kinds and texts; contracts of its comparisons and of the model's alike. Each theorem's premises are its own. -/
import Derived.Test.YtoholjdojdmbkaaGreatDoorXT
import Derived.Test.YtoholjdojdmbkaaGreatDoorYN2
import Derived.Test.YtoholjdojdmbkaaGreatDoorYKi
import Derived.Test.YtoholjdojdmbkaaGreatDoorXQ
namespace Go.Proofs.YtoholjdojdmbkaaGreatDoor
open Go Go.RowKit Go.Dw
abbrev TokZ := Int × Byts × Int × Int
def fTz (t : TokZ) : List Value := [.int .i64 t.1, .string (bs t.2.1), .int .i64 t.2.2.1, .int .i64 t.2.2.2]
def toZ (t : Tok) : TokZ := (t.1, t.2.1, (t.2.2.1 : Int), (t.2.2.2 : Int))
def kz (t : TokZ) : KT := (t.1, t.2.1)
theorem kz_toZ (t : Tok) : kz (toZ t) = ktF t := rfl
theorem map_kz (L : List Tok) : (L.map toZ).map kz = L.map ktF := by rw [List.map_map]; rfl
theorem slZ {h : Hp} {a : Option Addr} {n c : Nat} {L : List Tok} (hs : Sl (encF fT) 4 h a n c L) : Sl (encF fTz) 4 h a n c (L.map toZ) := by
  refine ⟨by rw [List.length_map]; exact hs.len, hs.cap, fun i hi => ?_⟩
  have hi' : i < L.length := by simpa using hi
  obtain ⟨b, off, cs, h1, h2, h3, h4⟩ := hs.cells i hi'
  refine ⟨b, off, cs, h1, h2, ?_, h4⟩
  have h3 : cs = fT L[i] := h3
  show cs = fTz (L.map toZ)[i]
  rw [List.getElem_map]
  exact h3
def keptK (l : List KT) : List KT := l.filter fun t => !decide (t.1 = 5)
def badK (t : KT) : Bool := decide (t.1 = 3) && t.2.any fun c => decide (badC c)
def jonK (l : List KT) : Byts × Int :=
  if (keptK l).any badK = true then ([], 3)
  else if (scaF (joinB ((keptK l).map kxF))).2.2.2 = 0 ∧ ((scaF (joinB ((keptK l).map kxF))).1.dropLast.map ktF = keptK l) then (joinB ((keptK l).map kxF), 0)
  else ([], 3)
theorem kept_map (l : List Tok) : (keptF l).map ktF = keptK (l.map ktF) := by
  unfold keptF keptK
  induction l with
  | nil => rfl
  | cons t l ih =>
    rw [List.map_cons, List.filter_cons, List.filter_cons]
    by_cases h : t.1 = 5
    · rw [if_neg (by simp [h]), if_neg (by simp [ktF, h])]; exact ih
    · rw [if_pos (by simp [h]), if_pos (by simp [ktF, h]), List.map_cons, ih]
theorem jonF_K (l : List Tok) : jonF l = jonK (l.map ktF) := by
  unfold jonF jonK
  rw [← kept_map]
  have e1 : (keptF l).any badT = ((keptF l).map ktF).any badK := by rw [List.any_map]; rfl
  have e2 : ((keptF l).map fun t => txF t.1 t.2.1) = ((keptF l).map ktF).map kxF := by rw [List.map_map]; rfl
  rw [e1, e2]
theorem joinEq_spec (x y : TokZ) (w : World) : CallsE Tryz.prog 67 #[.agg #[.int .i64 x.1, .string (bs x.2.1), .int .i64 x.2.2.1, .int .i64 x.2.2.2], .agg #[.int .i64 y.1, .string (bs y.2.1), .int .i64 y.2.2.1, .int .i64 y.2.2.2]] w (RetV w (.bool (decide (kz x = kz y)))) := by
  have hd : decide (kz x = kz y) = (decide (x.1 = y.1) && decide (x.2.1 = y.2.1)) := by
    unfold kz
    rw [Bool.eq_iff_iff, Bool.and_eq_true, decide_eq_true_eq, decide_eq_true_eq, decide_eq_true_eq, Prod.mk.injEq]
  rw [hd]
  refine enter (X := cx 17) (cxg _) (args := [.agg #[.int .i64 x.1, .string (bs x.2.1), .int .i64 x.2.2.1, .int .i64 x.2.2.2], .agg #[.int .i64 y.1, .string (bs y.2.1), .int .i64 y.2.2.1, .int .i64 y.2.2.2]]) [.tmp 4] Tryz.func67 rfl rfl rfl rfl rfl ?_
  intro b2 b3
  refine bsplitd (fun h1 => ?_) (fun h1 => ?_)
  · refine qEqL ?_
    rw [decide_eq_true (show x.1 = y.1 from h1), Bool.true_and]
    exact ⟨[], ⟨rfl, rfl⟩, fun w' h => h.pick [0] rfl rfl⟩
  · rw [decide_eq_false (show ¬ x.1 = y.1 from h1), Bool.false_and]
    exact ⟨[], ⟨rfl, rfl⟩, fun w' h => h.pick [0] rfl rfl⟩
theorem equalTok_spec {A B : List TokZ} {a1 a2 : Option Addr} {n1 c1 n2 c2 : Nat} (w : World) (h1 : Sl (encF fTz) 4 (Hp.whole w) a1 n1 c1 A) (h2 : Sl (encF fTz) 4 (Hp.whole w) a2 n2 c2 B) (hl : A.length < 1000000) :
    CallsE Tryz.prog 66 #[.slice a1 n1 c1, .slice a2 n2 c2, .func (.func 67) #[] #[]] w (RetV w (.bool (decide (A.map kz = B.map kz)))) := by
  have hn1 := h1.len
  have hn2 := h2.len
  refine enter (X := cx 32) (cxg _) (args := [.slice a1 n1 c1, .slice a2 n2 c2, .func (.func 67) #[] #[]]) [.tmp 6] Tryz.func66 rfl rfl rfl rfl rfl ?_
  refine bsplitd (fun h3 => ?_) (fun h3 => ?_)
  · exact ⟨[], ⟨by rw [decide_eq_false (fun e => h3 (by have := congrArg List.length e; rw [List.length_map, List.length_map] at this; omega))], rfl⟩, fun w' h => h.pick [0] rfl rfl⟩
  have hll : A.length = B.length := by omega
  refine NeedL.mk Nat (fun k => [(1, .v (.slice a2 n2 c2)), (2, .v (.func (.func 67) #[] #[])), (15, .v (.slice a1 n1 c1)), (16, .v (.int .i64 n1)), (17, .v (.int .i64 k))]) (fun _ => [.hp (Hp.whole w)])
    (fun k => k ≤ A.length ∧ ∀ i (hi : i < A.length) (hj : i < B.length), i < k → kz A[i] = kz B[i]) (fun k => A.length - k) 0 ⟨Nat.zero_le _, fun i _ _ hk => absurd hk (Nat.not_lt_zero _)⟩ (Ent.mk (fun _ _ h => h) rfl rfl) ?_
  rintro k ⟨hk, ha⟩
  dsimp only at *
  refine hidWP (fun q' hq' => ?_)
  refine bsplitd (fun h4 => ?_) (fun h4 => ?_)
  · have hk1 : k < A.length := by omega
    have hk2 : k < B.length := by omega
    refine idx (cxg _) (e := 32) rfl h1 k rfl hk1 (fun b9 o9 cs hcs hR hcell => ?_)
    subst hR
    refine ldn (cxg _) (i := 0) rfl hcell rfl ?_
    intro b8
    refine idx (cxg _) (e := 32) rfl h2 k rfl hk2 (fun b9 o9 cs hcs hR hcell => ?_)
    subst hR
    refine ldn (cxg _) (i := 0) rfl hcell rfl ?_
    intro b9
    obtain ⟨x, hx⟩ : ∃ x, x = A[k] := ⟨_, rfl⟩
    obtain ⟨y, hy⟩ : ∃ y, y = B[k] := ⟨_, rfl⟩
    rw [← hx, ← hy]
    refine callV _ (fun w' hm => joinEq_spec x y w') ?_
    rw [hx, hy]
    refine bsplit (fun h5 => ?_) (fun h5 => ?_)
    · have h5 : ¬ kz A[k] = kz B[k] := by simpa using h5
      refine hq' _ _ _ ?_
      exact ⟨[], ⟨by rw [decide_eq_false (fun e => h5 (by have h6 : (A.map kz)[k]? = (B.map kz)[k]? := by rw [e]
                                                          rw [List.getElem?_map, List.getElem?_map, List.getElem?_eq_getElem hk1, List.getElem?_eq_getElem hk2] at h6; exact Option.some.inj h6))], rfl⟩, fun w' h => h.pick [0] rfl rfl⟩
    · have h5 : kz A[k] = kz B[k] := by simpa using h5
      refine nw (by omega) (by omega) ?_
      refine hq' _ _ _ ?_
      exact ⟨k + 1, ⟨by omega, fun i hi hj hik => by
        rcases Nat.lt_or_ge i k with g | g
        · exact ha i hi hj g
        · have : i = k := by omega
          subst this; exact h5⟩, by omega, Ent.mk (fun _ _ h => h.pick [0] rfl rfl) rfl rfl⟩
  · refine hq' _ _ _ ?_
    have : A.map kz = B.map kz := List.ext_getElem (by rw [List.length_map, List.length_map]; exact hll) fun i hi hj => by
      have hi2 : i < A.length := by simpa using hi
      rw [List.getElem_map, List.getElem_map]; exact ha i hi2 (by simpa using hj) (by omega)
    exact ⟨[], ⟨by rw [decide_eq_true this], rfl⟩, fun w' h => h.pick [0] rfl rfl⟩
set_option maxRecDepth 10000 in
theorem alike35_spec {A B : List TokZ} {a1 a2 : Option Addr} {n1 c1 n2 c2 : Nat} (w : World) (h1 : Sl (encF fTz) 4 (Hp.whole w) a1 n1 c1 A) (h2 : Sl (encF fTz) 4 (Hp.whole w) a2 n2 c2 B) (hl : A.length < 1000000) :
    CallsE Tryz.prog 34 #[.slice a1 n1 c1, .slice a2 n2 c2] w (RetV w (.bool (decide (A.map kz = B.map kz)))) := by
  have hn1 := h1.len
  have hn2 := h2.len
  refine enter (X := cx 41) (cxg _) (args := [.slice a1 n1 c1, .slice a2 n2 c2]) [.tmp 4] Tryz.func34 rfl rfl rfl rfl rfl ?_
  refine bsplitd (fun h3 => ?_) (fun h3 => ?_)
  · exact ⟨[], ⟨by rw [decide_eq_false (fun e => h3 (by have := congrArg List.length e; rw [List.length_map, List.length_map] at this; omega))], rfl⟩, fun w' h => h.pick [0] rfl rfl⟩
  have hll : A.length = B.length := by omega
  refine NeedL.mk Nat (fun k => [(0, .v (.slice a1 n1 c1)), (1, .v (.slice a2 n2 c2)), (5, .v (.int .i64 k))]) (fun _ => [.hp (Hp.whole w)])
    (fun k => k ≤ A.length ∧ ∀ i (hi : i < A.length) (hj : i < B.length), i < k → kz A[i] = kz B[i]) (fun k => A.length - k) 0 ⟨Nat.zero_le _, fun i _ _ hk => absurd hk (Nat.not_lt_zero _)⟩ (Ent.mk (fun _ _ h => h) rfl rfl) ?_
  rintro k ⟨hk, ha⟩
  dsimp only at *
  refine hidWP (fun q' hq' => ?_)
  refine bsplitd (fun h4 => ?_) (fun h4 => ?_)
  · have hk1 : k < A.length := by omega
    have hk2 : k < B.length := by omega
    have hno : ∀ h5 : ¬ kz A[k] = kz B[k], A.map kz ≠ B.map kz := fun h5 e => h5 (by
      have h6 : (A.map kz)[k]? = (B.map kz)[k]? := by rw [e]
      rw [List.getElem?_map, List.getElem?_map, List.getElem?_eq_getElem hk1, List.getElem?_eq_getElem hk2] at h6; exact Option.some.inj h6)
    refine NeedD.by_order (cxg _) (.take 0 <| .take 1 <| .take 2 <| .take 3 <| .take 4 <| .take 5 <| .take 6 <| .take 7 <| .take 8 <| .take 9 <| .take 10 <| .take 11 <| .take 12 <| .take 13 <| .take 14 <| .take 15 <| .take 16 <| .take 17 <| .take 18 <| .take 19 <| .take 20 <| .take 21 <| .take 22 <| .take 23 <| .done) (by kernel_rfl) ?_
    refine idx (cxg _) (e := 32) rfl h1 k rfl hk1 (fun b9 o9 cs hcs hR hcell => ?_)
    subst hR
    refine ld1 (cxg _) (i := 0) rfl (hcell 0 _ rfl) rfl ?_
    refine idx (cxg _) (e := 32) rfl h2 k rfl hk2 (fun b9 o9 cs hcs hR hcell => ?_)
    subst hR
    refine ld1 (cxg _) (i := 0) rfl (hcell 0 _ rfl) rfl ?_
    refine bsplitd (fun h5 => ?_) (fun h5 => ?_)
    · refine hq' _ _ _ ?_
      exact ⟨[], ⟨by rw [decide_eq_false (hno fun e => h5 (by have e2 := congrArg (fun z : KT => z.1) e; exact e2))], rfl⟩, fun w' h => h.pick [0] rfl rfl⟩
    · have h5 : A[k].1 = B[k].1 := Classical.not_not.1 h5
      refine idx (cxg _) (e := 32) rfl h1 k rfl hk1 (fun b9 o9 cs hcs hR hcell => ?_)
      subst hR
      refine ld1 (cxg _) (i := 0) rfl (hcell 1 _ rfl) rfl ?_
      refine idx (cxg _) (e := 32) rfl h2 k rfl hk2 (fun b9 o9 cs hcs hR hcell => ?_)
      subst hR
      refine ld1 (cxg _) (i := 0) rfl (hcell 1 _ rfl) rfl ?_
      refine qNeL ?_
      refine bsplitd (fun h6 => ?_) (fun h6 => ?_)
      · refine hq' _ _ _ ?_
        exact ⟨[], ⟨by rw [decide_eq_false (hno fun e => h6 (by have e2 := congrArg (fun z : KT => z.2) e; exact e2))], rfl⟩, fun w' h => h.pick [0] rfl rfl⟩
      · have h6 : A[k].2.1 = B[k].2.1 := Classical.not_not.1 h6
        refine nw (by omega) (by omega) ?_
        refine hq' _ _ _ ?_
        exact ⟨k + 1, ⟨by omega, fun i hi hj hik => by
          rcases Nat.lt_or_ge i k with g | g
          · exact ha i hi hj g
          · have : i = k := by omega
            subst this; exact Prod.ext h5 h6⟩, by omega, Ent.mk (fun _ _ h => h) rfl rfl⟩
  · refine hq' _ _ _ ?_
    have : A.map kz = B.map kz := List.ext_getElem (by rw [List.length_map, List.length_map]; exact hll) fun i hi hj => by
      have hi2 : i < A.length := by simpa using hi
      rw [List.getElem_map, List.getElem_map]; exact ha i hi2 (by simpa using hj) (by omega)
    exact ⟨[], ⟨by rw [decide_eq_true this], rfl⟩, fun w' h => h.pick [0] rfl rfl⟩
end Go.Proofs.YtoholjdojdmbkaaGreatDoor
