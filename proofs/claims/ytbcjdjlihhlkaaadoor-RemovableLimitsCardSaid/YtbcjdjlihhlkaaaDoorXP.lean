/- Parts of one proof, joined: V1, V2, V3, V4. No condition of its own. -/
import Derived.Test.YtbcjdjlihhlkaaaDoorXK
import Derived.Test.YtbcjdjlihhlkaaaDoorXL
import Derived.Test.YtbcjdjlihhlkaaaDoorXM
namespace Go.Proofs.YtbcjdjlihhlkaaaDoor
open Go Go.RowKit Go.Dw
def FineW (out : List Nat) : Prop := out.Nodup ∧ ∀ t ∈ out, t < 18446744073709551616
section
variable {allow : Nat → Bool} {H : List Nat}
theorem stepH_fineW {s : Nat} {out : List Nat} {h : Nat} (hf : FineW out) (hs : s < 18446744073709551616) (hh : h < 18446744073709551616) : FineW (stepH allow s out h) := by
  unfold stepH; split
  · exact hf
  · rename_i hn
    refine ⟨List.nodup_append.2 ⟨hf.1, by simp, fun a ha b hb e => hn (.inl ?_)⟩, fun t ht => ?_⟩
    · simp only [List.mem_singleton] at hb; rw [← hb, ← e]; exact ha
    · rcases List.mem_append.1 ht with ht | ht
      · exact hf.2 t ht
      · simp only [List.mem_singleton] at ht; rw [ht]; exact or_lt hs hh
theorem fold_fineW {s : Nat} (hs : s < 18446744073709551616) : ∀ (M out : List Nat), FineW out → (∀ h ∈ M, h < 18446744073709551616) → FineW (M.foldl (stepH allow s) out)
  | [], _, hf, _ => hf
  | h :: M, out, hf, hm => fold_fineW hs M (stepH allow s out h) (stepH_fineW hf hs (hm h (by simp))) fun x hx => hm x (by simp [hx])
theorem bfs_fineW (hH : ∀ h ∈ H, h < 18446744073709551616) : ∀ i, FineW (bfsK allow H i)
  | 0 => ⟨by simp [bfsK], by simp [bfsK]⟩
  | i + 1 => by
    have ih := bfs_fineW hH i
    rw [bfsK]
    split
    · rename_i s hs
      refine fold_fineW ?_ _ _ ih hH
      rcases List.mem_cons.1 (List.mem_of_getElem? hs) with rfl | h
      · decide
      · exact ih.2 _ h
    · exact ih
theorem sub_len_of {α : Type} [DecidableEq α] : ∀ {L M : List α}, L.Nodup → (∀ x ∈ L, x ∈ M) → L.length ≤ M.length
  | [], _, _, _ => Nat.zero_le _
  | x :: r, M, hn, h => by
    rw [List.nodup_cons] at hn
    have hx := h x (by simp)
    have := sub_len_of (L := r) (M := M.erase x) hn.2 fun y hy => (List.mem_erase_of_ne (fun e => hn.1 (by rw [← e]; exact hy))).2 (h y (by simp [hy]))
    rw [List.length_erase_of_mem hx] at this
    have := List.length_pos_of_mem hx
    rw [List.length_cons]; omega
theorem fineW_len {out : List Nat} (hf : FineW out) : out.length ≤ 18446744073709551616 := by
  have hM : ∀ n, ∀ {L : List Nat}, L.Nodup → (∀ t ∈ L, t < n) → L.length ≤ n := fun n L h1 h2 => by
    have := sub_len_of (M := List.range n) h1 fun x hx => List.mem_range.2 (h2 x hx)
    rwa [List.length_range] at this
  exact hM _ hf.1 hf.2
theorem pre_take {α : Type} {A F : List α} (h : A <+: F) : A = F.take A.length := by
  obtain ⟨r, rfl⟩ := h
  rw [List.take_left]
end
set_option maxRecDepth 10000 in
theorem closedB_spec {H : List Nat} (hH : ∀ h ∈ H, h < 18446744073709551616) (hHl : H.length < 1000000) (allow : Nat → Bool) {T : Nat} (hT : 18446744073709551616 < T) {F : List Nat} (hF : F = bfsK allow H T) (B : Nat) (hB : B ≤ 100000) {bH bA : Nat} {a : Option Addr} {n c : Nat} {fa : Nat} {first cap : List Value}
    (hfa : ∀ t, t < 18446744073709551616 → ∀ w', CallsE Tryd.prog fa (first ++ [Value.int .u64 (t : Nat)] ++ cap).toArray w' (RetV w' (.bool (allow t)))) :
    IterB Tryd.prog 56 [.pointer (some ⟨bH, 0, none⟩), .pointer (some ⟨bA, 0, none⟩)] fU (F.take B) (RdC bH bA a n c H (.func (.func fa) ⟨first⟩ ⟨cap⟩)) (F.length ≤ B) := by
  intro w h l J Jx hin hRd hJ0 hY hend
  obtain ⟨r1, r2, r3⟩ := hRd
  have hn := r2.len
  have hpF : ∀ i, i ≤ T → bfsK allow H i <+: bfsK allow H T := fun i hi => bfs_pre hi
  have hstop : ∀ i, i ≤ T → (0 :: bfsK allow H i).length ≤ i → bfsK allow H T = bfsK allow H i := fun i hi h => bfs_stop (List.getElem?_eq_none_iff.2 h) T hi
  rw [← hF] at hpF hstop
  obtain ⟨L, hL⟩ : ∃ L, L = F.take B := ⟨_, rfl⟩
  rw [← hL] at hY hend ⊢
  have hLl : L.length ≤ B ∧ L.length ≤ F.length ∧ (L.length < B → L = F) := by
    rw [hL, List.length_take]
    refine ⟨by omega, by omega, fun h => List.take_of_length_le (by omega)⟩
  have hLF : L <+: F := by rw [hL]; exact List.take_prefix _ _
  clear hF hL
  obtain ⟨c0, hc0⟩ : ∃ c0, c0 = (Hp.whole w).minus h := ⟨_, rfl⟩
  refine enterYM (X := cx 54) (cxg _) (args := [.func (.yield l) #[] #[], .pointer (some ⟨bH, 0, none⟩), .pointer (some ⟨bA, 0, none⟩)]) hin [] Tryd.func56 rfl rfl rfl rfl rfl ?_
  rw [← hc0] at r1 r2 r3 hY ⊢
  refine mkM fun bm hm0 hom0 => ?_
  intro b11
  refine NeedL.mk (Nat × Dw.Os × Hp × Hp) (fun g => [(0, .v (.func (.yield l) #[] #[])), (1, .v (.pointer (some ⟨bH, 0, none⟩))), (2, .v (.pointer (some ⟨bA, 0, none⟩))), (4, .v (.map (some bm))), (5, .v g.2.1.v)])
    (fun g => [.hp c0, .hp g.2.2.2, .hp g.2.2.1, .hp g.2.1.h])
    (fun g => (g.1 ≤ (bfsK allow H g.1).length + 1 ∧ (bfsK allow H g.1).length ≤ L.length) ∧ OwnM g.2.2.1 bm (bfsK allow H g.1) ∧ OwnQ fU 60 1 g.2.1 ((0 :: bfsK allow H g.1).drop g.1) ∧ J (bfsK allow H g.1) g.2.2.2) (fun g => L.length + 1 - g.1)
    (0, ⟨some ⟨b11, 0, none⟩, 1, 1, (Ch.box b11 (fU 0) 60).h⟩, hm0, h)
    ⟨⟨Nat.zero_le _, Nat.zero_le _⟩, hom0, (OwnO.box (f := fU) (sz := 1) (T := 60) (fun _ => rfl) [0] rfl rfl (by decide)).q, hJ0⟩ (Ent.mk (fun _ _ h => Ok.same (i := 3) (c := .box b11 (fU 0) 60) (d := .hp (Ch.box b11 (fU 0) 60).h) rfl rfl h) rfl rfl) ?_
  rintro ⟨i, oQ, hm, h1⟩ ⟨⟨hi, hlen⟩, hom, hq, hJ⟩
  dsimp only at *
  have hql := hq.len
  have hfi := bfs_fineW (allow := allow) hH i
  have hiT : i + 1 ≤ T := by omega
  rw [List.length_drop, List.length_cons] at hql
  refine bsplitd (fun hlt => ?_) (fun hge => ?_)
  · have hil : i < (0 :: bfsK allow H i).length := by simp only [List.length_cons]; omega
    obtain ⟨s, hs⟩ : ∃ s, s = (0 :: bfsK allow H i)[i] := ⟨_, rfl⟩
    have hsg : (0 :: bfsK allow H i)[i]? = some s := by rw [List.getElem?_eq_getElem hil, hs]
    have hs64 : s < 18446744073709551616 := by
      rcases List.mem_cons.1 (List.mem_of_getElem? hsg) with h | h
      · omega
      · exact hfi.2 _ h
    rw [List.drop_eq_getElem_cons hil, ← hs] at hq
    have hqs := OwnQ.sl (f := fU) (fun _ => rfl) (by decide) hq
    refine idx (cxg _) (e := 60) rfl hqs 0 rfl (by simp) (fun b o cs hcs hR hcell => ?_)
    subst hR
    refine ld1 (cxg _) (i := 3) rfl (hcell 0 _ rfl) rfl ?_
    refine qtail (f := fU) (cxg _) (e := 60) rfl (fun _ => rfl) hq fun oq' hq' hqh => ?_
    refine ld1 (cxg _) (i := 0) rfl r1 rfl ?_
    have hbn : bfsK allow H (i + 1) = innS allow H s (bfsK allow H i) := by rw [bfsK, hsg]
    have hpF1 := hpF (i + 1) hiT
    rw [List.length_cons] at hil
    refine NeedL.mk (Nat × Dw.Os × Hp × Hp) (fun g => [(0, .v (.func (.yield l) #[] #[])), (1, .v (.pointer (some ⟨bH, 0, none⟩))), (2, .v (.pointer (some ⟨bA, 0, none⟩))), (4, .v (.map (some bm))), (5, .v g.2.1.v), (6, .v (.int .u64 (s : Nat))), (20, .v (.slice a n c)), (21, .v (.int .i64 n)), (22, .v (.int .i64 g.1))])
      (fun g => [.hp c0, .hp g.2.2.2, .hp g.2.2.1, .hp g.2.1.h])
      (fun g => (g.1 ≤ n ∧ ((H.take g.1).foldl (stepH allow s) (bfsK allow H i)).length ≤ L.length) ∧ OwnM g.2.2.1 bm ((H.take g.1).foldl (stepH allow s) (bfsK allow H i)) ∧ OwnQ fU 60 1 g.2.1 ((0 :: (H.take g.1).foldl (stepH allow s) (bfsK allow H i)).drop (i + 1)) ∧ J ((H.take g.1).foldl (stepH allow s) (bfsK allow H i)) g.2.2.2) (fun g => n - g.1)
      (0, oq', hm, h1) ⟨⟨Nat.zero_le _, hlen⟩, hom, hq', hJ⟩ (Ent.mk (fun _ _ h => by rw [hqh]; exact h) rfl rfl) ?_
    clear hqh hq' hq hqs hom hJ hcell
    rintro ⟨k, oQ, hm, h1⟩ ⟨⟨hk, holL⟩, hom, hq, hJ⟩
    dsimp only at *
    obtain ⟨out, hout⟩ : ∃ out, out = (H.take k).foldl (stepH allow s) (bfsK allow H i) := ⟨_, rfl⟩
    rw [← hout] at hom hq hJ holL
    have hbo : (bfsK allow H i).length ≤ out.length := by rw [hout]; exact (fold_pre s (H.take k) (bfsK allow H i)).length_le
    refine bsplitd (fun hltk => ?_) (fun hgek => ?_)
    · have hkH : k < H.length := by omega
      have hh64 := hH _ (List.getElem_mem hkH)
      obtain ⟨t, ht⟩ : ∃ t, t = s ||| H[k] := ⟨_, rfl⟩
      have ht64 : t < 18446744073709551616 := by rw [ht]; exact or_lt hs64 hh64
      have hstep : (H.take (k + 1)).foldl (stepH allow s) (bfsK allow H i) = stepH allow s out H[k] := by
        rw [List.take_succ_eq_append_getElem hkH, List.foldl_append, ← hout]; rfl
      have hno : (t ∈ out ∨ t = s ∨ allow t = false) → (H.take (k + 1)).foldl (stepH allow s) (bfsK allow H i) = out := fun hb => by
        rw [hstep]; unfold stepH; rw [← ht, if_pos hb]
      have hyes : ¬ (t ∈ out ∨ t = s ∨ allow t = false) → (H.take (k + 1)).foldl (stepH allow s) (bfsK allow H i) = out ++ [t] := fun hb => by
        rw [hstep]; unfold stepH; rw [← ht, if_neg hb]
      refine idx (cxg _) (e := 60) rfl r2 k rfl hkH (fun b o cs hcs hR hcell => ?_)
      subst hR
      refine ld1 (cxg _) (i := 0) rfl (hcell 0 _ rfl) rfl ?_
      refine qOrU s H[k] rfl rfl (by omega) (by omega) ?_
      rw [← ht]
      have skip : (t ∈ out ∨ t = s ∨ allow t = false) → ∃ g' : Nat × Dw.Os × Hp × Hp, g' = (k + 1, oQ, hm, h1) ∧ ((g'.1 ≤ n ∧ ((H.take g'.1).foldl (stepH allow s) (bfsK allow H i)).length ≤ L.length) ∧ OwnM g'.2.2.1 bm ((H.take g'.1).foldl (stepH allow s) (bfsK allow H i)) ∧ OwnQ fU 60 1 g'.2.1 ((0 :: (H.take g'.1).foldl (stepH allow s) (bfsK allow H i)).drop (i + 1)) ∧ J ((H.take g'.1).foldl (stepH allow s) (bfsK allow H i)) g'.2.2.2) := fun hb =>
        ⟨_, rfl, ⟨by dsimp only; omega, by dsimp only; rw [hno hb]; exact holL⟩, by dsimp only; rw [hno hb]; exact hom, by dsimp only; rw [hno hb]; exact hq, by dsimp only; rw [hno hb]; exact hJ⟩
      refine lookM (i := 2) (h := hm) (L := out) rfl rfl (fun _ => rfl) rfl hom t ?_
      refine bsplitd (fun m1 => ?_) (fun m1 => ?_)
      · refine nw (by omega) (by omega) ?_
        obtain ⟨g', rfl, hg⟩ := skip (.inl m1)
        exact ⟨_, hg, by dsimp only; omega, Ent.mk (fun _ _ h => h) rfl rfl⟩
      refine bsplitd (fun m2 => ?_) (fun m2 => ?_)
      · refine nw (by omega) (by omega) ?_
        obtain ⟨g', rfl, hg⟩ := skip (.inr (.inl (by omega)))
        exact ⟨_, hg, by dsimp only; omega, Ent.mk (fun _ _ h => h) rfl rfl⟩
      refine ld1 (cxg _) (i := 0) rfl r3 rfl ?_
      refine forceL_i ?_
      refine callV _ (fun w' _ => hfa t ht64 w') ?_
      refine bsplit (fun m3 => ?_) (fun m3 => ?_)
      · refine nw (by omega) (by omega) ?_
        obtain ⟨g', rfl, hg⟩ := skip (.inr (.inr (by simpa using m3)))
        exact ⟨_, hg, by dsimp only; omega, Ent.mk (fun _ _ h => h) rfl rfl⟩
      clear skip
      have hnew : ¬ (t ∈ out ∨ t = s ∨ allow t = false) := by
        rintro (h | h | h)
        · exact m1 h
        · exact m2 (by omega)
        · rw [h] at m3; cases m3
      have hst := hyes hnew
      have p1 : out ++ [t] <+: F := by
        refine List.IsPrefix.trans ?_ hpF1
        rw [hbn, ← hst]
        exact fold_take s (k + 1) H (bfsK allow H i)
      have hlt2 : out.length < L.length := by
        rcases Nat.lt_or_ge out.length L.length with h | h
        · exact h
        · exfalso
          have e : out.length = L.length := by omega
          have l1 := p1.length_le
          rw [List.length_append, List.length_singleton] at l1
          have hFB : ¬ F.length ≤ B := fun hc => by
            rcases Nat.lt_or_ge L.length B with h2 | h2
            · have := hLl.2.2 h2
              rw [this] at e; omega
            · omega
          refine hend hFB h1 ?_
          have e1 : out = F.take out.length := pre_take ((List.prefix_append out [t]).trans p1)
          have e2 : L = F.take L.length := pre_take hLF
          rw [e2, ← e, ← e1]
          exact hJ
      obtain ⟨post, hpost⟩ : ∃ post, L = out ++ t :: post := by
        have e1 := pre_take p1
        have e2 := pre_take hLF
        have : out ++ [t] <+: L := by
          rw [e1, e2]
          refine List.take_prefix_take_left ?_
          rw [List.length_append, List.length_singleton]; omega
        obtain ⟨r, hr⟩ := this
        exact ⟨r, by rw [← hr]; simp⟩
      refine updM (i := 2) (h := hm) (L := out) rfl rfl rfl hom t m1 fun hm' hom' => ?_
      refine yieldQ (c := c0) (h1 := h1) rfl rfl (R := fun v h2 => (v = .bool true ∧ J (out ++ [t]) h2) ∨ (v = .bool false ∧ Jx (out ++ [t]) h2)) (fun w1 hi1 hc1 hd1 => hY w1 h1 out t post hpost hJ hi1 hc1 hd1) ?_
      rintro v h2 (⟨rfl, hJ2⟩ | ⟨rfl, hJ2⟩)
      · intro b51
        refine appQ (f := fU) (cxg _) (e := 60) rfl (i := 3) rfl hq (j := 4) t rfl rfl rfl rfl (by rw [List.length_drop, List.length_cons]; omega) fun oq3 hq3 => ?_
        refine nw (by omega) (by omega) ?_
        refine ⟨(k + 1, oq3, hm', h2), ⟨⟨by dsimp only; omega, by dsimp only; rw [hst, List.length_append, List.length_singleton]; omega⟩, by dsimp only; rw [hst]; exact hom', ?_, by dsimp only; rw [hst]; exact hJ2⟩, by dsimp only; omega, Ent.mk (fun _ _ h => h.pick [0, 1, 2, 3] rfl rfl) rfl rfl⟩
        dsimp only
        rw [hst, show 0 :: (out ++ [t]) = (0 :: out) ++ [t] from rfl, List.drop_append_of_le_length (by simp only [List.length_cons]; omega)]
        exact hq3
      · exact ⟨h2, [], ⟨rfl, .inr ⟨out ++ [t], ⟨post, by rw [hpost]; simp⟩, hJ2⟩⟩, fun w' h => h.pick [0, 1] rfl rfl⟩
    · have hall : out = bfsK allow H (i + 1) := by rw [hout, hbn, List.take_of_length_le (by omega)]; rfl
      rw [hall] at hom hq hJ holL hbo
      exact ⟨(i + 1, oQ, hm, h1), ⟨⟨by dsimp only; omega, holL⟩, hom, hq, hJ⟩, by dsimp only; omega, Ent.mk (fun _ _ h => h) rfl rfl⟩
  · have hend2 := hstop i (by omega) (by simp only [List.length_cons]; omega)
    have hLF2 : L = bfsK allow H i := by
      have e := hLl.2.1
      rw [hend2] at e
      rw [pre_take hLF, hend2]
      exact List.take_of_length_le (by omega)
    rw [← hLF2] at hJ
    exact ⟨h1, [], ⟨rfl, .inl hJ⟩, fun w' h => h.pick [0, 1] rfl rfl⟩
end Go.Proofs.YtbcjdjlihhlkaaaDoor
namespace Go.Proofs.YtbcjdjlihhlkaaaDoor
open Go Go.RowKit Go.Dw Go.Sort Go.Lib
abbrev S64 := { x : Nat // x < 18446744073709551616 }
instance : Inhabited S64 := ⟨⟨0, by decide⟩⟩
def encW (x : S64) : Value := .int .u64 (x.1 : Nat)
def cfW (x y : S64) : Int := cmpS x.1 y.1
theorem swoW : SWO (ltOf cfW) where
  irrefl x := by unfold ltOf cfW; rw [decide_eq_false_iff_not, cmpS_lt, cmpL_self]; omega
  trans x y z h1 h2 := by
    unfold ltOf cfW at *
    simp only [decide_eq_true_eq, cmpS_lt] at *
    rcases h1 with h1 | ⟨h1, h1'⟩
    · rcases h2 with h2 | ⟨h2, _⟩ <;> (left; omega)
    · rcases h2 with h2 | ⟨h2, h2'⟩
      · left; omega
      · right; exact ⟨by omega, cmpL_trans h1' h2'⟩
  ntrans x y z h1 h2 := by
    unfold ltOf cfW at *
    simp only [decide_eq_false_iff_not, cmpS_lt] at *
    rintro (h | ⟨h, h'⟩)
    · omega
    · have e1 : onesF x.1 = onesF y.1 := by omega
      have e2 : onesF y.1 = onesF z.1 := by omega
      by_cases ha : cmpL (nod y.1) (nod x.1) < 0
      · exact h2 (.inr ⟨e2, cmpL_trans ha h'⟩)
      · have := cmpL_tri (fun h => h1 (.inr ⟨e1, h⟩)) ha
        rw [this] at h'
        exact h2 (.inr ⟨e2, h'⟩)
theorem totW (x y : S64) (h1 : ltOf cfW x y = false) (h2 : ltOf cfW y x = false) : x = y := by
  unfold ltOf cfW at *
  simp only [decide_eq_false_iff_not, cmpS_lt] at *
  have e : onesF x.1 = onesF y.1 := by omega
  have := cmpL_tri (fun h => h1 (.inr ⟨e, h⟩)) (fun h => h2 (.inr ⟨e.symm, h⟩))
  exact Subtype.ext (nod_inj x.2 y.2 this)
/-- the list of sets, sorted -/
def srtLW (L : List S64) : List S64 := L.mergeSort fun x y => !(ltOf cfW) y x
def toW (L : List Nat) (h : ∀ t ∈ L, t < 18446744073709551616) : List S64 := L.pmap (fun t h => ⟨t, h⟩) h
def srtW (L : List Nat) (h : ∀ t ∈ L, t < 18446744073709551616) : List Nat := (srtLW (toW L h)).map (·.1)
theorem toW_val (L : List Nat) (h : ∀ t ∈ L, t < 18446744073709551616) : (toW L h).map (·.1) = L := by unfold toW; rw [List.map_pmap]; simp
theorem srtW_len (L : List Nat) (h : ∀ t ∈ L, t < 18446744073709551616) : (srtW L h).length = L.length := by
  unfold srtW srtLW; rw [List.length_map, List.length_mergeSort]; unfold toW; simp
theorem srtW_lt (L : List Nat) (h : ∀ t ∈ L, t < 18446744073709551616) : ∀ t ∈ srtW L h, t < 18446744073709551616 := fun t ht => by
  unfold srtW at ht
  obtain ⟨x, _, rfl⟩ := List.mem_map.1 ht
  exact x.2
theorem sortW_spec {o : Dw.Os} {L : List Nat} (w : World) (hin : o.h.In w) (ho : OwnO fU 60 1 o L) (h128 : ∀ t ∈ L, t < 18446744073709551616) (hl : L.length < 1000000) (hT : Tab (Hp.whole w)) :
    CallsE Tryd.prog 42 #[o.v, .func (.func 43) #[] #[]] w (RetM w o.h fun v h' cs => v = .tuple #[] ∧ cs = [] ∧ OwnO fU 60 1 ⟨o.a, o.n, o.c, h'⟩ (srtW L h128)) := by
  have eg : ∀ args w, (callFunc 43 args).run Tryd.prog w = .ok (.enter 43 args) w := enters_of Tryd.func43 (by kernel_rfl) rfl
  refine ⟨fun w => enters_of Tryd.func42 (by kernel_rfl) rfl _ w, ?_⟩
  have hn := ho.len
  have hsl := srtW_len L h128
  have hfl : ∀ M : List Nat, (M.flatMap fU).length = M.length * 1 := flatLen fun _ => rfl
  rcases ho.2.2 with ⟨h0, hc0⟩ | ⟨b, arr, h1, h2, h3, h4, h5, h6⟩
  · have hL : L = [] := List.eq_nil_of_length_eq_zero (by omega)
    have hcon := AnyF.slices_SortFunc_none { Tryd.sortS with } o.a o.c (.func (.func 43) #[] #[]) w
    change Calls Tryd.prog 42 _ _ _ at hcon
    have e0 : o.v = .slice o.a 0 o.c := by rw [Os.v, h0]
    rw [e0]
    refine hcon.mono ?_
    rintro e w' ⟨rfl, rfl⟩
    refine ⟨_, o.h, [], rfl, Ok.start2 _ hin, rfl, rfl, ?_⟩
    have : srtW L h128 = L := by
      have e1 : srtW L h128 = [] := List.eq_nil_of_length_eq_zero (by rw [hsl, hL]; rfl)
      rw [e1]; exact hL.symm
    rw [this]
    exact ho
  · have hblk := hin b _ h2
    have hbl : b < w.heap.size := (Array.getElem?_eq_some_iff.1 hblk).1
    obtain ⟨D, hD⟩ : ∃ D, D = toW L h128 := ⟨_, rfl⟩
    have hDv : D.map (·.1) = L := by rw [hD]; exact toW_val L h128
    have hDl : D.length = L.length := by rw [← hDv, List.length_map]
    have hfe : ∀ M : List S64, (M.map (·.1)).flatMap fU = M.map encW := fun M => by
      induction M with
      | nil => rfl
      | cons x r ih => simp only [List.map_cons, List.flatMap_cons, ih]; rfl
    have harr : ∀ j (hj : j < D.length), arr[j]? = some (encW D[j]) := fun j hj => by
      have e2 : (L.flatMap fU)[j]? = arr[j]? := by
        rw [← h6, List.getElem?_take, if_pos (by omega)]; simp
      rw [← e2, ← hDv, hfe, List.getElem?_map, List.getElem?_eq_getElem hj]; rfl
    have hH : Holds encW w b 0 D.toArray := fun j hj => by
      have hj' : j < D.length := by simpa using hj
      refine ⟨?_, ?_⟩
      · have e1 : w.cell? ⟨b, 0 + j, none⟩ = arr[j]? := by simp [World.cell?, hblk]
        rw [e1, harr j hj']; simp [hj']
      · simp [World.frozen?, hblk]
    have hTs : ∀ (m : Nat) (os : Array Obj) (dk : Array S64), dk.size = D.toArray.size → Tab (Hp.whole (sortWorld encW w b 0 m dk os)) := fun m os dk hdk j hj => by
      have hw := hT j hj
      show (sortWorld encW w b 0 m dk os).cell? ⟨0, j, none⟩ = _
      have hw : w.cell? ⟨0, j, none⟩ = some (.int .u8 (Lib.deBruijn64tab.getD j 0 : Nat)) := hw
      have hlt : 0 < w.heap.size := by
        unfold World.cell? at hw
        cases hb : w.heap[0]? with
        | none => simp [hb] at hw
        | some o => exact (Array.getElem?_eq_some_iff.1 hb).1
      have hheap : (sortWorld encW w b 0 m dk os).heap[0]? = w.heap[0]? := by
        simp only [sortWorld, grow, putRow, mapBlock, show (Go.Sort.ahead w m).heap = w.heap from rfl]
        rw [Array.getElem?_append, if_pos (by simpa using hlt), Array.getElem?_modify]
        by_cases e : b = 0
        · rw [if_pos e]
          have hb2 : w.heap[0]? = some (.cells arr 60 (0, 0)) := by have h9 := hblk; rw [e] at h9; exact h9
          by_cases hz : D.length = 0
          · rw [hb2]
            have hdk0 : dk.size = 0 := by simpa [hz] using hdk
            simp only [Option.map_some, onCells]
            congr 2
            apply Array.ext
            · simp [putCells]
            · intro i i1 i2
              simp only [putCells, Array.getElem_mapIdx]
              rw [if_neg (by omega)]
          · exfalso
            have h00 := hT 0 (by decide)
            have h00 : w.cell? ⟨0, 0, none⟩ = some (.int .u8 (Lib.deBruijn64tab.getD 0 0 : Nat)) := h00
            have : w.cell? ⟨0, 0, none⟩ = arr[0]? := by simp [World.cell?, hb2]
            rw [this, harr 0 (by omega)] at h00
            cases h00
        · rw [if_neg e]
      have : ∀ (W : World), W.heap[0]? = w.heap[0]? → W.cell? ⟨0, j, none⟩ = w.cell? ⟨0, j, none⟩ := fun W hW => by unfold World.cell?; rw [hW]
      rw [this _ hheap]; exact hw
    have hcmp : CmpLays1 Tryd.prog 43 #[] encW cfW b 0 D.toArray.size w := fun m os dk hdk x y => by
      refine (sets1_spec x.1 y.1 x.2 y.2 _ (hTs m os dk hdk)).2.mono ?_
      rintro e w' ⟨v, cs, rfl, hok, rfl, rfl⟩
      exact ⟨rfl, grown_of_ok hok⟩
    have hcon := Any.slices_SortFunc_total Tryd.sortS encW (fun _ => rfl) cfW swoW 43 #[] b 0 o.c D.toArray w eg hcmp hH hbl (by simp; omega) totW
    change Calls Tryd.prog 42 _ _ _ at hcon
    have ha : o.v = .slice (some ⟨b, 0, none⟩) D.toArray.size o.c := by rw [Os.v, h1, hn]; simp [hDl]
    rw [ha]
    refine hcon.mono ?_
    rintro e w' ⟨rfl, q, os, hw⟩
    have hw : w' = sortWorld encW w b 0 q (srtLW D).toArray os := hw
    have hSv : (srtLW D).map (·.1) = srtW L h128 := by unfold srtW; rw [hD]
    have hSl : (srtLW D).length = L.length := by rw [← srtW_len L h128, ← hSv, List.length_map]
    have hget : ∀ k, k < w.heap.size → w'.heap[k]? = if k = b then some (.cells (putCells encW 0 (srtLW D).toArray arr) 60 (0, 0)) else w.heap[k]? := fun k hk => by
      rw [hw]
      simp only [sortWorld, grow, putRow, mapBlock, show (Go.Sort.ahead w q).heap = w.heap from rfl]
      rw [Array.getElem?_append, if_pos (by simpa using hk), Array.getElem?_modify]
      by_cases e : b = k
      · subst e; rw [if_pos rfl, if_pos rfl, hblk]; rfl
      · rw [if_neg e, if_neg (fun x => e x.symm)]
    have hsz : w.heap.size ≤ w'.heap.size := by rw [hw]; simp [sortWorld, grow, putRow, mapBlock]
    refine ⟨.tuple #[], o.h.upd b (.cells (putCells encW 0 (srtLW D).toArray arr) 60 (0, 0)), [], rfl, ⟨?_, ?_, ?_, hsz, ?_, fun k c hc => ?_, fun j k c d hjk e1 e2 => ?_⟩, rfl, rfl, ?_, ?_, .inr ⟨b, _, h1, Hp.upd_self _ _ _, h3, h4, ?_, ?_⟩⟩
    · rw [hw]; rfl
    · rw [hw]; rfl
    · rw [hw]; rfl
    · rw [hw]; exact Nat.le_add_right _ _
    · match k, hc with
      | 0, hc =>
        simp only [sget, Option.some.injEq] at hc; subst hc
        intro k ob hk
        have hkw : w.heap[k]? = some ob := Hp.minus_le _ _ k ob hk
        have hlt := (Array.getElem?_eq_some_iff.1 hkw).1
        have hne : k ≠ b := fun e => by
          subst e
          rcases Hp.minus_dj (Hp.whole w) o.h k with e | e
          · rw [show (Hp.whole w).minus o.h k = some ob from hk] at e; cases e
          · rw [h2] at e; cases e
        rw [hget k hlt, if_neg hne]; exact hkw
      | 1, hc =>
        simp only [sget, Option.some.injEq] at hc; subst hc
        intro k ob hk
        have hk : (if k = b then some _ else o.h k) = some ob := hk
        by_cases e : k = b
        · subst e; rw [if_pos rfl] at hk; rw [hget k hbl, if_pos rfl]; exact hk
        · rw [if_neg e] at hk
          have hkw := hin k ob hk
          rw [hget k (Array.getElem?_eq_some_iff.1 hkw).1, if_neg e]; exact hkw
    · have main : ((Hp.whole w).minus o.h).dj (o.h.upd b (.cells (putCells encW 0 (srtLW D).toArray arr) 60 (0, 0))) := fun k => by
        rcases Hp.minus_dj (Hp.whole w) o.h k with e | e
        · exact .inl e
        · by_cases hkb : k = b
          · subst hkb; rw [h2] at e; cases e
          · right; simp only [Hp.upd, if_neg hkb]; exact e
      match j, k, e1, e2 with
      | 0, 0, _, _ => exact absurd rfl hjk
      | 1, 1, _, _ => exact absurd rfl hjk
      | 0, 1, e1, e2 =>
        simp only [sget, Option.some.injEq] at e1 e2; subst e1 e2; exact main
      | 1, 0, e1, e2 =>
        simp only [sget, Option.some.injEq] at e1 e2; subst e1 e2; exact main.symm
    · simp only [hsl]; exact hn
    · simp only [hfl, hsl, hn]
    · simp [putCells, h5]
    · apply List.ext_getElem?
      intro t
      rw [List.getElem?_take]
      split
      · rename_i ht
        have ht : t < o.n * 1 := ht
        have hta : t < arr.size := by rw [h5]; omega
        have e3 : (putCells encW 0 (srtLW D).toArray arr).toList[t]? = some (encW (srtLW D)[t]) := by
          rw [Array.getElem?_toList]
          simp only [putCells, Array.getElem?_mapIdx, Array.getElem?_eq_getElem hta, Option.map_some]
          rw [if_pos ⟨Nat.zero_le _, by simp [hSl]; omega⟩]
          simp [show t < (srtLW D).length by omega]
        rw [e3, ← hSv, hfe, List.getElem?_map, List.getElem?_eq_getElem (show t < (srtLW D).length by omega)]
        rfl
      · rename_i ht
        rw [List.getElem?_eq_none]
        rw [hfl, hsl]; have : ¬ t < o.n * 1 := ht; omega
end Go.Proofs.YtbcjdjlihhlkaaaDoor
namespace Go.Proofs.YtbcjdjlihhlkaaaDoor
open Go Go.RowKit Go.Dw
theorem hul_ltW {N : Nat} {E : List (Int × Int)} (hN : N ≤ 64) : ∀ h ∈ hulF N E, h < 18446744073709551616 := fun h hh => by
  unfold hulF at hh
  obtain ⟨i, _, rfl⟩ := List.mem_map.1 hh
  exact hulv_lt hN i
def srtQ (F : List Nat) (h : ∀ t ∈ F, t < 18446744073709551616) : List Nat := if F.length ≤ 1024 then srtW F h else []
def limE (F : List Nat) : Int := if F.length ≤ 1024 then 0 else 6
set_option maxRecDepth 10000 in
theorem setsW_spec {a : Option Addr} {n c : Nat} {E : List (Int × Int)} (N all : Nat) (most without : Int) (w : World) (hL : Sl (encF fE) 2 (Hp.whole w) a n c E) (hG : Gr N E) (h0 : checkF N E = 0) (hw : without < 64) (hT : Tab (Hp.whole w)) {B : Nat} (hB : 18446744073709551616 < B) {F : List Nat} (hF : F = bfsK (alwF all most without) (hulF N E) B) (hFl : ∀ t ∈ F, t < 18446744073709551616) :
    CallsE Tryd.prog 29 #[gv N a n c, .agg #[.int .u64 all, .int .i64 most, .int .i64 without]] w (Ret w fun v cs => ∃ o : Dw.Os, v = .tuple #[o.v, .int .i64 (limE F)] ∧ cs = [.hp o.h] ∧ OwnO fU 60 1 o (srtQ F hFl)) := by
  have hN := hG.hN
  obtain ⟨allow, hal⟩ : ∃ f, f = alwF all most without := ⟨_, rfl⟩
  rw [← hal] at hF
  have xl : (F.take 1025).length = min 1025 F.length := List.length_take
  refine enterY (X := cx 24) (cxg _) (args := [.agg #[.int .i64 N, .slice a n c], .agg #[.int .u64 all, .int .i64 most, .int .i64 without]]) [.cell 4 65, .cell 5 32] Tryd.func29 rfl rfl rfl rfl rfl ?_
  intro b2 b3 b4 b5 b6
  refine NeedD.by_order (cxg _) (.take 0 <| .take 2 <| .take 3 <| .run 1 <| .run 4 <| .done) (by kernel_rfl) ?_
  refine call (fun w' hm => hulls_spec N w' (hL.mono (encF_mono _) (hm 0 _ rfl)) hG h0) ?_
  rintro _ _ ⟨oH, rfl, rfl, hoH⟩
  have sH := OwnO.sl (f := fU) (fun _ => rfl) (by decide) hoH
  refine ⟨(by repeat first | exact trivial | refine ⟨.inl rfl, ?_⟩ | refine ⟨.inr rfl, ?_⟩), ?_⟩
  refine call (fun w' hm => closed_spec (fa := 32) (first := [.agg #[.int .u64 all, .int .i64 most, .int .i64 without]]) (cap := []) w') ?_
  rintro _ _ ⟨b7, b8, rfl, rfl⟩
  refine ⟨(by repeat first | exact trivial | refine ⟨.inl rfl, ?_⟩ | refine ⟨.inr rfl, ?_⟩), ?_⟩
  refine NeedRF.sat fun hsat => ?_
  obtain ⟨l1, hl1⟩ : ∃ l1 : List Ch, l1 = [.hp (Hp.whole w), .hp oH.h, .box b7 [.slice oH.a oH.n oH.c] 65, .box b8 [.func (.func 32) ⟨[.agg #[.int .u64 all, .int .i64 most, .int .i64 without]]⟩ ⟨[]⟩] 70] := ⟨_, rfl⟩
  have hdj : DjL l1 := by rw [hl1]; exact hsat.djL [0, 6, 7, 8] rfl rfl
  have le0 : (Hp.whole w).le (joinL l1) := joinL_le (i := 0) (d := .hp (Hp.whole w)) hdj (by rw [hl1]; rfl)
  have le1 : oH.h.le (joinL l1) := joinL_le (i := 1) (d := .hp oH.h) hdj (by rw [hl1]; rfl)
  have le2 := joinL_le (i := 2) (d := .box b7 [.slice oH.a oH.n oH.c] 65) hdj (by rw [hl1]; rfl)
  have le3 := joinL_le (i := 3) (d := .box b8 [.func (.func 32) ⟨[.agg #[.int .u64 all, .int .i64 most, .int .i64 without]]⟩ ⟨[]⟩] 70) hdj (by rw [hl1]; rfl)
  refine rangeFB (cxg _) (ps := [13]) rfl (closedB_spec (H := hulF N E) (hul_ltW hN) (by rw [hul_len]; omega) allow hB hF 1025 (by decide) (fa := 32) (first := [.agg #[.int .u64 all, .int .i64 most, .int .i64 without]]) (cap := []) (fun t ht w' => by rw [hal]; exact allows_spec all most without t ht hw w')) (fun _ => rfl) (by decide) (fun _ _ h l => h.mono l)
    (joinL l1) [(4, .bx 2 0), (5, .bx 3 0), (6, .bx 4 0)] (Dw.Os × Int) (fun g => [.box b4 [.slice none 0 0] 65, .box b5 [.int .i64 g.2] 32, .box b6 [g.1.v] 65, .hp g.1.h])
    (fun g pre => (g.2 = 0 ∧ pre.length ≤ 1024) ∧ OwnO fU 60 1 g.1 pre) (fun e g pre => e = .ret ∧ g.2 = 6 ∧ pre.length = 1025) (fun _ => True)
    ⟨le2.cell (by simp [Ch.h, Hp.cell?, Hp.one]), sH.mono (encF_mono _) le1, le3.cell (by simp [Ch.h, Hp.cell?, Hp.one])⟩ trivial (fun _ _ _ _ => trivial) (Os.nil, 0) ⟨⟨rfl, Nat.zero_le _⟩, OwnO.nil _ _ _⟩
    (fun hc g hg => by have := hg.1.2; omega)
    (fun w0 w h => by rw [hl1]; exact Ok.joinP _ _ (Ok.pick [0, 6, 7, 8, 3, 4, 5, 9] rfl rfl h.emp)) rfl rfl (fun _ => rfl) ?_ ?_ ?_
  · rintro ⟨g, z⟩ pre x post c1 hl hx ⟨⟨hz, hpl⟩, hR⟩ _
    dsimp only at hz hR
    subst hz
    have hgn := hR.len
    refine ⟨[(4, .bx 2 0), (5, .bx 3 0), (6, .bx 4 0), (7, .v (.int .u64 (x : Nat)))], [.box b4 [.slice none 0 0] 65, .box b5 [.int .i64 0] 32, .box b6 [g.v] 65, .hp g.h], Ent.mk (fun _ _ h => h) rfl rfl, fun hl' => ?_⟩
    refine bsplitd (fun hb => ?_) (fun hb => ?_)
    · exact ⟨(g, 6), ⟨rfl, rfl, by rw [List.length_append, List.length_singleton]; omega⟩, fun _ _ h => h⟩
    intro b19
    refine appO (f := fU) (cxg _) (e := 60) rfl (i := 5) rfl hR (j := 6) x rfl rfl rfl rfl (by omega) (fun o' ho' => ?_)
    exact ⟨(o', 0), ⟨⟨rfl, by rw [List.length_append, List.length_singleton]; omega⟩, ho'⟩, fun _ _ h => h.pick [0, 1, 2, 3, 4, 5] rfl rfl⟩
  · rintro ⟨g, z⟩ D ⟨⟨hz, hpl⟩, hR⟩
    dsimp only at hz hR
    subst hz
    have hFs : F.length ≤ 1024 := by omega
    rw [List.take_of_length_le (by omega)] at hR
    refine callM (i := 5) rfl (fun w' hm => sortW_spec w' (hm 5 _ rfl) hR hFl (by omega) (hT.mono (le0.trans (hm 0 _ rfl).whole))) ?_
    rintro _ h2 _ ⟨rfl, rfl, ho2⟩
    exact ⟨1, rfl, [.hp h2], ⟨⟨g.a, g.n, g.c, h2⟩, by unfold limE; rw [if_pos hFs]; rfl, rfl, by unfold srtQ; rw [if_pos hFs]; exact ho2⟩, fun w' h => (h.pick [0, 5] rfl rfl).less le0⟩
  · rintro e ⟨g, z⟩ D pre hpre ⟨rfl, hz, hpl⟩
    dsimp only at hz
    subst hz
    have hFs : ¬ F.length ≤ 1024 := by have := hpre.length_le; omega
    exact ⟨1, rfl, [.hp Hp.emp], ⟨Os.nil, by unfold limE; rw [if_neg hFs]; rfl, rfl, by unfold srtQ; rw [if_neg hFs]; exact OwnO.nil _ _ _⟩, fun w' h => Ok.emp (s := [.hp (Hp.whole w)]) ((h.pick [0] rfl rfl).less le0)⟩
set_option maxRecDepth 10000 in
theorem CountW_spec {a : Option Addr} {n c : Nat} {E : List (Int × Int)} (M : Nat) (w : World) (hL : Sl (encF fE) 2 (Hp.whole w) a n c E) (hG : Gr M E) (h0 : checkF M E = 0) {B : Nat} (hB : 18446744073709551616 < B) {F : List Nat} (hF : F = bfsK (fun _ => true) (hulF M E) B) :
    CallsE Tryd.prog 20 #[gv M a n c] w (RetV w (.tuple #[.int .i64 ((min 1024 F.length + 1 : Nat) : Int), .int .i64 0])) := by
  have hN := hG.hN
  have xl : (F.take 1024).length = min 1024 F.length := List.length_take
  refine enterY (X := cx 20) (cxg _) (args := [.agg #[.int .i64 M, .slice a n c]]) [.tmp 2, .tmp 3] Tryd.func20 rfl rfl rfl rfl rfl ?_
  intro b1
  refine callV _ (fun w' hm => check_spec M w' (hL.mono (encF_mono _) (hm 0 _ rfl))) ?_
  refine bsplitd (fun h => ?_) (fun h => ?_)
  · exact absurd h0 h
  intro b5
  refine call (fun w' hm => hulls_spec M w' (hL.mono (encF_mono _) (hm 0 _ rfl)) hG h0) ?_
  rintro _ _ ⟨oH, rfl, rfl, hoH⟩
  have sH := OwnO.sl (f := fU) (fun _ => rfl) (by decide) hoH
  refine call (fun w' hm => closed_spec (fa := 38) (first := []) (cap := []) w') ?_
  rintro _ _ ⟨b7, b8, rfl, rfl⟩
  refine NeedRF.sat fun hsat => ?_
  obtain ⟨l1, hl1⟩ : ∃ l1 : List Ch, l1 = [.hp (Hp.whole w), .hp oH.h, .box b7 [.slice oH.a oH.n oH.c] 65, .box b8 [.func (.func 38) ⟨[]⟩ ⟨[]⟩] 70] := ⟨_, rfl⟩
  have hdj : DjL l1 := by rw [hl1]; exact hsat.djL [0, 3, 4, 5] rfl rfl
  have le0 : (Hp.whole w).le (joinL l1) := joinL_le (i := 0) (d := .hp (Hp.whole w)) hdj (by rw [hl1]; rfl)
  have le1 : oH.h.le (joinL l1) := joinL_le (i := 1) (d := .hp oH.h) hdj (by rw [hl1]; rfl)
  have le2 := joinL_le (i := 2) (d := .box b7 [.slice oH.a oH.n oH.c] 65) hdj (by rw [hl1]; rfl)
  have le3 := joinL_le (i := 3) (d := .box b8 [.func (.func 38) ⟨[]⟩ ⟨[]⟩] 70) hdj (by rw [hl1]; rfl)
  refine rangeFB (cxg _) (ps := [14]) rfl (closedB_spec (H := hulF M E) (hul_ltW hN) (by rw [hul_len]; omega) (fun _ => true) hB hF 1024 (by decide) (fa := 38) (first := []) (cap := []) (fun t _ w' => count1_spec t w')) (fun _ => rfl) (by decide) (fun _ _ h l => h.mono l)
    (joinL l1) [(5, .bx 2 0)] Nat (fun g => [.box b5 [.int .i64 ((g + 1 : Nat) : Int)] 3])
    (fun g pre => g = pre.length ∧ pre.length ≤ 1023) (fun e g pre => e = .exit 0 ∧ g = 1024 ∧ pre.length = 1024) (fun _ => True)
    ⟨le2.cell (by simp [Ch.h, Hp.cell?, Hp.one]), sH.mono (encF_mono _) le1, le3.cell (by simp [Ch.h, Hp.cell?, Hp.one])⟩ trivial (fun _ _ _ _ => trivial) 0 ⟨rfl, Nat.zero_le _⟩
    (fun hc g hg => by have := hg.2; omega)
    (fun w0 w h => by rw [hl1]; exact Ok.joinP _ _ (Ok.pick [0, 3, 4, 5, 2] rfl rfl h)) rfl rfl (fun _ => rfl) ?_ ?_ ?_
  · rintro g pre x post c1 hl hx ⟨hg, hpl⟩ _
    refine ⟨[(5, .bx 2 0)], [.box b5 [.int .i64 ((g + 1 : Nat) : Int)] 3], Ent.mk (fun _ _ h => h) rfl rfl, fun hl' => ?_⟩
    refine nwEq (y := ((g + 1 + 1 : Nat) : Int)) (by omega) (by omega) (by omega) ?_
    refine bsplitd (fun hb => ?_) (fun hb => ?_)
    · refine ⟨1024, ⟨rfl, rfl, by rw [List.length_append, List.length_singleton]; omega⟩, fun _ _ h => ?_⟩
      rw [show g + 1 = 1024 by omega] at h
      exact h
    · exact ⟨g + 1, ⟨by rw [List.length_append, List.length_singleton]; omega, by rw [List.length_append, List.length_singleton]; omega⟩, fun _ _ h => h⟩
  · rintro g D ⟨hg, hpl⟩
    have hgl : g = min 1024 F.length := by omega
    rw [← hgl]
    exact ⟨1, rfl, [], ⟨rfl, rfl⟩, fun w' h => (h.pick [0] rfl rfl).less le0⟩
  · rintro e g D pre hpre ⟨rfl, rfl, hpl⟩
    have hgl : min 1024 F.length = 1024 := by have := hpre.length_le; omega
    rw [hgl]
    exact ⟨1, rfl, [], ⟨rfl, rfl⟩, fun w' h => (h.pick [0] rfl rfl).less le0⟩
theorem CandW_spec {a : Option Addr} {n c : Nat} {E : List (Int × Int)} (M : Nat) (most without : Int) (w : World) (hL : Sl (encF fE) 2 (Hp.whole w) a n c E) (hG : Gr M E) (hr0 : resE M E most without = 0) (hT : Tab (Hp.whole w)) {B : Nat} (hB : 18446744073709551616 < B) {F : List Nat} (hF : F = bfsK (alwF (allN M) most without) (hulF M E) B) (hFl : ∀ t ∈ F, t < 18446744073709551616) :
    CallsE Tryd.prog 12 #[gv M a n c, .int .i64 most, .int .i64 without] w (RetR w ((srtQ F hFl).map nod) (limE F)) := by
  have hN := hG.hN
  have hql : (srtQ F hFl).length ≤ 1024 := by
    unfold srtQ; split
    · rw [srtW_len]; assumption
    · simp
  have hqt : ∀ t ∈ srtQ F hFl, t < 18446744073709551616 := fun t ht => by
    unfold srtQ at ht
    split at ht
    · exact srtW_lt _ _ t ht
    · cases ht
  obtain ⟨h0, hm0, hw1, hw2⟩ := resE_ok hr0
  refine enter (X := cx 30) (cxg _) (args := [.agg #[.int .i64 M, .slice a n c], .int .i64 most, .int .i64 without]) [.tmp 6, .tmp 7] Tryd.func12 rfl rfl rfl rfl rfl ?_
  intro b3
  refine callV _ (fun w' hm => restricted_spec M most without w' (hL.mono (encF_mono _) (hm 0 _ rfl))) ?_
  intro b8
  refine bsplitd (fun h => ?_) (fun h => ?_)
  · exact absurd hr0 h
  have g1 : resA M E most without = allN M := by unfold resA; rw [if_pos hr0, Int.toNat_natCast]
  have g2 : resM M E most without = most := by unfold resM; rw [if_pos hr0]
  have g3 : resX M E most without = without := by unfold resX; rw [if_pos hr0]
  rw [g1, g2, g3]
  refine call (fun w' hm => setsW_spec M (allN M) most without w' (hL.mono (encF_mono _) (hm 0 _ rfl)) hG h0 (by omega) (hT.mono (hm 0 _ rfl)) hB hF hFl) ?_
  rintro _ _ ⟨o, rfl, rfl, ho⟩
  have so := OwnO.sl (f := fU) (fun _ => rfl) (by decide) ho
  have hol := ho.len
  refine call (fun w' hm => listsS_spec w' (so.mono (encF_mono _) (hm 3 _ rfl)) hqt (by omega) (hT.mono (hm 0 _ rfl))) ?_
  rintro _ _ ⟨a', n', c', h', rfl, rfl, hs⟩
  exact ⟨[.hp h'], ⟨a', n', c', h', rfl, rfl, hs⟩, fun w' h => h.pick [0, 4] rfl rfl⟩
end Go.Proofs.YtbcjdjlihhlkaaaDoor
namespace Go.Proofs.YtbcjdjlihhlkaaaDoor
open Go Go.RowKit Go.Dw
section
variable {allow : Nat → Bool} {H : List Nat}
theorem bfsW_all (hH : ∀ h ∈ H, h < 18446744073709551616) {B : Nat} (hB : 18446744073709551616 < B) {s h : Nat} (hs : s ∈ 0 :: bfsK allow H B) (hh : h ∈ H) : (s ||| h) ∈ bfsK allow H B ∨ (s ||| h) = s ∨ allow (s ||| h) = false := by
  obtain ⟨i, hsi⟩ := List.getElem?_of_mem hs
  have hi : i < (0 :: bfsK allow H B).length := (List.getElem?_eq_some_iff.1 hsi).1
  have hl := fineW_len (bfs_fineW (allow := allow) hH B)
  rw [List.length_cons] at hi
  have hg : (0 :: bfsK allow H i)[i]? = some s := by
    cases hq : (0 :: bfsK allow H i)[i]? with
    | none =>
      have e : bfsK allow H B = bfsK allow H i := bfs_stop hq B (by omega)
      rw [← e, hsi] at hq; cases hq
    | some y =>
      obtain ⟨r, hr⟩ := bfs_pre (allow := allow) (H := H) (i := i) (j := B) (by omega)
      have h2 : (0 :: bfsK allow H B)[i]? = some y := by
        rw [← hr, ← List.cons_append, List.getElem?_append_left (List.getElem?_eq_some_iff.1 hq).1]; exact hq
      rw [hsi] at h2
      exact h2.symm
  have hk : bfsK allow H (i + 1) = innS allow H s (bfsK allow H i) := by rw [bfsK, hg]
  rcases fold_in (allow := allow) s H (bfsK allow H i) h hh with h1 | h1
  · left
    have hpre : bfsK allow H (i + 1) <+: bfsK allow H B := bfs_pre (by omega)
    rw [hk] at hpre
    exact hpre.subset h1
  · exact .inr h1
theorem bfsW_has (hH : ∀ h ∈ H, h < 18446744073709551616) {B : Nat} (hB : 18446744073709551616 < B) {L : List Nat} (hL : ∀ x ∈ L, x ∈ H) (ha : ∀ k, (L.take k).foldl (· ||| ·) 0 ≠ 0 → allow ((L.take k).foldl (· ||| ·) 0) = true) : ∀ k, (L.take k).foldl (· ||| ·) 0 ∈ 0 :: bfsK allow H B
  | 0 => by simp
  | k + 1 => by
    have ih := bfsW_has hH hB hL ha k
    by_cases hk : k < L.length
    · have e : (L.take (k + 1)).foldl (· ||| ·) 0 = (L.take k).foldl (· ||| ·) 0 ||| L[k] := by rw [List.take_succ_eq_append_getElem hk, List.foldl_append]; rfl
      have hk1 := ha (k + 1)
      rw [e] at hk1 ⊢
      rcases bfsW_all hH hB ih (hL _ (List.getElem_mem hk)) with h | h | h
      · exact .tail _ h
      · rw [h]; exact ih
      · by_cases h0 : (L.take k).foldl (· ||| ·) 0 ||| L[k] = 0
        · rw [h0]; simp
        · rw [hk1 h0] at h; cases h
    · rw [List.take_of_length_le (by omega)] at ih ⊢
      exact ih
/-- members that hold a property which each allowed step keeps -/
theorem bfs_step {P : Nat → Prop} (hP : ∀ s, (s = 0 ∨ P s) → ∀ h ∈ H, (s ||| h) ≠ s → allow (s ||| h) = true → P (s ||| h)) : ∀ i, ∀ t ∈ bfsK allow H i, P t
  | 0 => by simp [bfsK]
  | i + 1 => by
    have ih := bfs_step hP i
    rw [bfsK]
    split
    · rename_i s hs
      have hs' : s = 0 ∨ P s := by
        rcases List.mem_cons.1 (List.mem_of_getElem? hs) with rfl | h
        · exact .inl rfl
        · exact .inr (ih _ h)
      have : ∀ (M out : List Nat), (∀ h ∈ M, h ∈ H) → (∀ t ∈ out, P t) → ∀ t ∈ M.foldl (stepH allow s) out, P t := by
        intro M
        induction M with
        | nil => intro out _ ho; exact ho
        | cons x r ih2 =>
          intro out hM ho
          refine ih2 _ (fun y hy => hM y (by simp [hy])) ?_
          unfold stepH
          split
          · exact ho
          · rename_i hn
            intro t ht
            rcases List.mem_append.1 ht with ht | ht
            · exact ho t ht
            · rw [List.mem_singleton.1 ht]
              refine hP s hs' x (hM x (by simp)) (fun e => hn (.inr (.inl e))) ?_
              cases ha : allow (s ||| x) with
              | true => rfl
              | false => exact absurd (.inr (.inr ha)) hn
      exact this H _ (fun h hh => hh) ih
    · exact ih
end
section
variable {N : Nat} {E : List (Int × Int)}
theorem mem_bfsW (hG : Gr N E) {allow : Nat → Bool} (ha : Her N allow) {B : Nat} (hB : 18446744073709551616 < B) {t : Nat} : t ∈ bfsK allow (hulF N E) B ↔ t ≠ 0 ∧ allow t = true ∧ clsE E t = true ∧ ∀ v, t.testBit v = true → v < N := by
  constructor
  · intro h
    exact bfs_un (P := fun t => clsE E t = true ∧ ∀ v, t.testBit v = true → v < N) ⟨cls_zero E, fun v hv => by rw [Nat.zero_testBit] at hv; cases hv⟩ (fun h hh x hx => by
      unfold hulF at hh
      obtain ⟨i, hi, rfl⟩ := List.mem_map.1 hh
      have hi' := List.mem_range.1 hi
      refine ⟨cls_or hx.1 (hulv_cls hG hi'), fun v hv => ?_⟩
      rw [Nat.testBit_or, Bool.or_eq_true] at hv
      exact hv.elim (hx.2 v) (hulv_rng hG hi' v)) B t h
  · rintro ⟨h0, h1, h2, h3⟩
    have hu := cls_union hG h2 h3
    have hp : ∀ k, Sub ((((nodN t).map (hulv N E)).take k).foldl (· ||| ·) 0) t := fun k v hv => by
      obtain ⟨x, hx, hv⟩ := (orAll_bit _ v).1 hv
      rw [← hu]
      exact (orAll_bit _ v).2 ⟨x, List.mem_of_mem_take hx, hv⟩
    have := bfsW_has (allow := allow) (hul_ltW hG.hN) hB (L := (nodN t).map (hulv N E)) (fun x hx => by
      obtain ⟨i, hi, rfl⟩ := List.mem_map.1 hx
      exact List.mem_map.2 ⟨i, List.mem_range.2 (h3 i (mem_nodN.1 hi).2), rfl⟩) (fun k hk => ha t _ h3 (hp k) hk h1) ((nodN t).map (hulv N E)).length
    rw [List.take_of_length_le (Nat.le_refl _), hu] at this
    rcases List.mem_cons.1 this with h | h
    · exact absurd h h0
    · exact h
end
/-! ### no edges -/
section
variable {M : Nat}
theorem hulv_nil (hG : Gr M []) {i : Nat} (hi : i < M) : hulv M [] i = 2 ^ i := Nat.eq_of_testBit_eq fun y => by
  rw [Bool.eq_iff_iff, hulv_bit hG hi, Nat.testBit_two_pow, decide_eq_true_eq]
  constructor
  · rintro ⟨k, hk⟩
    match k, hk with
    | 0, hk => unfold wlk at hk; have := of_decide_eq_true hk; omega
    | k + 1, hk => obtain ⟨c, hc, _⟩ := wlk_succ.1 hk; cases hc
  · rintro rfl
    exact ⟨0, by unfold wlk; exact decide_eq_true rfl⟩
theorem hulF_nil (hG : Gr M []) : hulF M [] = (List.range M).map fun i => 2 ^ i := by
  unfold hulF
  exact List.map_congr_left fun i hi => hulv_nil hG (List.mem_range.1 hi)
theorem hul_nodup (hG : Gr M []) : (hulF M []).Nodup := by
  rw [hulF_nil hG]
  refine List.pairwise_map.2 (List.nodup_range.imp fun {a b} h e => h ?_)
  have h1 : (2 ^ b).testBit a = true := by rw [← e]; exact Nat.testBit_two_pow_self
  rw [Nat.testBit_two_pow] at h1
  exact (of_decide_eq_true h1).symm
theorem all_her : Her M (alwF (allN M) 0 (-1)) := by
  intro t u ht hs h0 ha
  unfold alwF at *
  simp only [Bool.and_eq_true, Bool.or_eq_true, decide_eq_true_eq] at *
  obtain ⟨⟨h1, h2⟩, h3⟩ := ha
  refine ⟨⟨fun e => h1 ?_, .inl trivial⟩, .inl (by decide)⟩
  have e' : u = allN M := by omega
  have : t = allN M := Sub.antisymm (fun v hv => by rw [allN_bit]; exact decide_eq_true (ht v hv)) (fun v hv => hs v (by rw [e']; exact hv))
  rw [this]
theorem mem_all (hG : Gr M []) {B : Nat} (hB : 18446744073709551616 < B) {t : Nat} : t ∈ bfsK (alwF (allN M) 0 (-1)) (hulF M []) B ↔ t ≠ 0 ∧ t < 2 ^ M ∧ t ≠ 2 ^ M - 1 := by
  rw [mem_bfsW hG all_her hB, bits_iff]
  unfold alwF
  rw [allN_eq]
  simp only [Bool.and_eq_true, Bool.or_eq_true, decide_eq_true_eq]
  constructor
  · rintro ⟨h0, ⟨⟨h1, _⟩, _⟩, _, h2⟩
    exact ⟨h0, h2, fun e => h1 (by rw [e])⟩
  · rintro ⟨h0, h1, h2⟩
    exact ⟨h0, ⟨⟨fun e => h2 (by omega), .inl trivial⟩, .inl (by decide)⟩, rfl, h1⟩
theorem mem_each (hG : Gr M []) {B : Nat} (hB : 18446744073709551616 < B) {t : Nat} : t ∈ bfsK (fun _ => true) (hulF M []) B ↔ t ≠ 0 ∧ t < 2 ^ M := by
  rw [mem_bfsW hG (true_her M) hB, bits_iff]
  exact ⟨fun h => ⟨h.1, h.2.2.2⟩, fun h => ⟨h.1, rfl, rfl, h.2⟩⟩
theorem all_len (hG : Gr M []) {B : Nat} (hB : 18446744073709551616 < B) : (M ≤ 10 → (bfsK (alwF (allN M) 0 (-1)) (hulF M []) B).length = 2 ^ M - 2) ∧ (10 < M → 1024 < (bfsK (alwF (allN M) 0 (-1)) (hulF M []) B).length) := by
  have hn := (bfs_fineW (allow := alwF (allN M) 0 (-1)) (hul_ltW (E := []) hG.hN) B).1
  have hm := fun t => mem_all hG hB (t := t)
  obtain ⟨F, hF⟩ : ∃ F, F = bfsK (alwF (allN M) 0 (-1)) (hulF M []) B := ⟨_, rfl⟩
  rw [← hF] at hn hm ⊢
  constructor
  · intro h
    have a := sub_len_of (M := List.range' 1 (2 ^ M - 2)) hn fun x hx => by
      rw [List.mem_range'_1]; have := (hm x).1 hx; omega
    have b := sub_len_of (L := List.range' 1 (2 ^ M - 2)) (M := F) List.nodup_range' fun x hx => by
      rw [List.mem_range'_1] at hx; exact (hm x).2 (by omega)
    rw [List.length_range'] at a b
    omega
  · intro h
    have hp : 2 ^ 11 ≤ 2 ^ M := Nat.pow_le_pow_right (by decide) (by omega)
    have b := sub_len_of (L := List.range' 1 2000) (M := F) List.nodup_range' fun x hx => by
      rw [List.mem_range'_1] at hx; exact (hm x).2 (by omega)
    rw [List.length_range'] at b
    omega
theorem each_len (hG : Gr M []) {B : Nat} (hB : 18446744073709551616 < B) : (M ≤ 10 → (bfsK (fun _ => true) (hulF M []) B).length = 2 ^ M - 1) ∧ (10 < M → 1024 < (bfsK (fun _ => true) (hulF M []) B).length) := by
  have hn := (bfs_fineW (allow := fun _ => true) (hul_ltW (E := []) hG.hN) B).1
  have hm := fun t => mem_each hG hB (t := t)
  obtain ⟨F, hF⟩ : ∃ F, F = bfsK (fun _ => true) (hulF M []) B := ⟨_, rfl⟩
  rw [← hF] at hn hm ⊢
  constructor
  · intro h
    have a := sub_len_of (M := List.range' 1 (2 ^ M - 1)) hn fun x hx => by
      rw [List.mem_range'_1]; have := (hm x).1 hx; omega
    have b := sub_len_of (L := List.range' 1 (2 ^ M - 1)) (M := F) List.nodup_range' fun x hx => by
      rw [List.mem_range'_1] at hx; exact (hm x).2 (by omega)
    rw [List.length_range'] at a b
    omega
  · intro h
    have hp : 2 ^ 11 ≤ 2 ^ M := Nat.pow_le_pow_right (by decide) (by omega)
    have b := sub_len_of (L := List.range' 1 2000) (M := F) List.nodup_range' fun x hx => by
      rw [List.mem_range'_1] at hx; exact (hm x).2 (by omega)
    rw [List.length_range'] at b
    omega
theorem one_dec : ∀ i : Fin 64, onesF (2 ^ i.1) = 1 := by decide +kernel
theorem two_dec : ∀ i j : Fin 64, i.1 ≠ j.1 → onesF (2 ^ i.1 ||| 2 ^ j.1) = 2 := by decide +kernel
theorem cmp_dec : ∀ i : Fin 64, 0 < i.1 → cmpS 1 (2 ^ i.1) < 0 := by decide +kernel
theorem single_in (hG : Gr M []) (B : Nat) : ∀ t ∈ bfsK (alwF (allN M) 1 (-1)) (hulF M []) B, t ∈ hulF M [] := by
  refine bfs_step (fun s hs h hh hne ha => ?_) B
  rw [hulF_nil hG] at *
  rcases hs with rfl | hs
  · rw [Nat.zero_or]; exact hh
  · obtain ⟨i, hi, rfl⟩ := List.mem_map.1 hs
    obtain ⟨j, hj, rfl⟩ := List.mem_map.1 hh
    have hi := List.mem_range.1 hi
    have hj := List.mem_range.1 hj
    have hM := hG.hN
    by_cases e : i = j
    · subst e; exact absurd (Nat.or_self _) hne
    · exfalso
      have := two_dec ⟨i, by omega⟩ ⟨j, by omega⟩ e
      dsimp only at this
      unfold alwF at ha
      simp only [Bool.and_eq_true, Bool.or_eq_true, decide_eq_true_eq] at ha
      rcases ha.1.2 with h | h
      · exact absurd h (by decide)
      · rw [this] at h; exact absurd h (by decide)
theorem pow_ne_all {i : Nat} (_hi : i < M) (hM : 1 < M) : (2 : Nat) ^ i ≠ allN M := fun e => by
  have h0 := allN_bit M 0
  have h1 := allN_bit M 1
  rw [← e, Nat.testBit_two_pow] at h0 h1
  rw [decide_eq_true (show 0 < M by omega)] at h0
  rw [decide_eq_true (show 1 < M by omega)] at h1
  have := of_decide_eq_true h0
  have := of_decide_eq_true h1
  omega
theorem one_len (hG : Gr M []) {B : Nat} (hB : 18446744073709551616 < B) : (bfsK (alwF (allN M) 1 (-1)) (hulF M []) B).length ≤ M ∧ (1 < M → (bfsK (alwF (allN M) 1 (-1)) (hulF M []) B).length = M) := by
  have hn := (bfs_fineW (allow := alwF (allN M) 1 (-1)) (hul_ltW (E := []) hG.hN) B).1
  have hl := hul_len M []
  have a := sub_len_of hn (single_in hG B)
  refine ⟨by omega, fun h => ?_⟩
  have b := sub_len_of (hul_nodup hG) (M := bfsK (alwF (allN M) 1 (-1)) (hulF M []) B) fun x hx => by
    rcases bfsW_all (allow := alwF (allN M) 1 (-1)) (hul_ltW (E := []) hG.hN) hB (s := 0) (by simp) hx with h1 | h1 | h1
    · rwa [Nat.zero_or] at h1
    · rw [Nat.zero_or] at h1
      rw [hulF_nil hG] at hx
      obtain ⟨i, _, rfl⟩ := List.mem_map.1 hx
      have := Nat.two_pow_pos i
      omega
    · exfalso
      rw [Nat.zero_or, hulF_nil hG] at *
      obtain ⟨i, hi, rfl⟩ := List.mem_map.1 hx
      have hi := List.mem_range.1 hi
      have hM := hG.hN
      have e1 := one_dec ⟨i, by omega⟩
      dsimp only at e1
      have : alwF (allN M) 1 (-1) (2 ^ i) = true := by
        unfold alwF
        simp only [Bool.and_eq_true, Bool.or_eq_true, decide_eq_true_eq]
        refine ⟨⟨fun e => pow_ne_all hi h (by omega), .inr ?_⟩, .inl (by decide)⟩
        rw [e1]; decide
      rw [this] at h1; cases h1
  omega
theorem lea_nil (hG : Gr M []) {k : Nat} (hr : resE M [] k (-1) = 0) : (leaR M [] k (-1)).2 = decide (1 < M) ∧ (1 < M → (leaR M [] k (-1)).1 = 1) := by
  have hM := hG.hN
  unfold leaR
  rw [if_pos hr, Int.toNat_natCast]
  obtain ⟨s1, s2, s3⟩ := leaF_spec (alwF (allN M) k (-1)) (hulF M [])
  have hal : ∀ i, i < M → 1 < M → alwF (allN M) k (-1) (2 ^ i) = true := fun i hi h => by
    have e1 := one_dec ⟨i, by omega⟩
    dsimp only at e1
    unfold alwF
    simp only [Bool.and_eq_true, Bool.or_eq_true, decide_eq_true_eq]
    refine ⟨⟨fun e => pow_ne_all hi h (by omega), ?_⟩, .inl (by decide)⟩
    rw [e1]; omega
  have hf : (hulF M []).any (alwF (allN M) k (-1)) = decide (1 < M) := by
    rw [hulF_nil hG, Bool.eq_iff_iff, List.any_eq_true, decide_eq_true_eq]
    constructor
    · rintro ⟨x, hx, ha⟩
      obtain ⟨i, hi, rfl⟩ := List.mem_map.1 hx
      have hi := List.mem_range.1 hi
      by_cases h1 : M = 1
      · exfalso
        subst h1
        obtain rfl : i = 0 := by omega
        unfold alwF at ha
        simp only [Bool.and_eq_true, decide_eq_true_eq] at ha
        exact ha.1.1 (by rw [allN_eq])
      · omega
    · intro h
      exact ⟨2 ^ 0, List.mem_map.2 ⟨0, List.mem_range.2 (by omega), rfl⟩, hal 0 (by omega) h⟩
  rw [hf] at s1
  refine ⟨s1, fun h => ?_⟩
  obtain ⟨m1, m2, m3⟩ := s2 (by rw [s1]; exact decide_eq_true h)
  have m4 := m3 (2 ^ 0) (by rw [hulF_nil hG]; exact List.mem_map.2 ⟨0, List.mem_range.2 (by omega), rfl⟩) (hal 0 (by omega) h)
  rw [hulF_nil hG] at m1
  obtain ⟨i, hi, he⟩ := List.mem_map.1 m1
  have hi := List.mem_range.1 hi
  rw [← hulF_nil hG] at he
  rw [← he] at m4 ⊢
  by_cases h0 : i = 0
  · subst h0; rfl
  · exact absurd (cmp_dec ⟨i, by omega⟩ (by dsimp only; omega)) m4
theorem nil_gr (hM : M ≤ 64) : checkF M [] = 0 ∧ Gr M [] := by
  have h : checkF M [] = 0 := by
    unfold checkF; rw [if_neg (by omega)]; rfl
  refine ⟨h, ?_⟩
  obtain ⟨M', e, hG, _⟩ := checkF_ok h
  obtain rfl : M = M' := by omega
  exact hG
end
end Go.Proofs.YtbcjdjlihhlkaaaDoor
