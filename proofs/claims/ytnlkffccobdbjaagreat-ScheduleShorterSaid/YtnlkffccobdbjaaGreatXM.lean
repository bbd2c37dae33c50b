/- Parts of one proof, joined: Wg, Wh, Wi, Wj, Wk, Wl, Wm. No condition of its own. -/
import Derived.Test.YtnlkffccobdbjaaGreatXL
namespace Go.Dw
open Go Go.RowKit
abbrev Jb := Int × Int × Int
def fJ (x : Jb) : List Value := [.int .i64 x.1, .int .i64 x.2.1, .int .i64 x.2.2]
end Go.Dw
namespace Go.Proofs.YtnlkffccobdbjaaGreat
open Go Go.RowKit Go.Dw
structure JOk (N : Nat) (j : Jb) : Prop where
  t : 0 ≤ j.1 ∧ j.1 < (N : Int)
  s : 0 ≤ j.2.2 ∧ j.2.2 ≤ 1000000000000
def endF (TT : List Tk) (j : Jb) : Int := j.2.2 + (TT.getD j.1.toNat default).du
def rdyJ (TT : List Tk) (L : List Jb) (i : Nat) : Int := (TT.getD i default).af.foldl (fun t k => max t (endF TT (L.getD k.toNat (0, 0, 0)))) 0
def mspF (TT : List Tk) (L : List Jb) : Int := L.foldl (fun m j => max m (endF TT j)) 0
theorem tk_get {TT : List Tk} {i : Nat} (hi : i < TT.length) : TT.getD i default = TT[i] := by rw [List.getD_eq_getElem?_getD, List.getElem?_eq_getElem hi]; rfl
theorem end_le {TT : List Tk} (hF : Fit TT) {j : Jb} (h : JOk TT.length j) : 0 ≤ endF TT j ∧ endF TT j ≤ 1000000000000 + 1048576 := by
  have hi : j.1.toNat < TT.length := by have := h.t; omega
  have := hF.du _ (List.getElem_mem hi)
  unfold endF
  rw [tk_get hi]
  have := h.s
  omega
theorem able_spec {a a' : Option Addr} {n c n' c' : Nat} {TT : List Tk} {SS : List Sn} (k i : Nat) (w : World) (hT : Sl encT 4 (Hp.whole w) a n c TT) (hS : Sl encN 2 (Hp.whole w) a' n' c' SS) (hi : i < TT.length) (hk : k < SS.length) (hs : Sml TT SS) :
    CallsE Tryz.prog 88 #[sv a n c a' n' c', .int .i64 k, .int .i64 i] w (RetV w (.bool (canS (TT[i]).tl SS[k]))) := by
  obtain ⟨t, ht⟩ : ∃ t, t = TT[i] := ⟨_, rfl⟩
  obtain ⟨s, hsd⟩ : ∃ s, s = SS[k] := ⟨_, rfl⟩
  have hsl := hs.s s (by rw [hsd]; exact List.getElem_mem hk)
  rw [← ht, ← hsd]
  have hcan : canS t.tl s = (decide (t.tl = ByteArray.empty) || s.ts.any fun x => decide (x = t.tl)) := rfl
  refine enter (X := cx 26) (cxg _) (args := [.agg #[.slice a n c, .slice a' n' c'], .int .i64 k, .int .i64 i]) [.tmp 6] Tryz.func88 rfl rfl rfl rfl rfl ?_
  intro b3
  refine idx (cxg _) (e := 64) rfl hT i rfl hi (fun b9 o9 cs hcs hR hcell => ?_)
  rw [← ht] at hR
  obtain ⟨a3, n3, c3, rfl, hs3⟩ := hR
  refine ld1 (cxg _) (i := 0) rfl (hcell 2 _ rfl) rfl ?_
  refine qEqS ?_
  refine bsplitd (fun h => ?_) (fun h => ?_)
  · exact ⟨[], ⟨by rw [hcan, show t.tl = ByteArray.empty from h]; rfl, rfl⟩, fun w' h => h.pick [0] rfl rfl⟩
  · refine idx (cxg _) (e := 60) rfl hS k rfl hk (fun b9 o9 cs hcs hR hcell => ?_)
    rw [← hsd] at hR
    obtain ⟨a4, n4, c4, rfl, hs4⟩ := hR
    have l4 := hs4.len
    refine ld1 (cxg _) (i := 0) rfl (hcell 1 _ rfl) rfl ?_
    refine callV _ (fun w' hm => containsStr_spec t.tl w' (hs4.mono (encF_mono _) (hm 0 _ rfl)) (by omega)) ?_
    exact ⟨[], ⟨by rw [hcan, decide_eq_false (show ¬ t.tl = ByteArray.empty from h)]; rfl, rfl⟩, fun w' h => h.pick [0] rfl rfl⟩
theorem end_spec {a a' : Option Addr} {n c n' c' : Nat} {TT : List Tk} (x y z : Int) (w : World) (hT : Sl encT 4 (Hp.whole w) a n c TT) (hF : Fit TT) (hj : JOk TT.length (x, y, z)) :
    CallsE Tryz.prog 87 #[sv a n c a' n' c', .agg #[.int .i64 x, .int .i64 y, .int .i64 z]] w (RetV w (.int .i64 (endF TT (x, y, z)))) := by
  have hx := hj.t
  have hz := hj.s
  dsimp only at hx hz
  have hi : x.toNat < TT.length := by omega
  obtain ⟨t, ht⟩ : ∃ t, t = TT[x.toNat] := ⟨_, rfl⟩
  have hdu := hF.du t (by rw [ht]; exact List.getElem_mem hi)
  have he : endF TT (x, y, z) = z + t.du := by unfold endF; dsimp only; rw [tk_get hi, ← ht]
  refine enter (X := cx 15) (cxg _) (args := [.agg #[.slice a n c, .slice a' n' c'], .agg #[.int .i64 x, .int .i64 y, .int .i64 z]]) [.tmp 4] Tryz.func87 rfl rfl rfl rfl rfl ?_
  intro b2 b3
  refine NeedD.by_order (cxg _) (.take 0 <| .take 1 <| .take 2 <| .take 3 <| .take 4 <| .take 5 <| .take 6 <| .take 7 <| .take 8 <| .take 9 <| .take 10 <| .done) (by kernel_rfl) ?_
  refine idx (cxg _) (e := 64) rfl hT x.toNat (by omega) hi (fun b9 o9 cs hcs hR hcell => ?_)
  rw [← ht] at hR
  obtain ⟨a3, n3, c3, rfl, hs3⟩ := hR
  refine ld1 (cxg _) (i := 0) rfl (hcell 1 _ rfl) rfl ?_
  refine nw (by omega) (by omega) ?_
  exact ⟨[], ⟨by rw [he], rfl⟩, fun w' h => h.pick [0] rfl rfl⟩
theorem rdy_le {TT : List Tk} (hF : Fit TT) {L : List Jb} (hL : ∀ j ∈ L, JOk TT.length j) (hl : L.length = TT.length) : ∀ (A : List Int) (m : Int), (∀ x ∈ A, 0 ≤ x ∧ x < (TT.length : Int)) → 0 ≤ m → m ≤ 1000000000000 + 1048576 → 0 ≤ A.foldl (fun t k => max t (endF TT (L.getD k.toNat (0, 0, 0)))) m ∧ A.foldl (fun t k => max t (endF TT (L.getD k.toNat (0, 0, 0)))) m ≤ 1000000000000 + 1048576
  | [], m, _, h0, h1 => ⟨h0, h1⟩
  | x :: A, m, hA, h0, h1 => by
    have hx := hA x (by simp)
    have hxl : x.toNat < L.length := by omega
    have := end_le hF (hL _ (List.getElem_mem hxl))
    have e : L.getD x.toNat (0, 0, 0) = L[x.toNat] := by rw [List.getD_eq_getElem?_getD, List.getElem?_eq_getElem hxl]; rfl
    exact rdy_le hF hL hl A _ (fun y hy => hA y (by simp [hy])) (by dsimp only; omega) (by dsimp only; rw [e]; omega)
theorem rdyJ_le {TT : List Tk} (hF : Fit TT) {L : List Jb} (hL : ∀ j ∈ L, JOk TT.length j) (hl : L.length = TT.length) {i : Nat} (hi : i < TT.length) : 0 ≤ rdyJ TT L i ∧ rdyJ TT L i ≤ 1000000000000 + 1048576 := by
  unfold rdyJ
  rw [tk_get hi]
  exact rdy_le hF hL hl _ 0 (hF.ar _ (List.getElem_mem hi)) (Int.le_refl _) (by decide)
theorem ready_spec' {a a' : Option Addr} {n c n' c' : Nat} {TT : List Tk} {L : List Jb} {al : Option Addr} {nl cl : Nat} (i : Nat) (w : World) (hT : Sl encT 4 (Hp.whole w) a n c TT) (hF : Fit TT) (hLs : Sl (encF fJ) 3 (Hp.whole w) al nl cl L) (hL : ∀ j ∈ L, JOk TT.length j) (hl : L.length = TT.length) (hi : i < TT.length) :
    CallsE Tryz.prog 86 #[sv a n c a' n' c', .slice al nl cl, .int .i64 i] w (RetV w (.int .i64 (rdyJ TT L i))) := by
  obtain ⟨t, ht⟩ : ∃ t, t = TT[i] := ⟨_, rfl⟩
  have htm : t ∈ TT := by rw [ht]; exact List.getElem_mem hi
  have har := hF.ar t htm
  have hal := hF.al t htm
  have hr : rdyJ TT L i = t.af.foldl (fun t k => max t (endF TT (L.getD k.toNat (0, 0, 0)))) 0 := by unfold rdyJ; rw [tk_get hi, ← ht]
  refine enter (X := cx 31) (cxg _) (args := [.agg #[.slice a n c, .slice a' n' c'], .slice al nl cl, .int .i64 i]) [.tmp 6] Tryz.func86 rfl rfl rfl rfl rfl ?_
  intro b3
  refine idx (cxg _) (e := 64) rfl hT i rfl hi (fun b9 o9 cs hcs hR hcell => ?_)
  rw [← ht] at hR
  obtain ⟨a3, n3, c3, rfl, hs3⟩ := hR
  have l3 := hs3.len
  refine ld1 (cxg _) (i := 0) rfl (hcell 3 _ rfl) rfl ?_
  refine NeedL.mk (Nat × Int) (fun g => [(1, .v (.slice al nl cl)), (3, .bx 1 0), (7, .v (.int .i64 g.2)), (15, .v (.slice a3 n3 c3)), (16, .v (.int .i64 n3)), (17, .v (.int .i64 g.1))]) (fun _ => [.hp (Hp.whole w), .box b3 [.slice a n c, .slice a' n' c'] 25])
    (fun g => g.1 ≤ n3 ∧ g.2 = (t.af.take g.1).foldl (fun t k => max t (endF TT (L.getD k.toNat (0, 0, 0)))) 0) (fun g => n3 - g.1) (0, 0) ⟨Nat.zero_le _, rfl⟩ (Ent.mk (fun _ _ h => h) rfl rfl) ?_
  rintro ⟨q, m⟩ ⟨hq, hm0⟩
  dsimp only at *
  refine bsplitd (fun hlt => ?_) (fun hge => ?_)
  · have hqa : q < t.af.length := by omega
    obtain ⟨x, hx⟩ : ∃ x, x = t.af[q] := ⟨_, rfl⟩
    have hxr := har x (by rw [hx]; exact List.getElem_mem hqa)
    have hxl : x.toNat < L.length := by omega
    obtain ⟨⟨j1, j2, j3⟩, hj⟩ : ∃ j, j = L[x.toNat] := ⟨_, rfl⟩
    have hjo : JOk TT.length (j1, j2, j3) := hL _ (by rw [hj]; exact List.getElem_mem hxl)
    have hjd : L.getD x.toNat (0, 0, 0) = (j1, j2, j3) := by rw [List.getD_eq_getElem?_getD, List.getElem?_eq_getElem hxl, hj]; rfl
    have hst : (t.af.take (q + 1)).foldl (fun t k => max t (endF TT (L.getD k.toNat (0, 0, 0)))) 0 = max m (endF TT (j1, j2, j3)) := by
      rw [List.take_succ_eq_append_getElem hqa, List.foldl_append, ← hm0, ← hx]
      show max m (endF TT (L.getD x.toNat (0, 0, 0))) = _
      rw [hjd]
    refine idx (cxg _) (e := 3) rfl hs3 q rfl hqa (fun b9 o9 cs hcs hR hcell => ?_)
    rw [← hx] at hR
    subst hR
    refine ld1 (cxg _) (i := 0) rfl (hcell 0 _ rfl) rfl ?_
    refine NeedD.by_order (cxg _) (.take 0 <| .take 1 <| .take 2 <| .take 3 <| .take 4 <| .take 5 <| .run 6 <| .run 7 <| .take 8 <| .done) (by kernel_rfl) ?_
    refine idx (cxg _) (e := 52) rfl hLs x.toNat (by omega) hxl (fun b9 o9 cs hcs hR hcell => ?_)
    rw [← hj] at hR
    subst hR
    refine ldn (cxg _) (i := 0) rfl hcell rfl ?_
    refine callV _ (fun w' hm => end_spec j1 j2 j3 w' (hT.mono encT_mono (hm 0 _ rfl)) hF hjo) ?_
    refine ⟨(by repeat first | exact trivial | refine ⟨.inl rfl, ?_⟩ | refine ⟨.inr rfl, ?_⟩), ?_⟩
    refine qMax ?_
    refine ⟨(by repeat first | exact trivial | refine ⟨.inl rfl, ?_⟩ | refine ⟨.inr rfl, ?_⟩), ?_⟩
    refine nw (by omega) (by omega) ?_
    exact ⟨(q + 1, max m (endF TT (j1, j2, j3))), ⟨by dsimp only; omega, by dsimp only; rw [hst]⟩, by dsimp only; omega, Ent.mk (fun _ _ h => h) rfl rfl⟩
  · have e : m = rdyJ TT L i := by rw [hm0, List.take_of_length_le (by omega), hr]
    exact ⟨[], ⟨by rw [e], rfl⟩, fun w' h => h.pick [0] rfl rfl⟩
theorem makespan_spec {a a' : Option Addr} {n c n' c' : Nat} {TT : List Tk} {L : List Jb} {al : Option Addr} {nl cl : Nat} (w : World) (hT : Sl encT 4 (Hp.whole w) a n c TT) (hF : Fit TT) (hLs : Sl (encF fJ) 3 (Hp.whole w) al nl cl L) (hL : ∀ j ∈ L, JOk TT.length j) (hl : L.length < 1000) :
    CallsE Tryz.prog 67 #[sv a n c a' n' c', .slice al nl cl] w (RetV w (.int .i64 (mspF TT L))) := by
  have hlen := hLs.len
  refine enter (X := cx 21) (cxg _) (args := [.agg #[.slice a n c, .slice a' n' c'], .slice al nl cl]) [.tmp 4] Tryz.func67 rfl rfl rfl rfl rfl ?_
  intro b2
  refine NeedL.mk (Nat × Int) (fun g => [(2, .bx 1 0), (5, .v (.int .i64 g.2)), (8, .v (.slice al nl cl)), (9, .v (.int .i64 nl)), (10, .v (.int .i64 g.1))]) (fun _ => [.hp (Hp.whole w), .box b2 [.slice a n c, .slice a' n' c'] 25])
    (fun g => g.1 ≤ nl ∧ g.2 = (L.take g.1).foldl (fun m j => max m (endF TT j)) 0) (fun g => nl - g.1) (0, 0) ⟨Nat.zero_le _, rfl⟩ (Ent.mk (fun _ _ h => h) rfl rfl) ?_
  rintro ⟨q, m⟩ ⟨hq, hm0⟩
  dsimp only at *
  refine bsplitd (fun hlt => ?_) (fun hge => ?_)
  · have hxl : q < L.length := by omega
    obtain ⟨⟨j1, j2, j3⟩, hj⟩ : ∃ j, j = L[q] := ⟨_, rfl⟩
    have hjo : JOk TT.length (j1, j2, j3) := hL _ (by rw [hj]; exact List.getElem_mem hxl)
    have hst : (L.take (q + 1)).foldl (fun m j => max m (endF TT j)) 0 = max m (endF TT (j1, j2, j3)) := by
      rw [List.take_succ_eq_append_getElem hxl, List.foldl_append, ← hm0, ← hj]; rfl
    refine idx (cxg _) (e := 52) rfl hLs q rfl hxl (fun b9 o9 cs hcs hR hcell => ?_)
    rw [← hj] at hR
    subst hR
    refine ldn (cxg _) (i := 0) rfl hcell rfl ?_
    intro b7
    refine callV _ (fun w' hm => end_spec j1 j2 j3 w' (hT.mono encT_mono (hm 0 _ rfl)) hF hjo) ?_
    refine qMax ?_
    refine nw (by omega) (by omega) ?_
    exact ⟨(q + 1, max m (endF TT (j1, j2, j3))), ⟨by dsimp only; omega, by dsimp only; rw [hst]⟩, by dsimp only; omega, Ent.mk (fun _ _ h => h.pick [0, 1] rfl rfl) rfl rfl⟩
  · have e : m = mspF TT L := by rw [hm0, List.take_of_length_le (by omega)]; rfl
    exact ⟨[], ⟨by rw [e], rfl⟩, fun w' h => h.pick [0] rfl rfl⟩
end Go.Proofs.YtnlkffccobdbjaaGreat
namespace Go.Dw
open Go Go.RowKit
/-- The entry of a function that changes heaplet h, from chunks of one's own choice. -/
theorem enterMS {X : Ctx} (hX : X.Good) {f : Nat} {fn : Func} {c : Code} {args : List Value} {w : World} {h : Hp} {s0 : List Ch} (h0 : Ok w s0 w) {R : Value → Hp → List Ch → Prop} (rs : List ResultVar)
    (hf : X.P.funcs[f]? = some fn) (hb : fn.body = some c) (hn : (fn.name == "runtime.NumGoroutine") = false) (hr : fn.results = rs.toArray) (hm : fn.ntmps = X.n) (hl : Nat.ble args.length X.n = true)
    (hwp : WP X c (fun e t s => match e with
      | .exit _ => False
      | _ => resk X s t rs fun v => ∃ h' cs, R v h' cs ∧ ∀ w', Ok w s w' → Ok w (.hp ((Hp.whole w).minus h) :: .hp h' :: cs) w') (iniT 0 args) s0) :
    CallsE X.P f args.toArray w (RetM w h R) := by
  have hl := Nat.le_of_ble_eq_true hl
  refine ⟨fun w => ?_, calls_of_wp hf hb ?_⟩
  · have hn' : ¬ fn.name = "runtime.NumGoroutine" := by simpa using hn
    simp [callFunc, hf, hn', hb]
  · refine wp_mono (WP_sound hX c _ _ _ _ w hwp ⟨by simp [hm]; omega, rfl, fun i tv hi => ?_⟩ h0) fun e a w' hq => ?_
    · obtain ⟨v, rfl, _, h2⟩ := aget_iniT args 0 i tv hi
      refine ⟨v, rfl, ?_⟩
      have : i < args.length := (List.getElem?_eq_some_iff.1 (by simpa using h2)).1
      rw [Array.getElem?_append_left (by simpa using this)]
      simpa using h2
    · have fin : ∀ t s, Fr X.n t s a → Ok w s w' → (resk X s t rs fun v => ∃ h' cs, R v h' cs ∧ ∀ w', Ok w s w' → Ok w (.hp ((Hp.whole w).minus h) :: .hp h' :: cs) w') →
          a.defers = [] ∧ ∃ v, (results fn a.tmps).run X.P w' = .ok v w' ∧ RetM w h R (.returned v) w' := by
        intro t s hf' hok hk
        obtain ⟨v, h1, h', cs, h2, h3⟩ := resk_ok hX hf'.w hok.mem hk hr
        exact ⟨hf'.2.1, v, h1, v, h', cs, rfl, h3 w' hok, h2⟩
      cases e with
      | normal => obtain ⟨t, s, h1, h2, h3⟩ := hq; exact fin t s h1 h2 h3
      | ret => obtain ⟨t, s, h1, h2, h3⟩ := hq; exact fin t s h1 h2 h3
      | exit i => obtain ⟨t, s, h1, h2, h3⟩ := hq; exact h3.elim
      | goto l => exact hq.elim
      | panic c => exact hq.elim
      | outgrown => exact hq.elim
/-- a call that changes three owned heaplets -/
theorem callM3 {P : Program} {s : List Ch} {f : Nat} {args : List Value} {q : TV → List Ch → Prop} {i j k : Nat} (hij : i ≠ j) (hik : i ≠ k) (hjk : j ≠ k) {x y z : Hp} (hi : sget s i = some (.hp x)) (hj : sget s j = some (.hp y)) (hk : sget s k = some (.hp z)) {R : Value → Hp → List Ch → Prop}
    (hc : ∀ w0 w, Ok w0 s w → CallsE P f args.toArray w (RetM w ((x.join y).join z) R))
    (kk : ∀ v h' cs, R v h' cs → q (.v v) (sset (sset (sset (sset (sset s i (.hp (x.join y))) j (.hp Hp.emp)) i (.hp ((x.join y).join z))) k (.hp Hp.emp)) i (.hp h') ++ cs)) : NeedF P s f args q := by
  refine ⟨fun w0 w hok => ⟨(hc w0 w hok).1, (hc w0 w hok).2.mono fun e w' he => ?_⟩⟩
  obtain ⟨v, h', cs, rfl, h1, h2⟩ := he
  have hok2 := hok.join2 hij hi hj
  have hi2 : sget (sset (sset s i (.hp (x.join y))) j (.hp Hp.emp)) i = some (.hp (x.join y)) := by
    rw [sget_sset, if_neg (fun e => hij e.symm), sget_sset, if_pos rfl, hi]; rfl
  have hj2 : sget (sset s i (.hp (x.join y))) j = some (.hp y) := by rw [sget_sset, if_neg hij]; exact hj
  have hk2 : sget (sset (sset s i (.hp (x.join y))) j (.hp Hp.emp)) k = some (.hp z) := by
    rw [sget_sset, if_neg hjk, sget_sset, if_neg hik]; exact hk
  have hok3 := hok2.join2 hik hi2 hk2
  have hi3 : sget (sset (sset (sset (sset s i (.hp (x.join y))) j (.hp Hp.emp)) i (.hp ((x.join y).join z))) k (.hp Hp.emp)) i = some (.hp ((x.join y).join z)) := by
    rw [sget_sset, if_neg (fun e => hik e.symm), sget_sset, if_pos rfl, hi2]; rfl
  have hk3 : sget (sset (sset (sset s i (.hp (x.join y))) j (.hp Hp.emp)) i (.hp ((x.join y).join z))) k = some (.hp z) := by rw [sget_sset, if_neg hik]; exact hk2
  have keep : Keep s (sset (sset (sset (sset (sset s i (.hp (x.join y))) j (.hp Hp.emp)) i (.hp ((x.join y).join z))) k (.hp Hp.emp)) i (.hp h')) :=
    ((((Keep.set hi (fun b cs T e => by cases e)).trans (Keep.set hj2 (fun b cs T e => by cases e))).trans (Keep.set hi2 (fun b cs T e => by cases e))).trans (Keep.set hk3 (fun b cs T e => by cases e))).trans (Keep.set hi3 (fun b cs T e => by cases e))
  exact ⟨v, _, rfl, hok3.callM hi3 h1, keep.trans (Keep.app _ cs), kk v h' cs h2⟩
theorem Ok.part3 {w0 w : World} {c : Ch} {x y z : Hp} (hok : Ok w0 [c, .hp ((x.join y).join z)] w) (h1 : x.dj y) (h2 : x.dj z) (h3 : y.dj z) : Ok w0 [c, .hp x, .hp z, .hp y] w := by
  have d : (x.join y).dj z := (Hp.dj_both h2.symm h3.symm).symm
  have a := Ok.part (i := 1) hok rfl (Hp.le_join_l (x.join y) z) (Hp.le_join_r d) d
  exact Ok.part (i := 1) a rfl (Hp.le_join_l x y) (Hp.le_join_r h1) h1
end Go.Dw
namespace Go.Proofs.YtnlkffccobdbjaaGreat
open Go Go.RowKit Go.Dw
theorem indexFuncIntsF_spec {a : Option Addr} {n c : Nat} {L : List Int} (g : Nat) (fv : Value) (p : Int → Bool) (w : World) (hL : Sl (encF fI) 1 (Hp.whole w) a n c L) (hn : n < 1000000000)
    (hp : ∀ w', (Hp.whole w).In w' → ∀ x ∈ L, CallsE Tryz.prog g #[fv, .int .i64 x] w' (RetV w' (.bool (p x)))) :
    CallsE Tryz.prog 76 #[.slice a n c, .func (.func g) #[fv] #[]] w (RetV w (.int .i64 (idxBy p L))) := by
  have hlen := hL.len
  refine enter (X := cx 19) (cxg _) (args := [.slice a n c, .func (.func g) #[fv] #[]]) [.tmp 4] Tryz.func76 rfl rfl rfl rfl rfl ?_
  refine NeedL.mk Nat (fun k => [(0, .v (.slice a n c)), (1, .v (.func (.func g) #[fv] #[])), (7, .v (.int .i64 n)), (8, .v (.int .i64 k))]) (fun _ => [.hp (Hp.whole w)])
    (fun k => k ≤ n ∧ ∀ y ∈ L.take k, p y = false) (fun k => n - k) 0 ⟨Nat.zero_le _, by simp⟩ (Ent.mk (fun _ _ h => h) rfl rfl) ?_
  rintro k ⟨hk, ho⟩
  refine bsplitd (fun hlt => ?_) (fun hge => ?_)
  · have hlt' : k < L.length := by omega
    refine idx (cxg _) (e := 3) rfl hL k rfl hlt' (fun b o cs hcs hR hcell => ?_)
    subst hR
    refine ld1 (cxg _) (i := 0) rfl (hcell 0 _ rfl) rfl ?_
    refine callV (.bool (p L[k])) (fun w' hm => hp w' (hm 0 _ rfl) L[k] (List.getElem_mem hlt')) ?_
    refine bsplit (fun hb => ?_) (fun hb => ?_)
    · exact ⟨[], ⟨by rw [idxBy_hit p L k hlt' ho hb], rfl⟩, fun w' h => h.pick [0] rfl rfl⟩
    · refine nw (by omega) (by omega) ?_
      exact ⟨k + 1, ⟨by omega, take_all_step hlt' ho hb⟩, by omega, Ent.mk (fun _ _ h => h) rfl rfl⟩
  · exact ⟨[], ⟨by rw [idxBy_none p L k (by omega) ho], rfl⟩, fun w' h => h.pick [0] rfl rfl⟩
/-- a builder's value -/
def bv (a : Option Addr) (n c : Nat) (a' : Option Addr) (n' c' : Nat) (ja : Option Addr) (jn jc : Nat) (da : Option Addr) (dn dc : Nat) (fa : Option Addr) (fn fc : Nat) : Value :=
  .agg #[.slice a n c, .slice a' n' c', .slice ja jn jc, .slice da dn dc, .slice fa fn fc]
set_option maxRecDepth 10000 in
theorem begin_spec {a a' : Option Addr} {n c n' c' : Nat} {TT : List Tk} {SS : List Sn} (w : World) (hT : Sl encT 4 (Hp.whole w) a n c TT) (hS : Sl encN 2 (Hp.whole w) a' n' c' SS) (hs : Sml TT SS) :
    CallsE Tryz.prog 65 #[sv a n c a' n' c'] w (Ret w fun v cs => ∃ oJ oD oF : Dw.Os, v = bv a n c a' n' c' oJ.a oJ.n oJ.c oD.a oD.n oD.c oF.a oF.n oF.c ∧ cs = [.hp oJ.h, .hp oD.h, .hp oF.h] ∧
      OwnO fJ 52 3 oJ (List.replicate TT.length (0, 0, 0)) ∧ OwnO fB 4 1 oD (List.replicate TT.length false) ∧ OwnO fI 3 1 oF (List.replicate SS.length 0)) := by
  have hlen := hT.len
  have hlen' := hS.len
  have hn1 := hs.n
  have hn2 := hs.m
  refine enter (X := cx 17) (cxg _) (args := [.agg #[.slice a n c, .slice a' n' c']]) [.cell 2 101] Tryz.func65 rfl rfl rfl rfl rfl ?_
  intro b1 b2
  refine NeedD.cut (Dw.Os × Dw.Os × Dw.Os) (fun g => [(2, .bx 2 0)]) (fun g => [.hp (Hp.whole w), .box b1 [.slice a n c, .slice a' n' c'] 25, .box b2 [.slice a n c, .slice a' n' c', g.1.v, g.2.1.v, g.2.2.v] 101, .hp g.1.h, .hp g.2.1.h, .hp g.2.2.h])
    (fun g => OwnO fJ 52 3 g.1 (List.replicate TT.length (0, 0, 0)) ∧ OwnO fB 4 1 g.2.1 (List.replicate TT.length false) ∧ OwnO fI 3 1 g.2.2 (List.replicate SS.length 0)) (NeedD.by_order0 (cxg _) (.take 0 <| .take 1 <| .take 2 <| .take 3 <| .take 5 <| .take 6 <| .take 7 <| .take 9 <| .take 10 <| .take 11 <| .three 4 (.two 8 (.run 12 <| .take 13 <| .run 14 <| .done) 12 (.run 8 <| .take 13 <| .run 14 <| .done)) 8 (.two 4 (.run 12 <| .take 13 <| .run 14 <| .done) 12 (.run 4 <| .take 13 <| .run 14 <| .done)) 12 (.two 4 (.run 8 <| .take 13 <| .run 14 <| .done) 8 (.run 4 <| .take 13 <| .run 14 <| .done))) (by kernel_rfl) (subL_blank _ 2) ?_) ?_
  · skip
    refine ⟨?_, ?_, ?_⟩
    · refine mkO (f := fJ) (cxg _) (e := 52) rfl TT.length (0, 0, 0) rfl (by omega) (by omega) rfl (by omega) fun oJ hoJn hoJ => ?_
      refine ⟨(by repeat first | exact trivial | refine ⟨.inl rfl, ?_⟩ | refine ⟨.inr rfl, ?_⟩), ?_⟩
      constructor
      · refine mkO (f := fB) (cxg _) (e := 4) rfl TT.length false rfl (by omega) (by omega) rfl (by omega) fun oD hoDn hoD => ?_
        refine ⟨(by repeat first | exact trivial | refine ⟨.inl rfl, ?_⟩ | refine ⟨.inr rfl, ?_⟩), ?_⟩
        refine mkO (f := fI) (cxg _) (e := 3) rfl SS.length 0 rfl (by omega) (by omega) rfl (by omega) fun oF hoFn hoF => ?_
        refine ⟨(by repeat first | exact trivial | refine ⟨.inl rfl, ?_⟩ | refine ⟨.inr rfl, ?_⟩), ?_⟩
        exact ⟨(oJ, oD, oF), ⟨hoJ, hoD, hoF⟩, Ent.mk (fun _ _ h => h.pick [0, 1, 2, 3, 4, 5] rfl rfl) rfl rfl⟩
      · refine mkO (f := fI) (cxg _) (e := 3) rfl SS.length 0 rfl (by omega) (by omega) rfl (by omega) fun oF hoFn hoF => ?_
        refine ⟨(by repeat first | exact trivial | refine ⟨.inl rfl, ?_⟩ | refine ⟨.inr rfl, ?_⟩), ?_⟩
        refine mkO (f := fB) (cxg _) (e := 4) rfl TT.length false rfl (by omega) (by omega) rfl (by omega) fun oD hoDn hoD => ?_
        refine ⟨(by repeat first | exact trivial | refine ⟨.inl rfl, ?_⟩ | refine ⟨.inr rfl, ?_⟩), ?_⟩
        exact ⟨(oJ, oD, oF), ⟨hoJ, hoD, hoF⟩, Ent.mk (fun _ _ h => h.pick [0, 1, 2, 3, 5, 4] rfl rfl) rfl rfl⟩
    · refine mkO (f := fB) (cxg _) (e := 4) rfl TT.length false rfl (by omega) (by omega) rfl (by omega) fun oD hoDn hoD => ?_
      refine ⟨(by repeat first | exact trivial | refine ⟨.inl rfl, ?_⟩ | refine ⟨.inr rfl, ?_⟩), ?_⟩
      constructor
      · refine mkO (f := fJ) (cxg _) (e := 52) rfl TT.length (0, 0, 0) rfl (by omega) (by omega) rfl (by omega) fun oJ hoJn hoJ => ?_
        refine ⟨(by repeat first | exact trivial | refine ⟨.inl rfl, ?_⟩ | refine ⟨.inr rfl, ?_⟩), ?_⟩
        refine mkO (f := fI) (cxg _) (e := 3) rfl SS.length 0 rfl (by omega) (by omega) rfl (by omega) fun oF hoFn hoF => ?_
        refine ⟨(by repeat first | exact trivial | refine ⟨.inl rfl, ?_⟩ | refine ⟨.inr rfl, ?_⟩), ?_⟩
        exact ⟨(oJ, oD, oF), ⟨hoJ, hoD, hoF⟩, Ent.mk (fun _ _ h => h.pick [0, 1, 2, 4, 3, 5] rfl rfl) rfl rfl⟩
      · refine mkO (f := fI) (cxg _) (e := 3) rfl SS.length 0 rfl (by omega) (by omega) rfl (by omega) fun oF hoFn hoF => ?_
        refine ⟨(by repeat first | exact trivial | refine ⟨.inl rfl, ?_⟩ | refine ⟨.inr rfl, ?_⟩), ?_⟩
        refine mkO (f := fJ) (cxg _) (e := 52) rfl TT.length (0, 0, 0) rfl (by omega) (by omega) rfl (by omega) fun oJ hoJn hoJ => ?_
        refine ⟨(by repeat first | exact trivial | refine ⟨.inl rfl, ?_⟩ | refine ⟨.inr rfl, ?_⟩), ?_⟩
        exact ⟨(oJ, oD, oF), ⟨hoJ, hoD, hoF⟩, Ent.mk (fun _ _ h => h.pick [0, 1, 2, 5, 3, 4] rfl rfl) rfl rfl⟩
    · refine mkO (f := fI) (cxg _) (e := 3) rfl SS.length 0 rfl (by omega) (by omega) rfl (by omega) fun oF hoFn hoF => ?_
      refine ⟨(by repeat first | exact trivial | refine ⟨.inl rfl, ?_⟩ | refine ⟨.inr rfl, ?_⟩), ?_⟩
      constructor
      · refine mkO (f := fJ) (cxg _) (e := 52) rfl TT.length (0, 0, 0) rfl (by omega) (by omega) rfl (by omega) fun oJ hoJn hoJ => ?_
        refine ⟨(by repeat first | exact trivial | refine ⟨.inl rfl, ?_⟩ | refine ⟨.inr rfl, ?_⟩), ?_⟩
        refine mkO (f := fB) (cxg _) (e := 4) rfl TT.length false rfl (by omega) (by omega) rfl (by omega) fun oD hoDn hoD => ?_
        refine ⟨(by repeat first | exact trivial | refine ⟨.inl rfl, ?_⟩ | refine ⟨.inr rfl, ?_⟩), ?_⟩
        exact ⟨(oJ, oD, oF), ⟨hoJ, hoD, hoF⟩, Ent.mk (fun _ _ h => h.pick [0, 1, 2, 4, 5, 3] rfl rfl) rfl rfl⟩
      · refine mkO (f := fB) (cxg _) (e := 4) rfl TT.length false rfl (by omega) (by omega) rfl (by omega) fun oD hoDn hoD => ?_
        refine ⟨(by repeat first | exact trivial | refine ⟨.inl rfl, ?_⟩ | refine ⟨.inr rfl, ?_⟩), ?_⟩
        refine mkO (f := fJ) (cxg _) (e := 52) rfl TT.length (0, 0, 0) rfl (by omega) (by omega) rfl (by omega) fun oJ hoJn hoJ => ?_
        refine ⟨(by repeat first | exact trivial | refine ⟨.inl rfl, ?_⟩ | refine ⟨.inr rfl, ?_⟩), ?_⟩
        exact ⟨(oJ, oD, oF), ⟨hoJ, hoD, hoF⟩, Ent.mk (fun _ _ h => h.pick [0, 1, 2, 5, 4, 3] rfl rfl) rfl rfl⟩
  rintro ⟨oJ, oD, oF⟩ ⟨h1, h2, h3⟩ _
  exact ⟨[.hp oJ.h, .hp oD.h, .hp oF.h], ⟨oJ, oD, oF, rfl, rfl, h1, h2, h3⟩, fun w' h => h.pick [0, 3, 4, 5] rfl rfl⟩
end Go.Proofs.YtnlkffccobdbjaaGreat
namespace Go.Proofs.YtnlkffccobdbjaaGreat
open Go Go.RowKit Go.Dw
def opnF (TT : List Tk) (D : List Bool) (i : Nat) : Bool := !(D.getD i false) && !((TT.getD i default).af.any fun k => !(D.getD k.toNat false))
def staF (TT : List Tk) (J : List Jb) (Fr : List Int) (i k : Nat) : Int := max (Fr.getD k 0) (rdyJ TT J i)
theorem gD {α : Type} {L : List α} {i : Nat} {d : α} (h : i < L.length) : L.getD i d = L[i] := by rw [List.getD_eq_getElem?_getD, List.getElem?_eq_getElem h]; rfl
theorem open1_spec {b : Nat} {a : Option Addr} {n c : Nat} {D : List Bool} (w : World) (h1 : (Hp.whole w).cell? ⟨b, 3, none⟩ = some (.slice a n c)) (hD : Sl (encF fB) 1 (Hp.whole w) a n c D) {x : Int} (h0 : 0 ≤ x) (hx : x.toNat < D.length) :
    CallsE Tryz.prog 129 #[.int .i64 x, .pointer (some ⟨b, 0, none⟩)] w (RetV w (.bool (!(D.getD x.toNat false)))) := by
  rw [gD hx]
  refine enter (X := cx 10) (cxg _) (args := [.int .i64 x, .pointer (some ⟨b, 0, none⟩)]) [.tmp 3] Tryz.func129 rfl rfl rfl rfl rfl ?_
  refine ld1 (cxg _) (i := 0) rfl h1 rfl ?_
  refine idx (cxg _) (e := 4) rfl hD x.toNat (by omega) hx (fun b o cs hcs hR hcell => ?_)
  subst hR
  refine ld1 (cxg _) (i := 0) rfl (hcell 0 _ rfl) rfl ?_
  exact ⟨[], ⟨rfl, rfl⟩, fun w' h => h⟩
section
variable {a a' : Option Addr} {n c n' c' : Nat} {TT : List Tk} {SS : List Sn} {ja : Option Addr} {jn jc : Nat} {da : Option Addr} {dn dc : Nat} {fa : Option Addr} {fn fc : Nat}
theorem open_spec {D : List Bool} (i : Nat) (w : World) (hT : Sl encT 4 (Hp.whole w) a n c TT) (hF : Fit TT) (hD : Sl (encF fB) 1 (Hp.whole w) da dn dc D) (hi : i < TT.length) (hl : D.length = TT.length) :
    CallsE Tryz.prog 104 #[bv a n c a' n' c' ja jn jc da dn dc fa fn fc, .int .i64 i] w (RetV w (.bool (opnF TT D i))) := by
  obtain ⟨t, ht⟩ : ∃ t, t = TT[i] := ⟨_, rfl⟩
  have htm : t ∈ TT := by rw [ht]; exact List.getElem_mem hi
  have har := hF.ar t htm
  have hal := hF.al t htm
  have hiD : i < D.length := by omega
  obtain ⟨d, hd⟩ : ∃ d, d = D[i] := ⟨_, rfl⟩
  have hop : opnF TT D i = (!d && !(t.af.any fun k => !(D.getD k.toNat false))) := by unfold opnF; rw [tk_get hi, ← ht, gD hiD, ← hd]
  refine enter (X := cx 23) (cxg _) (args := [.agg #[.slice a n c, .slice a' n' c', .slice ja jn jc, .slice da dn dc, .slice fa fn fc], .int .i64 i]) [.tmp 4] Tryz.func104 rfl rfl rfl rfl rfl ?_
  intro b2
  refine idx (cxg _) (e := 4) rfl hD i rfl hiD (fun b9 o9 cs hcs hR hcell => ?_)
  rw [← hd] at hR
  subst hR
  refine ld1 (cxg _) (i := 0) rfl (hcell 0 _ rfl) rfl ?_
  refine bsplit (fun h => ?_) (fun h => ?_)
  · refine idx (cxg _) (e := 64) rfl hT i rfl hi (fun b9 o9 cs hcs hR hcell => ?_)
    rw [← ht] at hR
    obtain ⟨a3, n3, c3, rfl, hs3⟩ := hR
    have l3 := hs3.len
    refine ld1 (cxg _) (i := 0) rfl (hcell 3 _ rfl) rfl ?_
    refine callV _ (fun w' hm => containsFuncInts_spec 129 (.pointer (some ⟨b2, 0, none⟩)) (fun k => !(D.getD k.toNat false)) w' (hs3.mono (encF_mono _) (hm 0 _ rfl)) (by omega) (fun w2 h2 x hx => ?_)) ?_
    · obtain ⟨r1, r2⟩ := har x hx
      exact open1_spec (b := b2) (a := da) (n := dn) (c := dc) w2 (((hm 1 _ rfl).whole.trans h2.whole).cell (by simp [Ch.h, Hp.cell?, Hp.one])) (hD.mono (encF_mono _) ((hm 0 _ rfl).whole.trans h2.whole)) r1 (by omega)
    exact ⟨[], ⟨by rw [hop, h]; rfl, rfl⟩, fun w' h => h.pick [0] rfl rfl⟩
  · exact ⟨[], ⟨by rw [hop, h]; rfl, rfl⟩, fun w' h => h.pick [0] rfl rfl⟩
theorem start_spec {J : List Jb} {Fr : List Int} (i k : Nat) (w : World) (hT : Sl encT 4 (Hp.whole w) a n c TT) (hF : Fit TT) (hJ : Sl (encF fJ) 3 (Hp.whole w) ja jn jc J) (hJo : ∀ j ∈ J, JOk TT.length j) (hjl : J.length = TT.length) (hFr : Sl (encF fI) 1 (Hp.whole w) fa fn fc Fr) (hi : i < TT.length) (hk : k < Fr.length) :
    CallsE Tryz.prog 105 #[bv a n c a' n' c' ja jn jc da dn dc fa fn fc, .int .i64 i, .int .i64 k] w (RetV w (.int .i64 (staF TT J Fr i k))) := by
  obtain ⟨x, hx⟩ : ∃ x, x = Fr[k] := ⟨_, rfl⟩
  have hst : staF TT J Fr i k = max x (rdyJ TT J i) := by unfold staF; rw [gD hk, ← hx]
  refine enter (X := cx 19) (cxg _) (args := [.agg #[.slice a n c, .slice a' n' c', .slice ja jn jc, .slice da dn dc, .slice fa fn fc], .int .i64 i, .int .i64 k]) [.tmp 6] Tryz.func105 rfl rfl rfl rfl rfl ?_
  intro b3
  refine NeedD.by_order (cxg _) (.take 0 <| .take 1 <| .take 2 <| .take 3 <| .take 4 <| .take 5 <| .take 6 <| .take 7 <| .take 8 <| .take 9 <| .run 10 <| .run 11 <| .take 12 <| .done) (by kernel_rfl) ?_
  refine idx (cxg _) (e := 3) rfl hFr k rfl hk (fun b9 o9 cs hcs hR hcell => ?_)
  rw [← hx] at hR
  subst hR
  refine ld1 (cxg _) (i := 0) rfl (hcell 0 _ rfl) rfl ?_
  refine callV _ (fun w' hm => ready_spec' i w' (hT.mono encT_mono (hm 0 _ rfl)) hF (hJ.mono (encF_mono _) (hm 0 _ rfl)) hJo hjl hi) ?_
  refine ⟨(by repeat first | exact trivial | refine ⟨.inl rfl, ?_⟩ | refine ⟨.inr rfl, ?_⟩), ?_⟩
  refine qMax ?_
  refine ⟨(by repeat first | exact trivial | refine ⟨.inl rfl, ?_⟩ | refine ⟨.inr rfl, ?_⟩), ?_⟩
  exact ⟨[], ⟨by rw [hst], rfl⟩, fun w' h => h.pick [0] rfl rfl⟩
end
end Go.Proofs.YtnlkffccobdbjaaGreat
namespace Go.Proofs.YtnlkffccobdbjaaGreat
open Go Go.RowKit Go.Dw
def putJ (TT : List Tk) (J : List Jb) (Fr : List Int) (i k : Nat) : List Jb := J.set i ((i : Int), (k : Int), staF TT J Fr i k)
def putF (TT : List Tk) (J : List Jb) (Fr : List Int) (i k : Nat) : List Int := Fr.set k (endF TT ((i : Int), (k : Int), staF TT J Fr i k))
set_option maxRecDepth 10000 in
theorem put_spec {a a' : Option Addr} {n c n' c' : Nat} {TT : List Tk} {J : List Jb} {D : List Bool} {Fr : List Int} (oJ oD oF : Dw.Os) (i k : Nat) (w : World) (hin : ((oJ.h.join oD.h).join oF.h).In w) (d1 : oJ.h.dj oD.h) (d2 : oJ.h.dj oF.h) (d3 : oD.h.dj oF.h)
    (hT : Sl encT 4 ((Hp.whole w).minus ((oJ.h.join oD.h).join oF.h)) a n c TT) (hF : Fit TT) (hoJ : OwnO fJ 52 3 oJ J) (hoD : OwnO fB 4 1 oD D) (hoF : OwnO fI 3 1 oF Fr)
    (hJo : ∀ j ∈ J, JOk TT.length j) (hjl : J.length = TT.length) (hdl : D.length = TT.length) (hi : i < TT.length) (hk : k < Fr.length) (hst : 0 ≤ staF TT J Fr i k ∧ staF TT J Fr i k ≤ 1000000000000) :
    CallsE Tryz.prog 106 #[bv a n c a' n' c' oJ.a oJ.n oJ.c oD.a oD.n oD.c oF.a oF.n oF.c, .int .i64 i, .int .i64 k] w (RetM w ((oJ.h.join oD.h).join oF.h) fun v h' cs => v = .tuple #[] ∧ cs = [] ∧ ∃ hJ hD hF, h' = (hJ.join hD).join hF ∧ hJ.dj hD ∧ hJ.dj hF ∧ hD.dj hF ∧
      OwnO fJ 52 3 ⟨oJ.a, oJ.n, oJ.c, hJ⟩ (putJ TT J Fr i k) ∧ OwnO fB 4 1 ⟨oD.a, oD.n, oD.c, hD⟩ (D.set i true) ∧ OwnO fI 3 1 ⟨oF.a, oF.n, oF.c, hF⟩ (putF TT J Fr i k)) := by
  obtain ⟨c0, hc0⟩ : ∃ c0, c0 = (Hp.whole w).minus ((oJ.h.join oD.h).join oF.h) := ⟨_, rfl⟩
  rw [← hc0] at hT
  have ok0 : Ok w [.hp c0, .hp oJ.h, .hp oF.h, .hp oD.h] w := by rw [hc0]; exact Ok.part3 (Ok.start2 w hin) d1 d2 d3
  obtain ⟨st, hst0⟩ : ∃ st, st = staF TT J Fr i k := ⟨_, rfl⟩
  rw [← hst0] at hst
  have hsJ := OwnO.sl (f := fJ) (fun _ => rfl) (by decide) hoJ
  have hsF := OwnO.sl (f := fI) (fun _ => rfl) (by decide) hoF
  have hiJ : i < J.length := by omega
  have hiD : i < D.length := by omega
  have hjo : JOk TT.length ((i : Int), (k : Int), st) := ⟨⟨by dsimp only; omega, by dsimp only; omega⟩, hst⟩
  have hset : (J.set i ((i : Int), (k : Int), st))[i]'(by rw [List.length_set]; exact hiJ) = ((i : Int), (k : Int), st) := by simp
  have kS : ∀ w' : World, Sl encT 4 (Hp.whole w') a n c TT → Sl (encF fJ) 3 (Hp.whole w') oJ.a oJ.n oJ.c J → Sl (encF fI) 1 (Hp.whole w') oF.a oF.n oF.c Fr →
      CallsE Tryz.prog 105 #[bv a n c a' n' c' oJ.a oJ.n oJ.c oD.a oD.n oD.c oF.a oF.n oF.c, .int .i64 i, .int .i64 k] w' (RetV w' (.int .i64 st)) := fun w' h1 h2 h3 => by
    rw [hst0]; exact start_spec i k w' h1 hF h2 hJo hjl h3 hi hk
  refine enterMS (X := cx 33) (cxg _) (args := [.agg #[.slice a n c, .slice a' n' c', .slice oJ.a oJ.n oJ.c, .slice oD.a oD.n oD.c, .slice oF.a oF.n oF.c], .int .i64 i, .int .i64 k]) ok0 [] Tryz.func106 rfl rfl rfl rfl rfl ?_
  intro b3
  refine NeedD.cut Dw.Os (fun g => [(1, .v (.int .i64 i)), (2, .v (.int .i64 k)), (3, .bx 4 0)]) (fun g => [.hp c0, .hp g.h, .hp oF.h, .hp oD.h, .box b3 [.slice a n c, .slice a' n' c', .slice oJ.a oJ.n oJ.c, .slice oD.a oD.n oD.c, .slice oF.a oF.n oF.c] 101])
    (fun g => (g.a = oJ.a ∧ g.n = oJ.n ∧ g.c = oJ.c) ∧ OwnO fJ 52 3 g (J.set i ((i : Int), (k : Int), st))) (NeedD.by_order0 (cxg _) (.take 0 <| .take 1 <| .take 2 <| .take 3 <| .take 4 <| .take 5 <| .take 6 <| .take 7 <| .run 8 <| .take 9 <| .take 10 <| .run 11 <| .done) (by kernel_rfl) (subL_blank _ 1) ?_) ?_
  · refine callV _ (fun w' hm => kS w' (hT.mono encT_mono (hm 0 _ rfl)) (hsJ.mono (encF_mono _) (hm 1 _ rfl)) (hsF.mono (encF_mono _) (hm 2 _ rfl))) ?_
    refine ⟨(by repeat first | exact trivial | refine ⟨.inl rfl, ?_⟩ | refine ⟨.inr rfl, ?_⟩), ?_⟩
    refine oidxN (cxg _) (e := 52) rfl hoJ i rfl hiJ fun b8 hb8 => ?_
    refine ostoN (f := fJ) (cxg _) (sz := 3) (fun _ => rfl) (i := 1) rfl hb8 hoJ hiJ rfl rfl ((i : Int), (k : Int), st) rfl rfl rfl fun o2 f1 f2 f3 ho2 => ?_
    exact ⟨o2, ⟨⟨f1, f2, f3⟩, ho2⟩, Ent.mk (fun _ _ h => h) rfl rfl⟩
  rintro o2 ⟨⟨e1, e2, e3⟩, ho2⟩ _
  obtain ⟨ja, jn, jc, hJ2⟩ := o2
  simp only at e1 e2 e3
  subst e1 e2 e3
  dsimp only
  have hsJ2 := OwnO.sl (f := fJ) (fun _ => rfl) (by decide) ho2
  refine oidx1 (cxg _) (e := 4) rfl rfl hoD i rfl hiD fun b7 hb7 => ?_
  refine osto (g := fun x : Bool => .bool x) (fun _ => rfl) (cxg _) (i := 3) rfl hb7 hoD hiD rfl rfl true rfl rfl rfl fun o3 f1 f2 f3 ho3 => ?_
  obtain ⟨da, dn, dc, hD2⟩ := o3
  simp only at f1 f2 f3
  subst f1 f2 f3
  refine NeedD.cut Dw.Os (fun g => [(1, .v (.int .i64 i))]) (fun g => [.hp c0, .hp hJ2, .hp g.h, .hp hD2]) (fun g => (g.a = oF.a ∧ g.n = oF.n ∧ g.c = oF.c) ∧ OwnO fI 3 1 g (Fr.set k (endF TT ((i : Int), (k : Int), st)))) (NeedD.by_order0 (cxg _) (.take 0 <| .take 1 <| .take 2 <| .take 3 <| .take 4 <| .take 5 <| .take 6 <| .take 7 <| .take 8 <| .take 9 <| .run 10 <| .take 11 <| .run 12 <| .done) (by kernel_rfl) (subL_blank _ 2) ?_) ?_
  · refine idx (cxg _) (e := 52) rfl hsJ2 i rfl (by rw [List.length_set]; exact hiJ) (fun b9 o9 cs hcs hR hcell => ?_)
    rw [hset] at hR
    subst hR
    refine ldn (cxg _) (i := 1) rfl hcell rfl ?_
    refine callV _ (fun w' hm => end_spec (i : Int) (k : Int) st w' (hT.mono encT_mono (hm 0 _ rfl)) hF hjo) ?_
    refine ⟨(by repeat first | exact trivial | refine ⟨.inl rfl, ?_⟩ | refine ⟨.inr rfl, ?_⟩), ?_⟩
    refine oidx1 (cxg _) (e := 3) rfl rfl hoF k rfl hk fun b6 hb6 => ?_
    refine osto (g := fun x : Int => .int .i64 x) (fun _ => rfl) (cxg _) (i := 2) rfl hb6 hoF hk rfl rfl (endF TT ((i : Int), (k : Int), st)) rfl rfl rfl fun o4 f1 f2 f3 ho4 => ?_
    exact ⟨o4, ⟨⟨f1, f2, f3⟩, ho4⟩, Ent.mk (fun _ _ h => h.pick [0, 1, 2, 3] rfl rfl) rfl rfl⟩
  rintro o4 ⟨⟨e1, e2, e3⟩, ho4⟩ hsat
  obtain ⟨fa, fn, fc, hF2⟩ := o4
  simp only at e1 e2 e3
  subst e1 e2 e3
  have q1 : hJ2.dj hD2 := hsat.dj 1 3 rfl rfl (by decide)
  have q2 : hJ2.dj hF2 := hsat.dj 1 2 rfl rfl (by decide)
  have q3 : hD2.dj hF2 := hsat.dj 3 2 rfl rfl (by decide)
  refine ⟨(hJ2.join hD2).join hF2, [], ⟨rfl, rfl, hJ2, hD2, hF2, rfl, q1, q2, q3, by unfold putJ; rw [← hst0]; exact ho2, ho3, by unfold putF; rw [← hst0]; exact ho4⟩, fun w' h => ?_⟩
  rw [← hc0]
  exact Ok.join (c := .hp c0) (d := .hp (hJ2.join hD2)) (e := .hp hF2) (s := []) (Ok.join (c := .hp c0) (d := .hp hJ2) (e := .hp hD2) (s := [.hp hF2]) (h.pick [0, 1, 3, 2] rfl rfl))
end Go.Proofs.YtnlkffccobdbjaaGreat
namespace Go.Proofs.YtnlkffccobdbjaaGreat
open Go Go.RowKit Go.Dw
theorem opn_rdy {TT : List Tk} {S : List Nat} {i : Nat} (hi : i < TT.length) (har : ∀ x ∈ (TT[i]).af, 0 ≤ x ∧ x < (TT.length : Int)) : opnF TT (dnL TT.length S) i = rdyT TT S i := by
  have gd : ∀ v, v < TT.length → (dnL TT.length S).getD v false = decide (v ∈ S) := fun v hv => by
    rw [gD (by rw [dnL_len]; exact hv), dnL_get]
  unfold opnF rdyT
  rw [gd i hi, tk_get hi, List.not_any_eq_all_not]
  congr 1
  rw [Bool.eq_iff_iff, List.all_eq_true, List.all_eq_true]
  refine forall_congr' fun x => forall_congr' fun hx => ?_
  have := har x hx
  rw [gd x.toNat (by omega), Bool.not_not]
theorem ord_rdy (TT : List Tk) : ∀ k p (hp : p < (ordT TT k).length), rdyT TT ((ordT TT k).take p) (ordT TT k)[p] = true
  | 0, p, hp => by simp [ordT] at hp
  | k + 1, p, hp => by
    have ih := ord_rdy TT k
    cases hn : nxtT TT (ordT TT k) with
    | none =>
      have e : ordT TT (k + 1) = ordT TT k := by
        show (match nxtT TT (ordT TT k) with | some i => ordT TT k ++ [i] | none => ordT TT k) = _
        rw [hn]
      have : ∀ (L : List Nat) (hL : L = ordT TT k) (hp : p < L.length), rdyT TT (L.take p) L[p] = true := fun L hL hp => by subst hL; exact ih p hp
      exact this _ e hp
    | some i =>
      have e : ordT TT (k + 1) = ordT TT k ++ [i] := by
        show (match nxtT TT (ordT TT k) with | some i => ordT TT k ++ [i] | none => ordT TT k) = _
        rw [hn]
      have : ∀ (L : List Nat) (hL : L = ordT TT k ++ [i]) (hp : p < L.length), rdyT TT (L.take p) L[p] = true := fun L hL hp => by
        subst hL
        rw [List.length_append, List.length_singleton] at hp
        by_cases h : p < (ordT TT k).length
        · rw [List.getElem_append_left h, List.take_append_of_le_length (by omega)]
          exact ih p h
        · have hpe : p = (ordT TT k).length := by omega
          subst hpe
          rw [List.getElem_append_right (Nat.le_refl _), List.take_left]
          simp only [Nat.sub_self, List.getElem_cons_zero]
          exact (nxt_some hn).2.1
      exact this _ e hp
theorem rdy_more {TT : List Tk} {A S : List Nat} {i : Nat} (h : rdyT TT A i = true) (hs : ∀ v ∈ A, v ∈ S) (hi : i ∉ S) : rdyT TT S i = true := by
  unfold rdyT at h ⊢
  rw [Bool.and_eq_true, List.all_eq_true] at h ⊢
  refine ⟨by rw [decide_eq_false hi]; rfl, fun x hx => ?_⟩
  have := h.2 x hx
  exact decide_eq_true (hs _ (of_decide_eq_true this))
theorem ex_open {TT : List Tk} (hO : TT.length ≤ (ordF TT).length) {S : List Nat} (hS : S.length < TT.length) : ∃ i, i < TT.length ∧ rdyT TT S i = true := by
  obtain ⟨f1, f2, f3⟩ := ordT_fine TT TT.length
  have hex : ∃ p, ∃ hp : p < (ordF TT).length, (ordF TT)[p] ∉ S ∧ ∀ q (hq : q < p), (ordF TT)[q]'(by omega) ∈ S := by
    have h1 : ¬ ∀ x ∈ ordF TT, x ∈ S := fun h => by
      have := sub_len_of f1 h
      unfold ordF at hO
      omega
    have key : ∀ b, (∃ p, p < b ∧ ∃ hp : p < (ordF TT).length, (ordF TT)[p] ∉ S) → ∃ p, ∃ hp : p < (ordF TT).length, (ordF TT)[p] ∉ S ∧ ∀ q (hq : q < p), (ordF TT)[q]'(by omega) ∈ S := by
      intro b
      induction b with
      | zero => rintro ⟨p, hp, _⟩; omega
      | succ b ih =>
        rintro ⟨p, hpb, hp, hn⟩
        rcases Classical.em (∃ p, p < b ∧ ∃ hp : p < (ordF TT).length, (ordF TT)[p] ∉ S) with h2 | h2
        · exact ih h2
        · refine ⟨p, hp, hn, fun q hq => Classical.byContradiction fun hx => h2 ⟨q, by omega, by omega, hx⟩⟩
    have h2 : ∃ x ∈ ordF TT, x ∉ S := Classical.byContradiction fun h => h1 fun x hx => Classical.byContradiction fun hx2 => h ⟨x, hx, hx2⟩
    obtain ⟨x, hx, hxs⟩ := h2
    obtain ⟨p, hp, rfl⟩ := List.mem_iff_getElem.1 hx
    exact key (p + 1) ⟨p, by omega, hp, hxs⟩
  obtain ⟨p, hp, hn, hall⟩ := hex
  refine ⟨(ordF TT)[p], ordF_lt _ (List.getElem_mem hp), rdy_more (ord_rdy TT TT.length p hp) (fun v hv => ?_) hn⟩
  obtain ⟨q, hq, rfl⟩ := List.mem_iff_getElem.1 hv
  have hq' : q < p := by rw [List.length_take] at hq; omega
  rw [List.getElem_take]
  exact hall q hq'
theorem idx_get {p : Int → Bool} : ∀ {L : List Int}, L.any p = true → ∃ h : (idxBy p L).toNat < L.length, 0 ≤ idxBy p L ∧ p L[(idxBy p L).toNat] = true
  | [], h => by cases h
  | x :: r, h => by
    by_cases hx : p x = true
    · have e : idxBy p (x :: r) = 0 := by unfold idxBy; rw [if_pos hx]
      refine ⟨by rw [e]; simp, by rw [e]; exact Int.le_refl _, ?_⟩
      have : ∀ (z : Int) (hz : z = 0) (h : z.toNat < (x :: r).length), p (x :: r)[z.toNat] = true := fun z hz h => by subst hz; exact hx
      exact this _ e _
    · rw [List.any_cons, Bool.or_eq_true] at h
      obtain ⟨h1, h2, h3⟩ := idx_get (L := r) (h.resolve_left hx)
      have e : idxBy p (x :: r) = idxBy p r + 1 := by
        show (if p x then 0 else (if idxBy p r < 0 then -1 else idxBy p r + 1)) = idxBy p r + 1
        rw [if_neg hx, if_neg (by omega)]
      have e2 : (idxBy p (x :: r)).toNat = (idxBy p r).toNat + 1 := by omega
      refine ⟨by rw [e2]; simpa using h1, by omega, ?_⟩
      have : ∀ (z : Nat) (hz : z = (idxBy p r).toNat + 1) (h : z < (x :: r).length), p (x :: r)[z] = true := fun z hz h => by subst hz; exact h3
      exact this _ e2 _
end Go.Proofs.YtnlkffccobdbjaaGreat
namespace Go.Proofs.YtnlkffccobdbjaaGreat
open Go Go.RowKit Go.Dw
def lisI (TT : List Tk) (D : List Bool) (order : List Int) : Nat := (order.getD (idxBy (fun x => opnF TT D x.toNat) order).toNat 0).toNat
def bstK (TT : List Tk) (SS : List Sn) (J : List Jb) (Fr : List Int) (i : Nat) : Nat → Int
  | 0 => -1
  | k + 1 => if canS (TT.getD i default).tl (SS.getD k default) && (decide (bstK TT SS J Fr i k < 0) || decide (staF TT J Fr i k < staF TT J Fr i (bstK TT SS J Fr i k).toNat)) then (k : Int) else bstK TT SS J Fr i k
theorem bst_rng (TT : List Tk) (SS : List Sn) (J : List Jb) (Fr : List Int) (i : Nat) : ∀ k, -1 ≤ bstK TT SS J Fr i k ∧ bstK TT SS J Fr i k < k ∧ ((∃ j, j < k ∧ canS (TT.getD i default).tl (SS.getD j default) = true) → 0 ≤ bstK TT SS J Fr i k)
  | 0 => ⟨by simp [bstK], by simp [bstK], fun ⟨j, hj, _⟩ => by omega⟩
  | k + 1 => by
    obtain ⟨h1, h2, h3⟩ := bst_rng TT SS J Fr i k
    unfold bstK
    split
    · exact ⟨by omega, by omega, fun _ => by omega⟩
    · rename_i hn
      refine ⟨h1, by omega, fun ⟨j, hj, hc⟩ => ?_⟩
      rcases Nat.lt_or_ge j k with h | h
      · exact h3 ⟨j, h, hc⟩
      · have : j = k := by omega
        subst this
        rw [hc, Bool.true_and, Bool.or_eq_true, decide_eq_true_eq] at hn
        have := fun g => hn (.inl g)
        omega
def lisK (TT : List Tk) (SS : List Sn) (order : List Int) : Nat → List Jb × List Bool × List Int
  | 0 => (List.replicate TT.length (0, 0, 0), List.replicate TT.length false, List.replicate SS.length 0)
  | m + 1 =>
    let s := lisK TT SS order m
    let i := lisI TT s.2.1 order
    let k := (bstK TT SS s.1 s.2.2 i SS.length).toNat
    (putJ TT s.1 s.2.2 i k, s.2.1.set i true, putF TT s.1 s.2.2 i k)
/-- what holds when m jobs are given -/
structure Inv (TT : List Tk) (SS : List Sn) (s : List Jb × List Bool × List Int) (m : Nat) : Prop where
  jl : s.1.length = TT.length
  fl : s.2.2.length = SS.length
  dl : ∃ S : List Nat, s.2.1 = dnL TT.length S ∧ S.Nodup ∧ S.length = m
  jo : ∀ j ∈ s.1, (0 ≤ j.1 ∧ j.1 < (TT.length : Int)) ∧ 0 ≤ j.2.2 ∧ j.2.2 ≤ 2097152 * m
  fo : ∀ x ∈ s.2.2, 0 ≤ x ∧ x ≤ 2097152 * m + 1048576
theorem Inv.zero (TT : List Tk) (SS : List Sn) : Inv TT SS (List.replicate TT.length (0, 0, 0), List.replicate TT.length false, List.replicate SS.length 0) 0 := by
  refine ⟨by simp, by simp, ⟨[], ?_, List.nodup_nil, rfl⟩, fun j hj => ?_, fun x hx => ?_⟩
  · apply List.ext_getElem
    · simp [dnL]
    · intro j h1 h2; rw [dnL_get h2]; simp
  · have hj' := List.eq_of_mem_replicate hj
    have hp : 0 < TT.length := by
      rcases Nat.eq_zero_or_pos TT.length with h | h
      · dsimp only at hj; rw [h] at hj; simp at hj
      · exact h
    subst hj'
    exact ⟨⟨Int.le_refl _, by dsimp only; omega⟩, Int.le_refl _, by simp⟩
  · have hx' := List.eq_of_mem_replicate hx
    subst hx'
    exact ⟨Int.le_refl _, by simp⟩
theorem fold_max_le {TT : List Tk} {L : List Jb} {b : Int} (hL : ∀ k : Nat, endF TT (L.getD k (0, 0, 0)) ≤ b) : ∀ (A : List Int) (m : Int), m ≤ b → A.foldl (fun t k => max t (endF TT (L.getD k.toNat (0, 0, 0)))) m ≤ b
  | [], m, h => h
  | x :: A, m, h => fold_max_le hL A _ (by have := hL x.toNat; dsimp only; omega)
theorem Inv.sta {TT : List Tk} {SS : List Sn} {s : List Jb × List Bool × List Int} {m : Nat} (h : Inv TT SS s m) (hF : Fit TT) (hm : m ≤ 100) {i k : Nat} (hi : i < TT.length) (hk : k < SS.length) : 0 ≤ staF TT s.1 s.2.2 i k ∧ staF TT s.1 s.2.2 i k ≤ 2097152 * m + 1048576 := by
  have hp : 0 < TT.length := by omega
  have hk' : k < s.2.2.length := by rw [h.fl]; exact hk
  have hf := h.fo _ (List.getElem_mem hk')
  have he : ∀ k : Nat, endF TT (s.1.getD k (0, 0, 0)) ≤ 2097152 * m + 1048576 := fun v => by
    have key : ∀ j : Jb, ((0 ≤ j.1 ∧ j.1 < (TT.length : Int)) ∧ 0 ≤ j.2.2 ∧ j.2.2 ≤ 2097152 * m) → endF TT j ≤ 2097152 * m + 1048576 := fun j hj => by
      have hv : j.1.toNat < TT.length := by omega
      have := hF.du _ (List.getElem_mem hv)
      unfold endF; rw [tk_get hv]; omega
    by_cases hv : v < s.1.length
    · rw [gD hv]; exact key _ (h.jo _ (List.getElem_mem hv))
    · rw [List.getD_eq_getElem?_getD, List.getElem?_eq_none (by omega)]
      exact key (0, 0, 0) ⟨⟨Int.le_refl _, by dsimp only; omega⟩, Int.le_refl _, by dsimp only; omega⟩
  have hr : rdyJ TT s.1 i ≤ 2097152 * m + 1048576 := fold_max_le he _ 0 (by omega)
  unfold staF
  rw [gD hk']
  omega
theorem Inv.step {TT : List Tk} {SS : List Sn} {s : List Jb × List Bool × List Int} {m : Nat} (h : Inv TT SS s m) (hF : Fit TT) (hm : m ≤ 100) {i k : Nat} (hi : i < TT.length) (hk : k < SS.length) (ho : opnF TT s.2.1 i = true) : Inv TT SS (putJ TT s.1 s.2.2 i k, s.2.1.set i true, putF TT s.1 s.2.2 i k) (m + 1) := by
  have hst := h.sta hF hm hi hk
  have hdu := hF.du _ (List.getElem_mem hi)
  obtain ⟨S, hS, hnd, hSl⟩ := h.dl
  refine ⟨by unfold putJ; rw [List.length_set]; exact h.jl, by unfold putF; rw [List.length_set]; exact h.fl, ⟨S ++ [i], ?_, ?_, by simp [hSl]⟩, fun j hj => ?_, fun x hx => ?_⟩
  · dsimp only; rw [hS, dnL_set]
  · refine List.nodup_append.2 ⟨hnd, by simp, fun a ha b hb e => ?_⟩
    rw [List.mem_singleton.1 hb] at e
    rw [hS, opn_rdy hi (hF.ar _ (List.getElem_mem hi))] at ho
    exact rdy_new ho (e ▸ ha)
  · unfold putJ at hj
    rcases List.mem_or_eq_of_mem_set hj with h1 | rfl
    · have := h.jo j h1; refine ⟨this.1, this.2.1, ?_⟩; have := this.2.2; omega
    · exact ⟨⟨by dsimp only; omega, by dsimp only; omega⟩, hst.1, by dsimp only; omega⟩
  · unfold putF at hx
    rcases List.mem_or_eq_of_mem_set hx with h1 | rfl
    · have := h.fo x h1; omega
    · unfold endF
      dsimp only
      rw [Int.toNat_natCast, tk_get hi]
      omega
theorem Inv.ok {TT : List Tk} {SS : List Sn} {s : List Jb × List Bool × List Int} {m : Nat} (h : Inv TT SS s m) (hm : m ≤ 100) : ∀ j ∈ s.1, JOk TT.length j := fun j hj => by
  have := h.jo j hj
  exact ⟨this.1, this.2.1, by omega⟩
end Go.Proofs.YtnlkffccobdbjaaGreat
namespace Go.Proofs.YtnlkffccobdbjaaGreat
open Go Go.RowKit Go.Dw
set_option maxHeartbeats 1000000 in
set_option maxRecDepth 10000 in
theorem list_spec {a a' : Option Addr} {n c n' c' : Nat} {TT : List Tk} {SS : List Sn} {oa : Option Addr} {on oc : Nat} {order : List Int} (w : World) (hT : Sl encT 4 (Hp.whole w) a n c TT) (hS : Sl encN 2 (Hp.whole w) a' n' c' SS) (hs : Sml TT SS) (hE : shopE TT SS = 0) (hO : Sl (encF fI) 1 (Hp.whole w) oa on oc order)
    (hol : order.length = TT.length) (hor : ∀ x ∈ order, 0 ≤ x ∧ x < (TT.length : Int)) (hoa : ∀ i : Nat, i < TT.length → (i : Int) ∈ order) :
    CallsE Tryz.prog 66 #[sv a n c a' n' c', .slice oa on oc] w (Ret w fun v cs => ∃ o : Dw.Os, v = o.v ∧ cs = [.hp o.h] ∧ OwnO fJ 52 3 o (lisK TT SS order order.length).1) := by
  have hlen := hT.len
  have hlen' := hS.len
  have hon := hO.len
  have hF := fit_of hs hE
  have hN := hF.n
  obtain ⟨_, hM, _, hfull, _, hcan⟩ := shop_ok hE
  refine enter (X := cx 56) (cxg _) (args := [.agg #[.slice a n c, .slice a' n' c'], .slice oa on oc]) [.tmp 4] Tryz.func66 rfl rfl rfl rfl rfl ?_
  intro b2
  refine call (fun w' hm => begin_spec w' (hT.mono encT_mono (hm 0 _ rfl)) (hS.mono encN_mono (hm 0 _ rfl)) hs) ?_
  rintro _ _ ⟨oJ, oD, oF, rfl, rfl, hoJ, hoD, hoF⟩
  intro b5
  refine NeedL.mkS (Nat × Hp × Hp × Hp) (fun g => [(1, .v (.slice oa on oc)), (2, .bx 1 0), (5, .bx 2 0), (12, .v (.int .i64 on)), (13, .v (.int .i64 g.1))])
    (fun g => [.hp (Hp.whole w), .box b2 [.slice a n c, .slice a' n' c'] 25, .box b5 [.slice a n c, .slice a' n' c', .slice oJ.a oJ.n oJ.c, .slice oD.a oD.n oD.c, .slice oF.a oF.n oF.c] 101, .hp g.2.1, .hp g.2.2.1, .hp g.2.2.2])
    (fun g => g.1 ≤ on ∧ Inv TT SS (lisK TT SS order g.1) g.1 ∧ OwnO fJ 52 3 ⟨oJ.a, oJ.n, oJ.c, g.2.1⟩ (lisK TT SS order g.1).1 ∧ OwnO fB 4 1 ⟨oD.a, oD.n, oD.c, g.2.2.1⟩ (lisK TT SS order g.1).2.1 ∧ OwnO fI 3 1 ⟨oF.a, oF.n, oF.c, g.2.2.2⟩ (lisK TT SS order g.1).2.2) (fun g => on - g.1)
    (0, oJ.h, oD.h, oF.h) ⟨Nat.zero_le _, Inv.zero TT SS, hoJ, hoD, hoF⟩ (Ent.mk (fun _ _ h => h.pick [0, 1, 5, 2, 3, 4] rfl rfl) rfl rfl) ?_
  clear hoJ hoD hoF
  rintro ⟨m, hJ, hD, hFr⟩ ⟨hm, hI, hoJ, hoD, hoF⟩ hsat
  dsimp only at *
  have hm100 : m ≤ 100 := by omega
  obtain ⟨st, hst⟩ : ∃ st, st = lisK TT SS order m := ⟨_, rfl⟩
  have hnext : lisK TT SS order (m + 1) = (putJ TT st.1 st.2.2 (lisI TT st.2.1 order) (bstK TT SS st.1 st.2.2 (lisI TT st.2.1 order) SS.length).toNat, st.2.1.set (lisI TT st.2.1 order) true, putF TT st.1 st.2.2 (lisI TT st.2.1 order) (bstK TT SS st.1 st.2.2 (lisI TT st.2.1 order) SS.length).toNat) := by rw [hst]; rfl
  rw [← hst] at hI hoJ hoD hoF
  obtain ⟨J, D, Fr⟩ := st
  dsimp only at *
  have sJ := OwnO.sl (f := fJ) (fun _ => rfl) (by decide) hoJ
  have sD := OwnO.sl (f := fB) (fun _ => rfl) (by decide) hoD
  have sF := OwnO.sl (f := fI) (fun _ => rfl) (by decide) hoF
  refine bsplitd (fun hlt => ?_) (fun hge => ?_)
  · obtain ⟨S, hSd, hSn, hSl⟩ := hI.dl
    dsimp only at hSd
    have hany : order.any (fun x => opnF TT D x.toNat) = true := by
      obtain ⟨i, hi, hr⟩ := ex_open hfull (S := S) (by omega)
      refine List.any_eq_true.2 ⟨(i : Int), hoa i hi, ?_⟩
      rw [Int.toNat_natCast, hSd, opn_rdy hi (hF.ar _ (List.getElem_mem hi))]
      exact hr
    obtain ⟨z1, z2, z3⟩ := idx_get hany
    obtain ⟨z, hz⟩ : ∃ z, z = idxBy (fun x => opnF TT D x.toNat) order := ⟨_, rfl⟩
    obtain ⟨i, hid⟩ : ∃ i, i = lisI TT D order := ⟨_, rfl⟩
    have hiz : (order[(idxBy (fun x => opnF TT D x.toNat) order).toNat]'z1) = (i : Int) := by
      have := hor _ (List.getElem_mem z1)
      rw [hid]; unfold lisI; rw [gD z1]; omega
    have hi : i < TT.length := by have := hor _ (List.getElem_mem z1); omega
    have hop : opnF TT D i = true := by rw [hiz] at z3; simpa using z3
    rw [← hz] at z2
    have hkz : z.toNat < order.length := by rw [hz]; exact z1
    have hiz' : order[z.toNat]'hkz = (i : Int) := by
      have : ∀ (y : Int) (hy : y = z) (h : y.toNat < order.length), order[y.toNat] = (i : Int) → order[z.toNat]'hkz = (i : Int) := fun y hy h e => by subst hy; exact e
      exact this _ hz.symm z1 hiz
    rw [← hid] at hnext
    have kI : ∀ w' : World, Sl (encF fI) 1 (Hp.whole w') oa on oc order → Sl encT 4 (Hp.whole w') a n c TT → Sl (encF fB) 1 (Hp.whole w') oD.a oD.n oD.c D →
        CallsE Tryz.prog 76 #[.slice oa on oc, .func (.func 104) #[bv a n c a' n' c' oJ.a oJ.n oJ.c oD.a oD.n oD.c oF.a oF.n oF.c] #[]] w' (RetV w' (.int .i64 z)) := fun w' h1 h2 h3 => by
      rw [hz]
      refine indexFuncIntsF_spec 104 _ _ w' h1 (by omega) (fun w2 g x hx => ?_)
      have hxr := hor x hx
      obtain ⟨v, rfl⟩ : ∃ v : Nat, x = v := ⟨x.toNat, by omega⟩
      rw [Int.toNat_natCast]
      exact open_spec v w2 (h2.mono encT_mono g.whole) hF (h3.mono (encF_mono _) g.whole) (by omega) (by rw [hSd, dnL_len])
    refine callV _ (fun w' hm => kI w' (hO.mono (encF_mono _) (hm 0 _ rfl)) (hT.mono encT_mono (hm 0 _ rfl)) (sD.mono (encF_mono _) (hm 4 _ rfl))) ?_
    refine idx (cxg _) (e := 3) rfl hO z.toNat (by omega) hkz (fun b9 o9 cs hcs hR hcell => ?_)
    rw [hiz'] at hR
    subst hR
    refine ld1 (cxg _) (i := 0) rfl (hcell 0 _ rfl) rfl ?_
    refine NeedL.mk Nat (fun k => [(1, .v (.slice oa on oc)), (2, .bx 1 0), (5, .bx 2 0), (6, .v (.int .i64 i)), (7, .v (.int .i64 (bstK TT SS J Fr i k))), (12, .v (.int .i64 on)), (13, .v (.int .i64 m)), (24, .v (.int .i64 n')), (25, .v (.int .i64 k))])
      (fun _ => [.hp (Hp.whole w), .box b2 [.slice a n c, .slice a' n' c'] 25, .box b5 [.slice a n c, .slice a' n' c', .slice oJ.a oJ.n oJ.c, .slice oD.a oD.n oD.c, .slice oF.a oF.n oF.c] 101, .hp hJ, .hp hD, .hp hFr])
      (fun k => k ≤ n') (fun k => n' - k) 0 (Nat.zero_le _) (Ent.mk (fun _ _ h => h) rfl rfl) ?_
    rintro k hk
    refine bsplitd (fun hltk => ?_) (fun hgek => ?_)
    · have hkS : k < SS.length := by omega
      obtain ⟨r1, r2, _⟩ := bst_rng TT SS J Fr i k
      obtain ⟨B, hB⟩ : ∃ B, B = bstK TT SS J Fr i k := ⟨_, rfl⟩
      obtain ⟨ca, hca⟩ : ∃ ca, ca = canS (TT[i]).tl SS[k] := ⟨_, rfl⟩
      have hst2 : bstK TT SS J Fr i (k + 1) = if ca && (decide (B < 0) || decide (staF TT J Fr i k < staF TT J Fr i B.toNat)) then (k : Int) else B := by
        show (if canS (TT.getD i default).tl (SS.getD k default) && (decide (bstK TT SS J Fr i k < 0) || decide (staF TT J Fr i k < staF TT J Fr i (bstK TT SS J Fr i k).toNat)) then (k : Int) else bstK TT SS J Fr i k) = _
        rw [← hB, tk_get hi, gD hkS, ← hca]
      rw [← hB] at r1 r2 ⊢
      have kA : ∀ w' : World, Sl encT 4 (Hp.whole w') a n c TT → Sl encN 2 (Hp.whole w') a' n' c' SS → CallsE Tryz.prog 88 #[sv a n c a' n' c', .int .i64 k, .int .i64 i] w' (RetV w' (.bool ca)) := fun w' h1 h2 => by
        rw [hca]; exact able_spec k i w' h1 h2 hi hkS hs
      have kS : ∀ (w' : World) (v : Nat) (y : Int), y = v → v < SS.length → Sl encT 4 (Hp.whole w') a n c TT → Sl (encF fJ) 3 (Hp.whole w') oJ.a oJ.n oJ.c J → Sl (encF fI) 1 (Hp.whole w') oF.a oF.n oF.c Fr →
          CallsE Tryz.prog 105 #[bv a n c a' n' c' oJ.a oJ.n oJ.c oD.a oD.n oD.c oF.a oF.n oF.c, .int .i64 i, .int .i64 y] w' (RetV w' (.int .i64 (staF TT J Fr i v))) := fun w' v y hy hv h1 h2 h3 => by
        rw [hy]; exact start_spec i v w' h1 hF h2 (hI.ok hm100) hI.jl h3 hi (by have := hI.fl; dsimp only at this; omega)
      refine NeedD.cut Unit (fun _ => [(1, .v (.slice oa on oc)), (2, .bx 1 0), (5, .bx 2 0), (6, .v (.int .i64 i)), (7, .v (.int .i64 B)), (8, .v (.int .i64 k)), (12, .v (.int .i64 on)), (13, .v (.int .i64 m)), (24, .v (.int .i64 n')), (25, .v (.int .i64 k)), (46, .v (.bool (ca && (decide (B < 0) || decide (staF TT J Fr i k < staF TT J Fr i B.toNat)))))])
        (fun _ => [.hp (Hp.whole w), .box b2 [.slice a n c, .slice a' n' c'] 25, .box b5 [.slice a n c, .slice a' n' c', .slice oJ.a oJ.n oJ.c, .slice oD.a oD.n oD.c, .slice oF.a oF.n oF.c] 101, .hp hJ, .hp hD, .hp hFr]) (fun _ => True) (NeedD.by_order (cxg _) (.take 0 <| .take 1 <| .take 2 <| .run 3 <| .take 4 <| .take 5 <| .take 6 <| .take 7 <| .take 8 <| .take 9 <| .take 10 <| .take 12 <| .take 13 <| .take 14 <| .run 11 <| .run 15 <| .take 16 <| .take 17 <| .take 18 <| .done) (by kernel_rfl) ?_) ?_
      · refine callV _ (fun w' hm => kA w' (hT.mono encT_mono (hm 0 _ rfl)) (hS.mono encN_mono (hm 0 _ rfl))) ?_
        refine ⟨(by repeat first | exact trivial | refine ⟨.inl rfl, ?_⟩ | refine ⟨.inr rfl, ?_⟩), ?_⟩
        clear hca
        cases ca with
        | true =>
          refine bsplitd (fun g1 => ?_) (fun g1 => ?_)
          · refine ⟨(by repeat first | exact trivial | refine ⟨.inl rfl, ?_⟩ | refine ⟨.inr rfl, ?_⟩), ?_⟩
            refine ⟨(by repeat first | exact trivial | refine ⟨.inl rfl, ?_⟩ | refine ⟨.inr rfl, ?_⟩), ?_⟩
            exact ⟨(), trivial, Ent.mk (fun _ _ h => h) (by rw [decide_eq_true g1]; rfl) rfl⟩
          · refine callV _ (fun w' hm => kS w' k k rfl hkS (hT.mono encT_mono (hm 0 _ rfl)) (sJ.mono (encF_mono _) (hm 3 _ rfl)) (sF.mono (encF_mono _) (hm 5 _ rfl))) ?_
            refine ⟨(by repeat first | exact trivial | refine ⟨.inl rfl, ?_⟩ | refine ⟨.inr rfl, ?_⟩), ?_⟩
            refine callV _ (fun w' hm => kS w' B.toNat B (by omega) (by omega) (hT.mono encT_mono (hm 0 _ rfl)) (sJ.mono (encF_mono _) (hm 3 _ rfl)) (sF.mono (encF_mono _) (hm 5 _ rfl))) ?_
            refine ⟨(by repeat first | exact trivial | refine ⟨.inl rfl, ?_⟩ | refine ⟨.inr rfl, ?_⟩), ?_⟩
            exact ⟨(), trivial, Ent.mk (fun _ _ h => h) (by rw [decide_eq_false g1]; rfl) rfl⟩
        | false =>
          refine ⟨(by repeat first | exact trivial | refine ⟨.inl rfl, ?_⟩ | refine ⟨.inr rfl, ?_⟩), ?_⟩
          refine ⟨(by repeat first | exact trivial | refine ⟨.inl rfl, ?_⟩ | refine ⟨.inr rfl, ?_⟩), ?_⟩
          exact ⟨(), trivial, Ent.mk (fun _ _ h => h) rfl rfl⟩
      rintro ⟨⟩ _ _
      dsimp only
      refine bsplit (fun hc => ?_) (fun hc => ?_)
      · refine nw (by omega) (by omega) ?_
        exact ⟨k + 1, by omega, by omega, Ent.mk (fun _ _ h => h) (by rw [hst2, if_pos hc]; rfl) rfl⟩
      · refine nw (by omega) (by omega) ?_
        exact ⟨k + 1, by omega, by omega, Ent.mk (fun _ _ h => h) (by rw [hst2, if_neg (by rw [hc]; decide)]; rfl) rfl⟩
    · have hkn : k = SS.length := by omega
      subst hkn
      obtain ⟨r1, r2, r3⟩ := bst_rng TT SS J Fr i SS.length
      have hb0 : 0 ≤ bstK TT SS J Fr i SS.length := r3 (by
        have := hcan _ (List.getElem_mem hi)
        obtain ⟨s, hs1, hs2⟩ := List.any_eq_true.1 this
        obtain ⟨j, hj, rfl⟩ := List.mem_iff_getElem.1 hs1
        exact ⟨j, hj, by rw [tk_get hi, gD hj]; exact hs2⟩)
      obtain ⟨v, hv⟩ : ∃ v : Nat, v = (bstK TT SS J Fr i SS.length).toNat := ⟨_, rfl⟩
      have hvS : v < SS.length := by omega
      rw [show bstK TT SS J Fr i SS.length = (v : Int) by omega]
      rw [← hv] at hnext
      have hsta := hI.sta hF hm100 hi hvS
      dsimp only at hsta
      have hI2 := hI.step hF hm100 hi hvS hop
      dsimp only at hI2
      rw [← hnext] at hI2
      refine callM3 (i := 3) (j := 4) (k := 5) (by decide) (by decide) (by decide) rfl rfl rfl (fun w0 w1 hok => put_spec ⟨oJ.a, oJ.n, oJ.c, hJ⟩ ⟨oD.a, oD.n, oD.c, hD⟩ ⟨oF.a, oF.n, oF.c, hFr⟩ i v w1 (Hp.both_In (Hp.both_In (hok.mem 3 _ rfl) (hok.mem 4 _ rfl)) (hok.mem 5 _ rfl)) (hok.disj 3 4 _ _ (by decide) rfl rfl) (hok.disj 3 5 _ _ (by decide) rfl rfl) (hok.disj 4 5 _ _ (by decide) rfl rfl)
        (hT.mono encT_mono (Hp.le_minus (hok.mem 0 _ rfl).whole (Hp.dj_both (Hp.dj_both (hok.disj 0 3 _ _ (by decide) rfl rfl) (hok.disj 0 4 _ _ (by decide) rfl rfl)) (hok.disj 0 5 _ _ (by decide) rfl rfl)))) hF hoJ hoD hoF (hI.ok hm100) hI.jl (by rw [hSd, dnL_len]) hi (by have := hI.fl; dsimp only at this; omega) ⟨hsta.1, by omega⟩) ?_
      rintro _ h2 _ ⟨rfl, rfl, hJ2, hD2, hF2, rfl, q1, q2, q3, p1, p2, p3⟩
      refine nw (by omega) (by omega) ?_
      refine ⟨(m + 1, hJ2, hD2, hF2), ⟨by dsimp only; omega, hI2, by dsimp only; rw [hnext]; exact p1, by dsimp only; rw [hnext]; exact p2, by dsimp only; rw [hnext]; exact p3⟩, by dsimp only; omega, Ent.mk (fun _ _ h => ?_) rfl rfl⟩
      have d : (hJ2.join hD2).dj hF2 := (Hp.dj_both q2.symm q3.symm).symm
      have e1 := Ok.part (i := 3) (h.pick [0, 1, 2, 3] rfl rfl) rfl (Hp.le_join_l (hJ2.join hD2) hF2) (Hp.le_join_r d) d
      have e2 := Ok.part (i := 3) e1 rfl (Hp.le_join_l hJ2 hD2) (Hp.le_join_r q1) q1
      exact e2.pick [0, 1, 2, 3, 5, 4] rfl rfl
  · have hmn : m = order.length := by omega
    subst hmn
    rw [← hst]
    exact ⟨[.hp hJ], ⟨⟨oJ.a, oJ.n, oJ.c, hJ⟩, rfl, rfl, hoJ⟩, fun w' h => h.pick [0, 3] rfl rfl⟩
end Go.Proofs.YtnlkffccobdbjaaGreat
