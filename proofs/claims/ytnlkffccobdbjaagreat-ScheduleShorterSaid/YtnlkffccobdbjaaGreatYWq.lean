/- Contracts of schedule.Check, Makespan. Their premises are their own. -/
import Derived.Test.YtnlkffccobdbjaaGreatXN
import Derived.Test.YtnlkffccobdbjaaGreatYX1
namespace Go.Dw
open Go Go.RowKit
/-- block b holds the cells cs -/
def Bx (h : Hp) (b : Nat) (cs : List Value) : Prop := ∀ j v, cs[j]? = some v → h.cell? ⟨b, 0 + j, none⟩ = some v
theorem Bx.mono {h k : Hp} {b : Nat} {cs : List Value} (hb : Bx h b cs) (l : h.le k) : Bx k b cs := fun j v e => l.cell (hb j v e)
theorem Bx.of {b T : Nat} {cs : List Value} {w : World} (h : (Ch.box b cs T).h.In w) : Bx (Hp.whole w) b cs := fun j v e => by
  refine h.whole.cell ?_
  rw [Nat.zero_add]
  simp [Ch.h, Hp.cell?, Hp.one, e]
end Go.Dw
namespace Go.Proofs.YtnlkffccobdbjaaGreat
open Go Go.RowKit Go.Dw
def jobE (TT : List Tk) (SS : List Sn) (i : Nat) (j : Jb) : Int :=
  if j.1 ≠ i then 8 else if j.2.1 < 0 ∨ j.2.1 ≥ SS.length ∨ j.2.2 < 0 ∨ j.2.2 > 25165824 then 2 else if caA TT SS i j.2.1.toNat = false then 10 else 0
def cnf1 (TT : List Tk) (j k : Jb) : Bool := decide (k.2.1 = j.2.1) && (decide (k.2.2 < endF TT j) && decide (j.2.2 < endF TT k))
def cnfE (TT : List Tk) (L : List Jb) (i : Nat) : Int :=
  if (L.take i).any (cnf1 TT (jbA L i)) = true then 17 else if (afA TT i).any (fun x => decide (endF TT (jbA L x.toNat) > stA L i)) = true then 18 else 0
def schE (TT : List Tk) (SS : List Sn) (L : List Jb) : Int :=
  if L.length ≠ TT.length then 13 else match firstE (fun i => jobE TT SS i (jbA L i)) TT.length with
    | some e => e
    | none => (firstE (cnfE TT L) TT.length).getD 0
def chkE (TT : List Tk) (SS : List Sn) (L : List Jb) : Int := if shopE TT SS ≠ 0 then shopE TT SS else schE TT SS L
theorem jobE_ok {TT : List Tk} {SS : List Sn} {i : Nat} {j : Jb} (h : jobE TT SS i j = 0) : j.1 = i ∧ (0 ≤ j.2.1 ∧ j.2.1 < SS.length) ∧ (0 ≤ j.2.2 ∧ j.2.2 ≤ 25165824) ∧ caA TT SS i j.2.1.toNat = true := by
  unfold jobE at h
  split at h
  · cases h
  · split at h
    · cases h
    · split at h
      · cases h
      · rename_i h1 h2 h3
        exact ⟨by omega, by omega, by omega, by simpa using h3⟩
section
variable {a a' : Option Addr} {n c n' c' : Nat} {TT : List Tk} {SS : List Sn}
theorem check1_spec {bj bs : Nat} (j k : Jb) (w : World) (hj : Bx (Hp.whole w) bj (fJ j)) (hs : Bx (Hp.whole w) bs [.slice a n c, .slice a' n' c']) (hT : Sl encT 4 (Hp.whole w) a n c TT) (hF : Fit TT) (oj : JOk TT.length j) (ok : JOk TT.length k) :
    CallsE Tryz.prog 90 #[.agg (fJ k).toArray, .pointer (some ⟨bj, 0, none⟩), .pointer (some ⟨bs, 0, none⟩)] w (RetV w (.bool (cnf1 TT j k))) := by
  obtain ⟨k1, k2, k3⟩ := k
  obtain ⟨j1, j2, j3⟩ := j
  refine enter (X := cx 26) (cxg _) (args := [.agg #[.int .i64 k1, .int .i64 k2, .int .i64 k3], .pointer (some ⟨bj, 0, none⟩), .pointer (some ⟨bs, 0, none⟩)]) [.tmp 4] Tryz.func90 rfl rfl rfl rfl rfl ?_
  intro b3
  refine NeedD.cut Unit (fun _ => [(4, .v (.bool (cnf1 TT (j1, j2, j3) (k1, k2, k3))))]) (fun _ => [.hp (Hp.whole w)]) (fun _ => True) (NeedD.by_order (cxg _) (.take 0 <| .take 1 <| .take 2 <| .take 3 <| .take 4 <| .take 5 <| .take 6 <| .take 7 <| .take 8 <| .take 9 <| .run 10 <| .take 11 <| .take 12 <| .take 13 <| .take 14 <| .take 15 <| .take 16 <| .take 17 <| .run 18 <| .take 19 <| .take 20 <| .take 21 <| .done) (by kernel_rfl) ?_) ?_
  · refine ld1 (cxg _) (i := 0) rfl (hj 1 _ rfl) rfl ?_
    refine bsplitd (fun h1 => ?_) (fun h1 => ?_)
    · refine ldn (cxg _) (i := 0) rfl hs rfl ?_
      refine ldn (cxg _) (i := 0) rfl hj rfl ?_
      refine callV _ (fun w' hm => end_spec j1 j2 j3 w' (hT.mono encT_mono (hm 0 _ rfl)) hF oj) ?_
      refine ⟨(by repeat first | exact trivial | refine ⟨.inl rfl, ?_⟩ | refine ⟨.inr rfl, ?_⟩), ?_⟩
      refine bsplitd (fun h2 => ?_) (fun h2 => ?_)
      · refine ld1 (cxg _) (i := 0) rfl (hj 2 _ rfl) rfl ?_
        refine ldn (cxg _) (i := 0) rfl hs rfl ?_
        refine callV _ (fun w' hm => end_spec k1 k2 k3 w' (hT.mono encT_mono (hm 0 _ rfl)) hF ok) ?_
        refine ⟨(by repeat first | exact trivial | refine ⟨.inl rfl, ?_⟩ | refine ⟨.inr rfl, ?_⟩), ?_⟩
        exact ⟨(), trivial, Ent.mk (fun _ _ h => h.pick [0] rfl rfl) (by unfold cnf1; dsimp only; rw [decide_eq_true h1, decide_eq_true h2]; rfl) rfl⟩
      · refine ⟨(by repeat first | exact trivial | refine ⟨.inl rfl, ?_⟩ | refine ⟨.inr rfl, ?_⟩), ?_⟩
        exact ⟨(), trivial, Ent.mk (fun _ _ h => h.pick [0] rfl rfl) (by unfold cnf1; dsimp only; rw [decide_eq_true h1, decide_eq_false h2]; rfl) rfl⟩
    · refine ⟨(by repeat first | exact trivial | refine ⟨.inl rfl, ?_⟩ | refine ⟨.inr rfl, ?_⟩), ?_⟩
      refine ⟨(by repeat first | exact trivial | refine ⟨.inl rfl, ?_⟩ | refine ⟨.inr rfl, ?_⟩), ?_⟩
      exact ⟨(), trivial, Ent.mk (fun _ _ h => h.pick [0] rfl rfl) (by unfold cnf1; dsimp only; rw [decide_eq_false h1]; rfl) rfl⟩
  rintro ⟨⟩ _ _
  exact ⟨[], ⟨rfl, rfl⟩, fun w' h => h.pick [0] rfl rfl⟩
theorem check2_spec {bj bs bl : Nat} {al : Option Addr} {nl cl : Nat} {L : List Jb} (x : Int) (j : Jb) (w : World) (hj : Bx (Hp.whole w) bj (fJ j)) (hs : Bx (Hp.whole w) bs [.slice a n c, .slice a' n' c']) (hl : Bx (Hp.whole w) bl [.slice al nl cl]) (hT : Sl encT 4 (Hp.whole w) a n c TT) (hF : Fit TT) (hL : Sl (encF fJ) 3 (Hp.whole w) al nl cl L) (h0 : 0 ≤ x) (hx : x.toNat < L.length) (ok : JOk TT.length (jbA L x.toNat)) :
    CallsE Tryz.prog 91 #[.int .i64 x, .pointer (some ⟨bs, 0, none⟩), .pointer (some ⟨bl, 0, none⟩), .pointer (some ⟨bj, 0, none⟩)] w (RetV w (.bool (decide (endF TT (jbA L x.toNat) > j.2.2)))) := by
  have e : jbA L x.toNat = L[x.toNat] := gD hx
  obtain ⟨⟨k1, k2, k3⟩, hk⟩ : ∃ k, k = L[x.toNat] := ⟨_, rfl⟩
  rw [e, ← hk] at ok ⊢
  refine enter (X := cx 15) (cxg _) (args := [.int .i64 x, .pointer (some ⟨bs, 0, none⟩), .pointer (some ⟨bl, 0, none⟩), .pointer (some ⟨bj, 0, none⟩)]) [.tmp 5] Tryz.func91 rfl rfl rfl rfl rfl ?_
  refine NeedD.by_order (cxg _) (.take 0 <| .take 1 <| .take 2 <| .take 3 <| .take 4 <| .take 6 <| .take 7 <| .run 5 <| .take 8 <| .take 9 <| .done) (by kernel_rfl) ?_
  refine ldn (cxg _) (i := 0) rfl hs rfl ?_
  refine ld1 (cxg _) (i := 0) rfl (hl 0 _ rfl) rfl ?_
  refine idx (cxg _) (e := 52) rfl hL x.toNat (by omega) hx (fun b9 o9 cs hcs hR hcell1 => ?_)
  rw [← hk] at hR
  subst hR
  refine ldn (cxg _) (i := 0) rfl hcell1 rfl ?_
  refine ld1 (cxg _) (i := 0) rfl (hj 2 _ rfl) rfl ?_
  refine callV _ (fun w' hm => end_spec k1 k2 k3 w' (hT.mono encT_mono (hm 0 _ rfl)) hF ok) ?_
  refine ⟨(by repeat first | exact trivial | refine ⟨.inl rfl, ?_⟩ | refine ⟨.inr rfl, ?_⟩), ?_⟩
  exact ⟨[], ⟨rfl, rfl⟩, fun w' h => h⟩
set_option maxRecDepth 10000 in
theorem Check_spec {al : Option Addr} {nl cl : Nat} {L : List Jb} (w : World) (hT : Sl encT 4 (Hp.whole w) a n c TT) (hS : Sl encN 2 (Hp.whole w) a' n' c' SS) (hs : Sml TT SS) (hL : Sl (encF fJ) 3 (Hp.whole w) al nl cl L) :
    CallsE Tryz.prog 43 #[sv a n c a' n' c', .slice al nl cl] w (RetV w (.int .i64 (chkE TT SS L))) := by
  have lT := hT.len
  have lS := hS.len
  have lL := hL.len
  obtain ⟨E, hE⟩ : ∃ E, E = shopE TT SS := ⟨_, rfl⟩
  have hc0 : chkE TT SS L = if E ≠ 0 then E else schE TT SS L := by unfold chkE; rw [hE]
  refine enter (X := cx 84) (cxg _) (args := [.agg #[.slice a n c, .slice a' n' c'], .slice al nl cl]) [.tmp 4] Tryz.func43 rfl rfl rfl rfl rfl ?_
  intro b2
  intro b3
  refine callV (.int .i64 E) (fun w' hm => by rw [hE]; exact chk_spec w' (hT.mono encT_mono (hm 0 _ rfl)) (hS.mono encN_mono (hm 0 _ rfl)) hs) ?_
  refine bsplitd (fun h1 => ?_) (fun h1 => ?_)
  · exact ⟨[], ⟨by rw [hc0, if_pos h1], rfl⟩, fun w' h => h.pick [0] rfl rfl⟩
  have hE0 : shopE TT SS = 0 := by rw [← hE]; omega
  have hF := fit_of hs hE0
  have hFn := hF.n
  rw [if_neg h1] at hc0
  refine bsplitd (fun h2 => ?_) (fun h2 => ?_)
  · exact ⟨[], ⟨by rw [hc0]; unfold schE; rw [if_pos (by omega)], rfl⟩, fun w' h => h.pick [0] rfl rfl⟩
  have hlen : L.length = TT.length := by omega
  have hc1 : chkE TT SS L = match firstE (fun i => jobE TT SS i (jbA L i)) TT.length with
    | some e => e
    | none => (firstE (cnfE TT L) TT.length).getD 0 := by rw [hc0]; unfold schE; rw [if_neg (by omega)]
  refine NeedL.mk Nat (fun k => [(2, .bx 1 0), (3, .bx 2 0), (21, .v (.slice al nl cl)), (22, .v (.int .i64 nl)), (23, .v (.int .i64 k))]) (fun _ => [.hp (Hp.whole w), .box b2 [.slice a n c, .slice a' n' c'] 25, .box b3 [.slice al nl cl] 38])
    (fun k => k ≤ nl ∧ ∀ j, j < k → jobE TT SS j (jbA L j) = 0) (fun k => nl - k) 0 ⟨Nat.zero_le _, fun j h => by omega⟩ (Ent.mk (fun _ _ h => h) rfl rfl) ?_
  rintro i ⟨hi, hall⟩
  refine bsplitd (fun h3 => ?_) (fun h3 => ?_)
  · have hiT : i < TT.length := by omega
    have hiL : i < L.length := by omega
    have e : jbA L i = L[i] := gD hiL
    obtain ⟨⟨j1, j2, j3⟩, hj⟩ : ∃ j, j = L[i] := ⟨_, rfl⟩
    have hbad : jobE TT SS i (j1, j2, j3) ≠ 0 → chkE TT SS L = jobE TT SS i (j1, j2, j3) := fun h => by
      rw [hc1, firstE_hit (f := fun i => jobE TT SS i (jbA L i)) hiT hall (by rw [e, ← hj]; exact h)]
      dsimp only
      rw [e, ← hj]
    refine idx (cxg _) (e := 52) rfl hL i rfl hiL (fun b9 o9 cs hcs hR hcell4 => ?_)
    rw [← hj] at hR
    subst hR
    refine ldn (cxg _) (i := 0) rfl hcell4 rfl ?_
    intro b7
    have hE1 : jobE TT SS i (j1, j2, j3) = if j1 ≠ i then 8 else if j2 < 0 ∨ j2 ≥ SS.length ∨ j3 < 0 ∨ j3 > 25165824 then 2 else if caA TT SS i j2.toNat = false then 10 else 0 := rfl
    refine bsplitd (fun h5 => ?_) (fun h5 => ?_)
    · rw [if_pos h5] at hE1
      exact ⟨[], ⟨by rw [hbad (by rw [hE1]; decide), hE1], rfl⟩, fun w' h => h.pick [0] rfl rfl⟩
    rw [if_neg h5] at hE1
    have two : (j2 < 0 ∨ j2 ≥ SS.length ∨ j3 < 0 ∨ j3 > 25165824) → chkE TT SS L = 2 := fun h => by
      rw [if_pos h] at hE1
      rw [hbad (by rw [hE1]; decide), hE1]
    refine bsplitd (fun (h6 : j2 < 0) => ?_) (fun (h6 : ¬ j2 < 0) => ?_)
    · exact ⟨[], ⟨by rw [two (by omega)], rfl⟩, fun w' h => h.pick [0] rfl rfl⟩
    refine bsplitd (fun (h7 : j2 ≥ (n' : Int)) => ?_) (fun (h7 : ¬ j2 ≥ (n' : Int)) => ?_)
    · exact ⟨[], ⟨by rw [two (by omega)], rfl⟩, fun w' h => h.pick [0] rfl rfl⟩
    refine bsplitd (fun (h8 : j3 < 0) => ?_) (fun (h8 : ¬ j3 < 0) => ?_)
    · exact ⟨[], ⟨by rw [two (by omega)], rfl⟩, fun w' h => h.pick [0] rfl rfl⟩
    refine bsplitd (fun (h9 : j3 > 25165824) => ?_) (fun (h9 : ¬ j3 > 25165824) => ?_)
    · exact ⟨[], ⟨by rw [two (by omega)], rfl⟩, fun w' h => h.pick [0] rfl rfl⟩
    rw [if_neg (by omega)] at hE1
    obtain ⟨v, rfl⟩ : ∃ v : Nat, j2 = v := ⟨j2.toNat, by omega⟩
    have hv : v < SS.length := by omega
    obtain ⟨ca, hca⟩ : ∃ ca, ca = caA TT SS i v := ⟨_, rfl⟩
    have kA : ∀ w' : World, Sl encT 4 (Hp.whole w') a n c TT → Sl encN 2 (Hp.whole w') a' n' c' SS → CallsE Tryz.prog 88 #[sv a n c a' n' c', .int .i64 v, .int .i64 i] w' (RetV w' (.bool ca)) := fun w' h1 h2 => by
      rw [hca]; unfold caA; rw [tk_get hiT, gD hv]; exact able_spec v i w' h1 h2 hiT hv hs
    refine callV _ (fun w' hm => kA w' (hT.mono encT_mono (hm 0 _ rfl)) (hS.mono encN_mono (hm 0 _ rfl))) ?_
    rw [Int.toNat_natCast, ← hca] at hE1
    cases ca with
    | false =>
      exact ⟨[], ⟨by rw [hbad (by rw [hE1]; decide), hE1]; rfl, rfl⟩, fun w' h => h.pick [0] rfl rfl⟩
    | true =>
      refine nw (by omega) (by omega) ?_
      refine ⟨i + 1, ⟨by omega, fun j hjl => ?_⟩, by omega, Ent.mk (fun _ _ h => h.pick [0, 1, 2] rfl rfl) rfl rfl⟩
      rcases Nat.lt_or_ge j i with h | h
      · exact hall j h
      · rw [show j = i by omega, e, ← hj, hE1]; rfl
  have hok : ∀ j, j < TT.length → jobE TT SS j (jbA L j) = 0 := fun j hj => hall j (by omega)
  rw [firstE_none hok] at hc1
  dsimp only at hc1
  have hJO : ∀ j, j < TT.length → JOk TT.length (jbA L j) := fun j hj => by
    obtain ⟨q1, q2, q3, _⟩ := jobE_ok (hok j hj)
    exact ⟨⟨by omega, by omega⟩, q3.1, by omega⟩
  clear hall hc0
  refine NeedL.mk Nat (fun k => [(2, .bx 1 0), (3, .bx 2 0), (63, .v (.slice al nl cl)), (64, .v (.int .i64 nl)), (65, .v (.int .i64 k))]) (fun _ => [.hp (Hp.whole w), .box b2 [.slice a n c, .slice a' n' c'] 25, .box b3 [.slice al nl cl] 38])
    (fun k => k ≤ nl ∧ ∀ j, j < k → cnfE TT L j = 0) (fun k => nl - k) 0 ⟨Nat.zero_le _, fun j h => by omega⟩ (Ent.mk (fun _ _ h => h) rfl rfl) ?_
  rintro i ⟨hi, hall⟩
  refine bsplitd (fun h3 => ?_) (fun h3 => ?_)
  · have hiT : i < TT.length := by omega
    have hiL : i < L.length := by omega
    have e : jbA L i = L[i] := gD hiL
    obtain ⟨j, hj⟩ : ∃ j, j = L[i] := ⟨_, rfl⟩
    have oj := hJO i hiT
    rw [e, ← hj] at oj
    have hbad : cnfE TT L i ≠ 0 → chkE TT SS L = cnfE TT L i := fun h => by
      rw [hc1, firstE_hit hiT hall h]; rfl
    obtain ⟨t, ht⟩ : ∃ t, t = TT[i] := ⟨_, rfl⟩
    have haf : afA TT i = t.af := by unfold afA; rw [tk_get hiT, ← ht]
    have hal := hF.al t (by rw [ht]; exact List.getElem_mem hiT)
    obtain ⟨c1, hcc1⟩ : ∃ c1, c1 = (L.take i).any (cnf1 TT j) := ⟨_, rfl⟩
    obtain ⟨c2, hcc2⟩ : ∃ c2, c2 = t.af.any (fun x => decide (endF TT (jbA L x.toNat) > j.2.2)) := ⟨_, rfl⟩
    have hE1 : cnfE TT L i = if c1 = true then 17 else if c2 = true then 18 else 0 := by
      unfold cnfE stA; rw [e, ← hj, haf, ← hcc1, ← hcc2]
    refine idx (cxg _) (e := 52) rfl hL i rfl hiL (fun b9 o9 cs hcs hR hcell12 => ?_)
    rw [← hj] at hR
    subst hR
    refine ldn (cxg _) (i := 0) rfl hcell12 rfl ?_
    intro b9
    refine slS (cxg _) (e := 52) rfl hL 0 i (.inl ⟨rfl, rfl⟩) (.inr ⟨_, _, rfl, rfl⟩) (by omega) (by omega) (fun a72 hs72 => ?_)
    rw [List.drop_zero] at hs72
    have k1 : ∀ w' : World, Mem [.hp (Hp.whole w), .box b2 [.slice a n c, .slice a' n' c'] 25, .box b3 [.slice al nl cl] 38, .box b9 (fJ j) 52] w' →
        CallsE Tryz.prog 89 #[.slice a72 (i - 0) (cl - 0), .func (.func 90) ⟨[]⟩ ⟨[.pointer (some ⟨b9, 0, none⟩), .pointer (some ⟨b2, 0, none⟩)]⟩] w' (RetV w' (.bool c1)) := fun w' hm => by
      rw [hcc1]
      refine containsFuncJobs_spec 90 [.pointer (some ⟨b9, 0, none⟩), .pointer (some ⟨b2, 0, none⟩)] (cnf1 TT j) w' (hs72.mono (encF_mono _) (hm 0 _ rfl)) (by omega) fun w2 h2 x hx => ?_
      refine check1_spec j x w2 ((Bx.of (hm 3 _ rfl)).mono h2) ((Bx.of (hm 1 _ rfl)).mono h2) (hT.mono encT_mono ((hm 0 _ rfl).whole.trans h2)) hF oj ?_
      obtain ⟨v, hv, rfl⟩ := List.mem_iff_getElem.1 hx
      rw [List.length_take] at hv
      have := hJO v (by omega)
      rw [List.getElem_take]
      rwa [show jbA L v = L[v] from gD (by omega)] at this
    refine callV _ (fun w' hm => k1 w' hm) ?_
    refine bsplit (fun h13 => ?_) (fun h13 => ?_)
    · rw [if_pos h13] at hE1
      exact ⟨[], ⟨by rw [hbad (by rw [hE1]; decide), hE1], rfl⟩, fun w' h => h.pick [0] rfl rfl⟩
    rw [if_neg (by rw [h13]; decide)] at hE1
    refine idx (cxg _) (e := 64) rfl hT i rfl hiT (fun b8 o8 cs hcs hR hcell14 => ?_)
    rw [← ht] at hR
    obtain ⟨a3, n3, c3, rfl, hs3⟩ := hR
    have l3 := hs3.len
    refine ld1 (cxg _) (i := 0) rfl (hcell14 3 _ rfl) rfl ?_
    have k2 : ∀ w' : World, Mem [.hp (Hp.whole w), .box b2 [.slice a n c, .slice a' n' c'] 25, .box b3 [.slice al nl cl] 38, .box b9 (fJ j) 52] w' →
        CallsE Tryz.prog 60 #[.slice a3 n3 c3, .func (.func 91) ⟨[]⟩ ⟨[.pointer (some ⟨b2, 0, none⟩), .pointer (some ⟨b3, 0, none⟩), .pointer (some ⟨b9, 0, none⟩)]⟩] w' (RetV w' (.bool c2)) := fun w' hm => by
      rw [hcc2]
      refine containsFuncIntsL_spec 91 [.pointer (some ⟨b2, 0, none⟩), .pointer (some ⟨b3, 0, none⟩), .pointer (some ⟨b9, 0, none⟩)] _ w' (hs3.mono (encF_mono _) (hm 0 _ rfl)) (by omega) fun w2 h2 x hx => ?_
      have hxr := hF.a hiT x (by rw [haf]; exact hx)
      exact check2_spec x j w2 ((Bx.of (hm 3 _ rfl)).mono h2) ((Bx.of (hm 1 _ rfl)).mono h2) ((Bx.of (hm 2 _ rfl)).mono h2) (hT.mono encT_mono ((hm 0 _ rfl).whole.trans h2)) hF (hL.mono (encF_mono _) ((hm 0 _ rfl).whole.trans h2)) hxr.1 (by omega) (hJO _ (by omega))
    refine callV _ (fun w' hm => k2 w' hm) ?_
    refine bsplit (fun h15 => ?_) (fun h15 => ?_)
    · rw [if_pos h15] at hE1
      exact ⟨[], ⟨by rw [hbad (by rw [hE1]; decide), hE1], rfl⟩, fun w' h => h.pick [0] rfl rfl⟩
    rw [if_neg (by rw [h15]; decide)] at hE1
    refine nw (by omega) (by omega) ?_
    refine ⟨i + 1, ⟨by omega, fun v hv => ?_⟩, by omega, Ent.mk (fun _ _ h => h.pick [0, 1, 2] rfl rfl) rfl rfl⟩
    rcases Nat.lt_or_ge v i with h | h
    · exact hall v h
    · rw [show v = i by omega, hE1]
  · exact ⟨[], ⟨by rw [hc1, firstE_none (fun j hj => hall j (by omega))]; rfl, rfl⟩, fun w' h => h.pick [0] rfl rfl⟩
def mkR (TT : List Tk) (SS : List Sn) (L : List Jb) : Int := if chkE TT SS L = 0 then mspF TT L else 0
end
end Go.Proofs.YtnlkffccobdbjaaGreat
