/- Contracts for ScheduleShorter: clones of tasks, stations and strings, the length of the best schedule. Their premises are their own. -/
import Derived.Test.YtnlkffccobdbjaaGreatYYq
namespace Go.Dw
open Go Go.RowKit
theorem list_ex {α : Type} {P : Nat → α → Prop} : ∀ (n : Nat), (∀ i, i < n → ∃ r, P i r) → ∃ L : List α, L.length = n ∧ ∀ i (h : i < L.length), P i L[i]
  | 0, _ => ⟨[], rfl, fun i h => by cases h⟩
  | n + 1, h => by
    obtain ⟨L, hl, hp⟩ := list_ex n fun i hi => h i (by omega)
    obtain ⟨r, hr⟩ := h n (by omega)
    refine ⟨L ++ [r], by simp [hl], fun i hi => ?_⟩
    by_cases hc : i < L.length
    · rw [List.getElem_append_left hc]; exact hp i hc
    · have e : i = n := by rw [List.length_append, List.length_singleton] at hi; omega
      subst e
      rw [List.getElem_append_right (by omega)]
      simpa [hl] using hr
end Go.Dw
namespace Go.Proofs.YtnlkffccobdbjaaGreat
open Go Go.RowKit Go.Dw
/-- a task's cells -/
structure Rw where
  nm : ByteArray
  du : Int
  tl : ByteArray
  a : Option Addr
  n : Nat
  c : Nat
def fR (r : Rw) : List Value := [.string r.nm, .int .i64 r.du, .string r.tl, .slice r.a r.n r.c]
def RdR (h : Hp) (RL : List Rw) (TT : List Tk) : Prop := RL.length = TT.length ∧ ∀ i (h1 : i < RL.length) (h2 : i < TT.length), RL[i].nm = TT[i].nm ∧ RL[i].du = TT[i].du ∧ RL[i].tl = TT[i].tl ∧ Sl (encF fI) 1 h RL[i].a RL[i].n RL[i].c TT[i].af
theorem RdR.mono {h k : Hp} {RL : List Rw} {TT : List Tk} (r : RdR h RL TT) (l : h.le k) : RdR k RL TT := ⟨r.1, fun i h1 h2 => by
  obtain ⟨e1, e2, e3, e4⟩ := r.2 i h1 h2
  exact ⟨e1, e2, e3, e4.mono (encF_mono _) l⟩⟩
theorem rw_of {h : Hp} {a : Option Addr} {n c : Nat} {TT : List Tk} (hs : Sl encT 4 h a n c TT) : ∃ RL : List Rw, Sl (encF fR) 4 h a n c RL ∧ RdR h RL TT := by
  obtain ⟨RL, hl, hp⟩ := list_ex (P := fun i r => ∀ (hi : i < TT.length), (r.nm = TT[i].nm ∧ r.du = TT[i].du ∧ r.tl = TT[i].tl ∧ Sl (encF fI) 1 h r.a r.n r.c TT[i].af) ∧ ∃ b off, a = some ⟨b, off, none⟩ ∧ ∀ j v, (fR r)[j]? = some v → h.cell? ⟨b, off + i * 4 + j, none⟩ = some v) TT.length (fun i hi => by
    obtain ⟨b, off, cs, h1, h2, ⟨a3, n3, c3, rfl, h3⟩, h4⟩ := hs.cells i hi
    exact ⟨⟨TT[i].nm, TT[i].du, TT[i].tl, a3, n3, c3⟩, fun _ => ⟨⟨rfl, rfl, rfl, h3⟩, b, off, h1, h4⟩⟩)
  refine ⟨RL, ⟨by rw [hl]; exact hs.len, hs.cap, fun i hi => ?_⟩, hl, fun i h1 h2 => (hp i h1 h2).1⟩
  obtain ⟨_, b, off, h1, h2⟩ := hp i hi (by omega)
  exact ⟨b, off, fR RL[i], h1, rfl, rfl, h2⟩
theorem rw_sl {h : Hp} {a : Option Addr} {n c : Nat} {RL : List Rw} {TT : List Tk} (hs : Sl (encF fR) 4 h a n c RL) (hr : RdR h RL TT) : Sl encT 4 h a n c TT := by
  refine ⟨by rw [← hr.1]; exact hs.len, hs.cap, fun i hi => ?_⟩
  have hi1 : i < RL.length := by rw [hr.1]; exact hi
  obtain ⟨b, off, cs, h1, h2, h3, h4⟩ := hs.cells i hi1
  obtain ⟨e1, e2, e3, e4⟩ := hr.2 i hi1 hi
  have h3 : cs = fR RL[i] := h3
  refine ⟨b, off, cs, h1, h2, ?_, h4⟩
  rw [h3]
  unfold fR
  rw [e1, e2, e3]
  exact ⟨_, _, _, rfl, e4⟩
/-- a station's cells -/
structure Rq where
  nm : ByteArray
  a : Option Addr
  n : Nat
  c : Nat
def fQ (r : Rq) : List Value := [.string r.nm, .slice r.a r.n r.c]
def RdQ (h : Hp) (RL : List Rq) (SS : List Sn) : Prop := RL.length = SS.length ∧ ∀ i (h1 : i < RL.length) (h2 : i < SS.length), RL[i].nm = SS[i].nm ∧ Sl (encF fS) 1 h RL[i].a RL[i].n RL[i].c SS[i].ts
theorem RdQ.mono {h k : Hp} {RL : List Rq} {SS : List Sn} (r : RdQ h RL SS) (l : h.le k) : RdQ k RL SS := ⟨r.1, fun i h1 h2 => by
  obtain ⟨e1, e4⟩ := r.2 i h1 h2
  exact ⟨e1, e4.mono (encF_mono _) l⟩⟩
theorem rq_of {h : Hp} {a : Option Addr} {n c : Nat} {SS : List Sn} (hs : Sl encN 2 h a n c SS) : ∃ RL : List Rq, Sl (encF fQ) 2 h a n c RL ∧ RdQ h RL SS := by
  obtain ⟨RL, hl, hp⟩ := list_ex (P := fun i r => ∀ (hi : i < SS.length), (r.nm = SS[i].nm ∧ Sl (encF fS) 1 h r.a r.n r.c SS[i].ts) ∧ ∃ b off, a = some ⟨b, off, none⟩ ∧ ∀ j v, (fQ r)[j]? = some v → h.cell? ⟨b, off + i * 2 + j, none⟩ = some v) SS.length (fun i hi => by
    obtain ⟨b, off, cs, h1, h2, ⟨a3, n3, c3, rfl, h3⟩, h4⟩ := hs.cells i hi
    exact ⟨⟨SS[i].nm, a3, n3, c3⟩, fun _ => ⟨⟨rfl, h3⟩, b, off, h1, h4⟩⟩)
  refine ⟨RL, ⟨by rw [hl]; exact hs.len, hs.cap, fun i hi => ?_⟩, hl, fun i h1 h2 => (hp i h1 h2).1⟩
  obtain ⟨_, b, off, h1, h2⟩ := hp i hi (by omega)
  exact ⟨b, off, fQ RL[i], h1, rfl, rfl, h2⟩
theorem rq_sl {h : Hp} {a : Option Addr} {n c : Nat} {RL : List Rq} {SS : List Sn} (hs : Sl (encF fQ) 2 h a n c RL) (hr : RdQ h RL SS) : Sl encN 2 h a n c SS := by
  refine ⟨by rw [← hr.1]; exact hs.len, hs.cap, fun i hi => ?_⟩
  have hi1 : i < RL.length := by rw [hr.1]; exact hi
  obtain ⟨b, off, cs, h1, h2, h3, h4⟩ := hs.cells i hi1
  obtain ⟨e1, e4⟩ := hr.2 i hi1 hi
  have h3 : cs = fQ RL[i] := h3
  refine ⟨b, off, cs, h1, h2, ?_, h4⟩
  rw [h3]
  unfold fQ
  rw [e1]
  exact ⟨_, _, _, rfl, e4⟩
section
variable {a a' : Option Addr} {n c n' c' : Nat} {TT : List Tk} {SS : List Sn}
theorem nil_of {α : Type} {f : α → List Value} {sz : Nat} {h : Hp} {a : Option Addr} {n c : Nat} {L : List α} (hL : Sl (encF f) sz h a n c L) (ha : a.isNone = true) : L = [] := by
  cases a with
  | none => cases L with
    | nil => rfl
    | cons x r => obtain ⟨b, off, cs, h1, _⟩ := hL.cells 0 (by simp); cases h1
  | some _ => cases ha
theorem cloneTasks_spec {RL : List Rw} (w : World) (hL : Sl (encF fR) 4 (Hp.whole w) a n c RL) (hn : n < 1000000000) :
    CallsE Tryz.prog 34 #[.slice a n c] w (Ret w fun v cs => ∃ o, v = o.v ∧ cs = [.hp o.h] ∧ OwnO fR 64 4 o RL) := by
  have hlen := hL.len
  refine enter (X := cx 8) (cxg _) (args := [.slice a n c]) [.tmp 2] Tryz.func34 rfl rfl rfl rfl rfl ?_
  refine qNilEq rfl ?_
  refine bsplit (fun h => ?_) (fun h => ?_)
  · refine ⟨[.hp Hp.emp], ⟨Os.nil, rfl, rfl, ?_⟩, fun w' h => h.emp⟩
    rw [nil_of hL (by cases a with | none => rfl | some _ => simp at h)]; exact OwnO.nil _ _ _
  · intro b
    refine app0 (cxg _) (e := 64) rfl (fun _ => rfl) (fun _ => rfl) (k := 0) rfl hL rfl (by omega) fun o' ho' => ?_
    exact ⟨[.hp o'.h], ⟨o', rfl, rfl, ho'⟩, fun w' h => h.pick [0, 2] rfl rfl⟩
theorem cloneStations_spec {RL : List Rq} (w : World) (hL : Sl (encF fQ) 2 (Hp.whole w) a n c RL) (hn : n < 1000000000) :
    CallsE Tryz.prog 32 #[.slice a n c] w (Ret w fun v cs => ∃ o, v = o.v ∧ cs = [.hp o.h] ∧ OwnO fQ 60 2 o RL) := by
  have hlen := hL.len
  refine enter (X := cx 8) (cxg _) (args := [.slice a n c]) [.tmp 2] Tryz.func32 rfl rfl rfl rfl rfl ?_
  refine qNilEq rfl ?_
  refine bsplit (fun h => ?_) (fun h => ?_)
  · refine ⟨[.hp Hp.emp], ⟨Os.nil, rfl, rfl, ?_⟩, fun w' h => h.emp⟩
    rw [nil_of hL (by cases a with | none => rfl | some _ => simp at h)]; exact OwnO.nil _ _ _
  · intro b
    refine app0 (cxg _) (e := 60) rfl (fun _ => rfl) (fun _ => rfl) (k := 0) rfl hL rfl (by omega) fun o' ho' => ?_
    exact ⟨[.hp o'.h], ⟨o', rfl, rfl, ho'⟩, fun w' h => h.pick [0, 2] rfl rfl⟩
theorem cloneStrs_spec {L : List ByteArray} (w : World) (hL : Sl (encF fS) 1 (Hp.whole w) a n c L) (hn : n < 1000000000) :
    CallsE Tryz.prog 33 #[.slice a n c] w (Ret w fun v cs => ∃ o, v = o.v ∧ cs = [.hp o.h] ∧ OwnO fS 9 1 o L) := by
  have hlen := hL.len
  refine enter (X := cx 8) (cxg _) (args := [.slice a n c]) [.tmp 2] Tryz.func33 rfl rfl rfl rfl rfl ?_
  refine qNilEq rfl ?_
  refine bsplit (fun h => ?_) (fun h => ?_)
  · refine ⟨[.hp Hp.emp], ⟨Os.nil, rfl, rfl, ?_⟩, fun w' h => h.emp⟩
    rw [nil_of hL (by cases a with | none => rfl | some _ => simp at h)]; exact OwnO.nil _ _ _
  · intro b
    refine app0 (cxg _) (e := 9) rfl (fun _ => rfl) (fun _ => rfl) (k := 0) rfl hL rfl (by omega) fun o' ho' => ?_
    exact ⟨[.hp o'.h], ⟨o', rfl, rfl, ho'⟩, fun w' h => h.pick [0, 2] rfl rfl⟩
set_option maxRecDepth 10000 in
theorem len50_spec (w : World) (hT : Sl encT 4 (Hp.whole w) a n c TT) (hS : Sl encN 2 (Hp.whole w) a' n' c' SS) (hs : Sml TT SS) (hE : shopE TT SS = 0) (h8 : TT.length ≤ 8) :
    CallsE Tryz.prog 31 #[sv a n c a' n' c'] w (RetV w (.int .i64 (mspF TT (bstR TT SS)))) := by
  have hF := fit_of hs hE
  have g1 := (bst_best hF hE h8).1
  have e0 : bstE TT SS = 0 := by unfold bstE; rw [if_neg (fun h => h hE), if_neg (by omega)]
  obtain ⟨B, hB⟩ : ∃ B, B = bstR TT SS := ⟨_, rfl⟩
  rw [← hB] at g1 ⊢
  have kB : ∀ w' : World, Sl encT 4 (Hp.whole w') a n c TT → Sl encN 2 (Hp.whole w') a' n' c' SS → CallsE Tryz.prog 19 #[sv a n c a' n' c'] w' (RetB w' B 0) := fun w' h1 h2 => by
    have := Best_spec w' h1 h2 hs (by omega)
    rwa [e0, ← hB] at this
  obtain ⟨M, hMd⟩ : ∃ M, M = mspF TT B := ⟨_, rfl⟩
  rw [← hMd]
  refine enter (X := cx 21) (cxg _) (args := [.agg #[.slice a n c, .slice a' n' c']]) [.tmp 2] Tryz.func31 rfl rfl rfl rfl rfl ?_
  intro b1
  refine call (fun w' hm => kB w' (hT.mono encT_mono (hm 0 _ rfl)) (hS.mono encN_mono (hm 0 _ rfl))) ?_
  rintro _ _ ⟨ba, bn, bc, hG, rfl, rfl, sB⟩
  have lB := sB.len
  have hBl := g1.len
  have hz : schE TT SS B = 0 := (sch_iff hF).2 g1
  refine callV (.int .i64 0) (fun w' hm => by
    have := check50_spec w' (hT.mono encT_mono (hm 0 _ rfl)) (hS.mono encN_mono (hm 0 _ rfl)) hs hF (sB.mono (encF_mono _) (hm 2 _ rfl))
    rwa [hz] at this) ?_
  refine callV (.int .i64 M) (fun w' hm => by rw [hMd]; exact makespan50_spec w' (hT.mono encT_mono (hm 0 _ rfl)) hF (sB.mono (encF_mono _) (hm 2 _ rfl)) (by omega) (fun i hi => by
    have := g1.s0 i (by omega)
    exact ⟨g1.tk i (by omega), this.1, by omega⟩)) ?_
  exact ⟨[], ⟨rfl, rfl⟩, fun w' h => h.pick [0] rfl rfl⟩
end
end Go.Proofs.YtnlkffccobdbjaaGreat
