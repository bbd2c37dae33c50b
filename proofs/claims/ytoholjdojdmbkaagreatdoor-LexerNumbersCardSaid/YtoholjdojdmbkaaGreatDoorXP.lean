/- Parts of one proof, joined: K6, Kf, Kj, Kk, Dwr, Kl. No condition of its own. -/
import Derived.Test.YtoholjdojdmbkaaGreatDoorXK
import Derived.Test.YtoholjdojdmbkaaGreatDoorXM
import Derived.Test.YtoholjdojdmbkaaGreatDoorXL
import Derived.Test.YtoholjdojdmbkaaGreatDoorXI
namespace Go.Proofs.YtoholjdojdmbkaaGreatDoor
open Go Go.RowKit Go.Dw
theorem whole_spec {n1 : Bool} {a1 a2 : Option Addr} {k1 c1 k2 c2 y : Nat} (w : World) (hM2 : Mag (Hp.whole w) (.slice a2 k2 c2) y) :
    CallsE Tryz.prog 107 #[ratV n1 a1 k1 c1 false a2 k2 c2] w (RetV w (.bool (decide (y = 0 ∨ y = 1)))) := by
  unfold ratV
  refine enter (X := cx 14) (cxg _) (args := [.agg #[.bool n1, .slice a1 k1 c1, .bool false, .slice a2 k2 c2]]) [.tmp 2] Tryz.func107 rfl rfl rfl rfl rfl ?_
  intro b1
  refine NeedD.by_order (cxg _) (.take 0 <| .take 1 <| .run 2 <| .take 3 <| .take 4 <| .take 5 <| .take 6 <| .run 7 <| .run 8 <| .take 9 <| .take 10 <| .take 11 <| .done) (by kernel_rfl) ?_
  refine callV _ (fun w' hm => sign_spec w' (hM2.mono (hm 0 _ rfl).whole)) ?_
  refine ⟨(by repeat first | exact trivial | refine ⟨.inl rfl, ?_⟩ | refine ⟨.inr rfl, ?_⟩), ?_⟩
  refine bsplitd (fun h1 => ?_) (fun h1 => ?_)
  · have h1 : y = 0 := by
      refine Classical.byContradiction fun c => ?_
      rw [if_neg c] at h1
      cases h1
    refine ⟨(by repeat first | exact trivial | refine ⟨.inl rfl, ?_⟩ | refine ⟨.inr rfl, ?_⟩), ?_⟩
    refine ⟨(by repeat first | exact trivial | refine ⟨.inl rfl, ?_⟩ | refine ⟨.inr rfl, ?_⟩), ?_⟩
    exact ⟨[], ⟨by rw [decide_eq_true (Or.inl h1)], rfl⟩, fun w' h => h.pick [0] rfl rfl⟩
  · have h1 : y ≠ 0 := fun c => h1 (by rw [if_pos c])
    refine call (fun w' hm => one_spec w') ?_
    rintro _ _ ⟨g3, a3, k3, c3, rfl, rfl, hM3⟩
    refine ⟨(by repeat first | exact trivial | refine ⟨.inl rfl, ?_⟩ | refine ⟨.inr rfl, ?_⟩), ?_⟩
    refine callV _ (fun w' hm => compareM_spec w' (hM2.mono (hm 0 _ rfl).whole) (hM3.mono (hm 2 _ rfl).whole) nofun nofun) ?_
    refine ⟨(by repeat first | exact trivial | refine ⟨.inl rfl, ?_⟩ | refine ⟨.inr rfl, ?_⟩), ?_⟩
    refine ⟨[], ⟨?_, rfl⟩, fun w' h => h.pick [0] rfl rfl⟩
    congr 1
    rw [decide_eq_decide, ord_one]
    exact ⟨fun h => .inr h, fun h => h.resolve_left h1⟩
theorem ratInt_spec {n1 : Bool} {a1 a2 : Option Addr} {k1 c1 k2 c2 x y : Nat} (w : World) (hM1 : Mag (Hp.whole w) (.slice a1 k1 c1) x) (hM2 : Mag (Hp.whole w) (.slice a2 k2 c2) y) :
    CallsE Tryz.prog 61 #[ratV n1 a1 k1 c1 false a2 k2 c2] w (RetV w (.tuple #[.int .i64 (if y = 0 ∨ y = 1 then (intI n1 x).1 else 0), .bool (decide (y = 0 ∨ y = 1) && (intI n1 x).2)])) := by
  unfold ratV
  refine enter (X := cx 12) (cxg _) (args := [.agg #[.bool n1, .slice a1 k1 c1, .bool false, .slice a2 k2 c2]]) [.tmp 2, .tmp 3] Tryz.func61 rfl rfl rfl rfl rfl ?_
  intro b1
  refine callV _ (fun w' hm => by
    have := whole_spec (n1 := n1) (a1 := a1) (k1 := k1) (c1 := c1) w' (hM2.mono (hm 0 _ rfl).whole)
    unfold ratV at this; exact this) ?_
  by_cases hy : y = 0 ∨ y = 1
  · rw [decide_eq_true hy, if_pos hy]
    refine callV _ (fun w' hm => int_spec w' (hM1.mono (hm 0 _ rfl).whole)) ?_
    exact ⟨[], ⟨rfl, rfl⟩, fun w' h => h.pick [0] rfl rfl⟩
  · rw [decide_eq_false hy, if_neg hy]
    exact ⟨[], ⟨rfl, rfl⟩, fun w' h => h.pick [0] rfl rfl⟩
/-! ### the reader's Int -/
theorem ts_next (r : RS) : ∀ t ∈ (nextR r).ts, t ∈ r.ts := by
  unfold nextR
  split
  · exact fun t h => List.mem_of_mem_tail h
  · exact fun t h => h
theorem ts_fail (r : RS) (e : Int) : (failR r e).ts = r.ts := by
  unfold failR
  split
  · rfl
  · split <;> rfl
theorem ts_sg (r : RS) : ∀ t ∈ (sgR r).ts, t ∈ r.ts := by
  have h1 : ∀ t ∈ (takeR r [45]).ts, t ∈ r.ts := by
    unfold takeR
    split
    · exact ts_next r
    · exact fun t h => h
  unfold sgR
  split
  · rw [ts_fail]; exact h1
  · exact h1
theorem peek_len {r : RS} (h : ∀ t ∈ r.ts, t.2.1.length < 900000) : (peekR r).2.1.length < 900000 := by
  unfold peekR
  split
  · exact Nat.zero_lt_succ _
  · cases hts : r.ts with
    | nil => exact Nat.zero_lt_succ _
    | cons t ts => exact h t (by rw [hts]; simp)
theorem numR_len {r : RS} (h : ∀ t ∈ r.ts, t.2.1.length < 900000) : (numR r).2.length < 1000000 := by
  have h1 : (kindR (sgR r) 2).2.length < 900000 := by
    unfold kindR
    split
    · exact Nat.zero_lt_succ _
    · exact peek_len fun t ht => h t (ts_sg r t ht)
  unfold numR
  dsimp only
  split
  · exact Nat.zero_lt_succ _
  · rw [List.length_append]
    split
    · rw [List.length_singleton]; omega
    · rw [List.length_nil]; omega
theorem proI_none {s : Byts} (h : reaE 400 s ≠ 0) : proI s = none := by unfold proI; rw [if_neg h]
theorem proI_frac {s : Byts} (h : ¬ (ratY s = 0 ∨ ratY s = 1)) : proI s = none := by
  unfold proI
  rw [if_neg h, ite_self]
theorem proI_int {s : Byts} (h : reaE 400 s = 0) (h1 : ratY s = 0 ∨ ratY s = 1) : proI s = someI (intI (sgnB (cutF s).1) (dgV (sgnD (cutF s).1))) := by unfold proI; rw [if_pos h, if_pos h1]
set_option maxRecDepth 20000 in
set_option maxHeartbeats 1000000 in
theorem Int_spec {k h : Hp} {b : Nat} {r : RS} {lo hi : Int} (w : World) (hin : h.In w) (hk : k.le ((Hp.whole w).minus h)) (hR : Rdr k h b r) :
    CallsE Tryz.prog 30 #[.pointer (some ⟨b, 0, none⟩), .int .i64 lo, .int .i64 hi] w (RetM w h fun v h' cs => cs = [] ∧ v = .int .i64 (intR r lo hi).2 ∧ Rdr k h' b (intR r lo hi).1) := by
  have hR0 := hR
  obtain ⟨a, n, c, hO, hS, hE, hB⟩ := hR
  have hn := hS.len
  have hlen0 := numR_len hB
  unfold rcs at hO
  refine enterM (X := cx 57) (cxg _) (args := [.pointer (some ⟨b, 0, none⟩), .int .i64 lo, .int .i64 hi]) hin [.tmp 6] Tryz.func30 rfl rfl rfl rfl rfl ?_
  refine qEqN ?_
  refine ldn (cxg _) (i := 1) rfl (fun j v hv => by
    obtain ⟨b', arr, e, _, _, h4⟩ := hO.cell hv
    cases e; rw [Nat.zero_add]; exact h4) rfl ?_
  intro b7
  refine callMO (i := 1) rfl (fun w0 w' hok => Number_spec w' (hok.mem 1 _ rfl) (hok.kle rfl rfl hk) hR0) ?_
  rintro _ h2 _ ⟨rfl, rfl, hR2⟩
  have hlen : (numR r).2.length < 1000000 := hlen0
  have hR2' := hR2
  obtain ⟨a', n', c', hO2, hS2, hE2, hB2⟩ := hR2
  unfold rcs at hO2
  refine old1 (j := 3) (cxg _) (i := 1) rfl hO2 rfl rfl ?_
  refine bsplitd (fun h3 => ?_) (fun h3 => ?_)
  · have h3 : (numR r).1.e ≠ 0 := h3
    have hI : intR r lo hi = ((numR r).1, 0) := by unfold intR; rw [if_pos h3]
    exact ⟨h2, [], ⟨rfl, by rw [hI], by rw [hI]; exact hR2'⟩, fun w' h => h.pick [0, 1] rfl rfl⟩
  · have h3 : ¬ (numR r).1.e ≠ 0 := h3
    have hI0 : intR r lo hi = match proI (numR r).2 with
      | none => (failR r 2, 0)
      | some n => if n < lo ∨ hi < n then (failR r 2, 0) else ((numR r).1, n) := by unfold intR; rw [if_neg h3]; rfl
    refine call (fun w' hm => ratParse_spec (numR r).2 hlen w') ?_
    rintro _ _ ⟨g, rfl, n1, a1, k1, c1, a2, k2, c2, x, y, rfl, hM1, hM2, hp, hz, hnz⟩
    intro b9
    refine callV _ (fun w' hm => ratInt_spec w' (hM1.mono (hm 3 _ rfl).whole) (hM2.mono (hm 3 _ rfl).whole)) ?_
    refine bsplitd (fun h4 => ?_) (fun h4 => ?_)
    · have h4 : reaE 400 (numR r).2 ≠ 0 := h4
      have hI : intR r lo hi = (failR r 2, 0) := by rw [hI0, proI_none h4]
      refine ost (j := 0) (cxg _) (i := 1) rfl hO2 rfl rfl rfl (by decide) rfl fun h5 hO5 => ?_
      have hR5 : Rdr k h5 b r := ⟨a, n, c, hO5, hS, hE, hB⟩
      refine callMO (i := 1) rfl (fun w0 w' hok => Fail_spec (e := 2) w' (hok.mem 1 _ rfl) (hok.kle rfl rfl hk) hR5) ?_
      rintro _ h6 _ ⟨rfl, hR6⟩
      exact ⟨h6, [], ⟨rfl, by rw [hI], by rw [hI]; exact hR6⟩, fun w' h => h.pick [0, 1] rfl rfl⟩
    · have h4 : reaE 400 (numR r).2 = 0 := Classical.byContradiction h4
      obtain ⟨e1, e2, e3⟩ := hz h4
      have hpro : proI (numR r).2 = if (decide (y = 0 ∨ y = 1) && (intI n1 x).2) = true then some (if y = 0 ∨ y = 1 then (intI n1 x).1 else 0) else none := by
        by_cases hy : y = 0 ∨ y = 1
        · rw [proI_int h4 (by unfold ratY; rw [← e3]; exact hy), ← e1, ← e2, decide_eq_true hy, if_pos hy, Bool.true_and]; rfl
        · rw [proI_frac (by unfold ratY; rw [← e3]; exact hy), decide_eq_false hy]; rfl
      generalize (decide (y = 0 ∨ y = 1) && (intI n1 x).2) = ok at *
      generalize (if y = 0 ∨ y = 1 then (intI n1 x).1 else 0) = val at *
      refine bsplit (fun h5 => ?_) (fun h5 => ?_)
      · have h5 : ok = false := by simpa using h5
        have hI : intR r lo hi = (failR r 2, 0) := by rw [hI0, hpro, h5]; rfl
        refine ost (j := 0) (cxg _) (i := 1) rfl hO2 rfl rfl rfl (by decide) rfl fun h5 hO5 => ?_
        have hR5 : Rdr k h5 b r := ⟨a, n, c, hO5, hS, hE, hB⟩
        refine callMO (i := 1) rfl (fun w0 w' hok => Fail_spec (e := 2) w' (hok.mem 1 _ rfl) (hok.kle rfl rfl hk) hR5) ?_
        rintro _ h6 _ ⟨rfl, hR6⟩
        exact ⟨h6, [], ⟨rfl, by rw [hI], by rw [hI]; exact hR6⟩, fun w' h => h.pick [0, 1] rfl rfl⟩
      · have h5 : ok = true := by simpa using h5
        rw [h5, if_pos rfl] at hpro
        rw [hpro] at hI0
        dsimp only at hI0
        refine bsplitd (fun h6 => ?_) (fun h6 => ?_)
        · have hI : intR r lo hi = (failR r 2, 0) := by rw [hI0, if_pos (.inl h6)]
          refine ost (j := 0) (cxg _) (i := 1) rfl hO2 rfl rfl rfl (by decide) rfl fun h5 hO5 => ?_
          have hR5 : Rdr k h5 b r := ⟨a, n, c, hO5, hS, hE, hB⟩
          refine callMO (i := 1) rfl (fun w0 w' hok => Fail_spec (e := 2) w' (hok.mem 1 _ rfl) (hok.kle rfl rfl hk) hR5) ?_
          rintro _ h6 _ ⟨rfl, hR6⟩
          exact ⟨h6, [], ⟨rfl, by rw [hI], by rw [hI]; exact hR6⟩, fun w' h => h.pick [0, 1] rfl rfl⟩
        · refine bsplitd (fun h7 => ?_) (fun h7 => ?_)
          · have hI : intR r lo hi = (failR r 2, 0) := by rw [hI0, if_pos (.inr h7)]
            refine ost (j := 0) (cxg _) (i := 1) rfl hO2 rfl rfl rfl (by decide) rfl fun h5 hO5 => ?_
            have hR5 : Rdr k h5 b r := ⟨a, n, c, hO5, hS, hE, hB⟩
            refine callMO (i := 1) rfl (fun w0 w' hok => Fail_spec (e := 2) w' (hok.mem 1 _ rfl) (hok.kle rfl rfl hk) hR5) ?_
            rintro _ h6 _ ⟨rfl, hR6⟩
            exact ⟨h6, [], ⟨rfl, by rw [hI], by rw [hI]; exact hR6⟩, fun w' h => h.pick [0, 1] rfl rfl⟩
          · have hI : intR r lo hi = ((numR r).1, val) := by rw [hI0, if_neg (fun g => g.elim h6 h7)]
            exact ⟨h2, [], ⟨rfl, by rw [hI], by rw [hI]; exact hR2'⟩, fun w' h => h.pick [0, 1] rfl rfl⟩
end Go.Proofs.YtoholjdojdmbkaaGreatDoor
namespace Go.Proofs.YtoholjdojdmbkaaGreatDoor
open Go Go.RowKit Go.Dw
/-- the model of a reader in heaplet h, its tokens in k -/
def MRd (k h : Hp) (b : Nat) (r : RS) : Prop := ∃ a n c, Own 80 4 h (some ⟨b, 0, none⟩) 1 1 (rcs a n c r) ∧ Sl (encF fT) 4 k a n c r.ts ∧ (r.e = 0 → 0 < r.ts.length) ∧ ∀ t ∈ r.ts, t.2.1.length < 900000
theorem MRd.mono {k k' h : Hp} {b : Nat} {r : RS} (l : k.le k') : MRd k h b r → MRd k' h b r
  | ⟨a, n, c, h1, h2, h3⟩ => ⟨a, n, c, h1, h2.mono (encF_mono _) l, h3⟩
theorem own_whole {T sz b c : Nat} {h : Hp} {xs : List Value} {w : World} (hin : h.In w) (hO : Own T sz h (some ⟨b, 0, none⟩) 1 c xs) : Own T sz (Hp.whole w) (some ⟨b, 0, none⟩) 1 c xs := by
  refine ⟨hO.1, ?_⟩
  rcases hO.2 with ⟨h0, _⟩ | ⟨b', arr, e1, hb, rest⟩
  · cases h0
  · exact .inr ⟨b', arr, e1, hin.whole _ _ hb, rest⟩
theorem MRd.len {k h : Hp} {b : Nat} {r : RS} (hR : MRd k h b r) : (peekR r).2.1.length < 900000 := by
  obtain ⟨_, _, _, _, _, _, hB⟩ := hR
  exact peek_len hB
section
variable {k h : Hp} {b : Nat} {r : RS}
theorem mPeek_spec (w : World) (hin : h.In w) (hk : k.le (Hp.whole w)) (hR : MRd k h b r) :
    CallsE Tryz.prog 22 #[.pointer (some ⟨b, 0, none⟩)] w (RetV w (encT (peekR r))) := by
  obtain ⟨a, n, c, hO, hS, hE, hB⟩ := hR
  have hS' := hS.mono (encF_mono _) hk
  have hn := hS.len
  have hO2 := own_whole hin hO
  unfold rcs at hO2
  refine enter (X := cx 23) (cxg _) (args := [.pointer (some ⟨b, 0, none⟩)]) [.cell 2 32] Tryz.func22 rfl rfl rfl rfl rfl ?_
  intro b2
  refine old1 (j := 3) (cxg _) (i := 0) rfl hO2 rfl rfl ?_
  refine bsplitd (fun h2 => ?_) (fun h2 => ?_)
  · refine NeedD.by_order (cxg _) (.take 0 <| .take 1 <| .take 2 <| .take 3 <| .take 4 <| .take 5 <| .take 6 <| .take 7 <| .take 8 <| .run 9 <| .done) (by kernel_rfl) ?_
    refine old1 (j := 1) (cxg _) (i := 0) rfl hO2 rfl rfl ?_
    refine old1 (j := 2) (cxg _) (i := 0) rfl hO2 rfl rfl ?_
    exact ⟨[], ⟨by unfold peekR; rw [if_pos h2]; rfl, rfl⟩, fun w' h => h.pick [0] rfl rfl⟩
  · have he : r.e = 0 := Classical.byContradiction h2
    have hp := hE he
    refine old1 (j := 0) (cxg _) (i := 0) rfl hO2 rfl rfl ?_
    refine idx (cxg _) (e := 32) rfl hS' 0 rfl hp (fun b9 o9 cs hcs hR hcell => ?_)
    subst hR
    refine ldn (cxg _) (i := 0) rfl hcell rfl ?_
    exact ⟨[], ⟨by
      unfold peekR; rw [if_neg h2, List.headD_eq_head?_getD, List.head?_eq_getElem?, List.getElem?_eq_getElem hp]; rfl, rfl⟩, fun w' h => h.pick [0] rfl rfl⟩
theorem mNext_spec (w : World) (hin : h.In w) (hk : k.le ((Hp.whole w).minus h)) (hR : MRd k h b r) :
    CallsE Tryz.prog 46 #[.pointer (some ⟨b, 0, none⟩)] w (RetM w h fun v h' cs => cs = [] ∧ v = encT (peekR r) ∧ MRd k h' b (mNextR r)) := by
  have hR0 := hR
  obtain ⟨a, n, c, hO, hS, hE, hB⟩ := hR
  have hn := hS.len
  unfold rcs at hO
  refine enterM (X := cx 28) (cxg _) (args := [.pointer (some ⟨b, 0, none⟩)]) hin [.cell 2 32] Tryz.func46 rfl rfl rfl rfl rfl ?_
  intro b2
  refine callV _ (fun w' hm => mPeek_spec w' (hm 1 _ rfl) (hk.trans (hm 0 _ rfl).whole) hR0) ?_
  intro b3
  refine old1 (j := 3) (cxg _) (i := 1) rfl hO rfl rfl ?_
  refine bsplitd (fun h2 => ?_) (fun h2 => ?_)
  · have he : r.e = 0 := h2
    refine old1 (j := 0) (cxg _) (i := 1) rfl hO rfl rfl ?_
    refine bsplitd (fun h3 => ?_) (fun h3 => ?_)
    · have h3 : 1 < r.ts.length := by omega
      have hx : mNextR r = { r with ts := r.ts.tail } := by unfold mNextR; rw [if_pos ⟨he, h3⟩]
      rw [hx]
      refine old1 (j := 0) (cxg _) (i := 1) rfl hO rfl rfl ?_
      refine slS (cxg _) (e := 32) rfl hS 1 n (.inr ⟨_, _, rfl, rfl⟩) (.inl ⟨rfl, rfl⟩) (by omega) (by omega) (fun a25 hs25 => ?_)
      refine ost (j := 0) (cxg _) (i := 1) rfl hO rfl rfl rfl (by decide) rfl fun h2' hO2 => ?_
      have e1 : (r.ts.take n).drop 1 = r.ts.tail := by rw [List.take_of_length_le (by omega), List.drop_one]
      rw [e1] at hs25
      exact ⟨h2', [], ⟨rfl, rfl, ⟨a25, n - 1, c - 1, hO2, hs25, fun _ => by rw [List.length_tail]; omega, fun t ht => hB t (List.mem_of_mem_tail ht)⟩⟩, fun w' h => h.pick [0, 1] rfl rfl⟩
    · have hx : mNextR r = r := by unfold mNextR; rw [if_neg (fun g => absurd g.2 (by omega))]
      rw [hx]
      exact ⟨h, [], ⟨rfl, rfl, hR0⟩, fun w' h => h.pick [0, 1] rfl rfl⟩
  · have hx : mNextR r = r := by unfold mNextR; rw [if_neg (fun g => h2 g.1)]
    rw [hx]
    exact ⟨h, [], ⟨rfl, rfl, hR0⟩, fun w' h => h.pick [0, 1] rfl rfl⟩
theorem mFail_spec {e : Int} (w : World) (hin : h.In w) (hk : k.le ((Hp.whole w).minus h)) (hR : MRd k h b r) :
    CallsE Tryz.prog 48 #[.pointer (some ⟨b, 0, none⟩), .int .i64 e] w (RetM w h fun _ h' cs => cs = [] ∧ MRd k h' b (mFailR r e)) := by
  have hR0 := hR
  obtain ⟨a, n, c, hO, hS, hE, hB⟩ := hR
  have hn := hS.len
  unfold rcs at hO
  refine enterM (X := cx 26) (cxg _) (args := [.pointer (some ⟨b, 0, none⟩), .int .i64 e]) hin [] Tryz.func48 rfl rfl rfl rfl rfl ?_
  refine callV _ (fun w' hm => mPeek_spec w' (hm 1 _ rfl) (hk.trans (hm 0 _ rfl).whole) hR0) ?_
  intro b4
  refine old1 (j := 3) (cxg _) (i := 1) rfl hO rfl rfl ?_
  refine bsplitd (fun h2 => ?_) (fun h2 => ?_)
  · have he : r.e = 0 := h2
    have hx : mFailR r e = { r with ln := (peekR r).2.2.1, co := (peekR r).2.2.2, e := e } := by unfold mFailR; rw [if_pos he]
    rw [hx]
    generalize peekR r = p at *
    refine NeedD.by_order0 (cxg _) (.take 0 <| .take 1 <| .take 2 <| .take 3 <| .take 4 <| .take 5 <| .take 6 <| .take 7 <| .take 8 <| .take 9 <| .run 10 <| .run 11 <| .run 12 <| .run 13 <| .run 14 <| .run 15 <| .run 16 <| .done) (by kernel_rfl) (subL_blank _ 1) ?_
    refine ost (j := 1) (cxg _) (i := 1) rfl hO rfl rfl rfl (by decide) rfl fun h5 hO2 => ?_
    refine ⟨(by repeat first | exact trivial | refine ⟨.inl rfl, ?_⟩ | refine ⟨.inr rfl, ?_⟩), ?_⟩
    refine ⟨(by repeat first | exact trivial | refine ⟨.inl rfl, ?_⟩ | refine ⟨.inr rfl, ?_⟩), ?_⟩
    refine ⟨(by repeat first | exact trivial | refine ⟨.inl rfl, ?_⟩ | refine ⟨.inr rfl, ?_⟩), ?_⟩
    refine ost (j := 2) (cxg _) (i := 1) rfl hO2 rfl rfl rfl (by decide) rfl fun h6 hO3 => ?_
    refine ⟨(by repeat first | exact trivial | refine ⟨.inl rfl, ?_⟩ | refine ⟨.inr rfl, ?_⟩), ?_⟩
    refine ost (j := 3) (cxg _) (i := 1) rfl hO3 rfl rfl rfl (by decide) rfl fun h7 hO4 => ?_
    exact ⟨h7, [], ⟨rfl, ⟨a, n, c, hO4, hS, fun _ => hE he, hB⟩⟩, fun w' h => h.pick [0, 1] rfl rfl⟩
  · have hx : mFailR r e = r := by unfold mFailR; rw [if_neg h2]
    rw [hx]
    exact ⟨h, [], ⟨rfl, hR0⟩, fun w' h => h.pick [0, 1] rfl rfl⟩
theorem mIs_spec {s : Byts} (w : World) (hin : h.In w) (hk : k.le (Hp.whole w)) (hR : MRd k h b r) :
    CallsE Tryz.prog 47 #[.pointer (some ⟨b, 0, none⟩), .string (bs s)] w (RetV w (.bool (isR r s))) := by
  refine enter (X := cx 22) (cxg _) (args := [.pointer (some ⟨b, 0, none⟩), .string (bs s)]) [.tmp 4] Tryz.func47 rfl rfl rfl rfl rfl ?_
  have hpk : ∀ w', Mem [.hp (Hp.whole w)] w' → CallsE Tryz.prog 22 #[.pointer (some ⟨b, 0, none⟩)] w' (RetV w' (encT (peekR r))) := fun w' hm => by
    have hw := (hm 0 _ rfl).whole
    exact mPeek_spec w' (fun x o e => hm 0 _ rfl _ _ (hin.whole _ _ e)) (hk.trans hw) hR
  refine callV _ (fun w' hm => hpk w' hm) ?_
  unfold isR
  generalize peekR r = p
  intro b5
  refine bsplitd (fun h1 => ?_) (fun h1 => ?_)
  · refine qEqL ?_
    exact ⟨[], ⟨by rw [decide_eq_true h1]; rfl, rfl⟩, fun w' h => h.pick [0] rfl rfl⟩
  · refine bsplitd (fun h2 => ?_) (fun h2 => ?_)
    · refine qEqL ?_
      exact ⟨[], ⟨by rw [decide_eq_true h2, Bool.or_true]; rfl, rfl⟩, fun w' h => h.pick [0] rfl rfl⟩
    · exact ⟨[], ⟨by rw [decide_eq_false h1, decide_eq_false h2]; rfl, rfl⟩, fun w' h => h.pick [0] rfl rfl⟩
theorem mError_spec (w : World) (hin : h.In w) (hR : MRd k h b r) :
    CallsE Tryz.prog 20 #[.pointer (some ⟨b, 0, none⟩)] w (RetV w (.tuple #[.int .i64 (if r.e = 0 then (0 : Int) else r.ln), .int .i64 (if r.e = 0 then (0 : Int) else r.co), .int .i64 r.e])) := by
  obtain ⟨a, n, c, hO, hS, hE, hB⟩ := hR
  have hO2 := own_whole hin hO
  unfold rcs at hO2
  refine enter (X := cx 22) (cxg _) (args := [.pointer (some ⟨b, 0, none⟩)]) [.tmp 2, .tmp 3, .tmp 4] Tryz.func20 rfl rfl rfl rfl rfl ?_
  refine old1 (j := 3) (cxg _) (i := 0) rfl hO2 rfl rfl ?_
  refine bsplitd (fun h2 => ?_) (fun h2 => ?_)
  · have h2' : r.e = 0 := h2
    exact ⟨[], ⟨by rw [h2']; rfl, rfl⟩, fun w' h => h.pick [0] rfl rfl⟩
  · have h2' : ¬ r.e = 0 := h2
    refine NeedD.by_order (cxg _) (.take 0 <| .take 1 <| .take 2 <| .take 3 <| .take 4 <| .take 5 <| .take 6 <| .take 7 <| .take 8 <| .take 9 <| .take 10 <| .take 11 <| .take 12 <| .take 13 <| .take 14 <| .done) (by kernel_rfl) ?_
    refine old1 (j := 1) (cxg _) (i := 0) rfl hO2 rfl rfl ?_
    refine old1 (j := 2) (cxg _) (i := 0) rfl hO2 rfl rfl ?_
    refine old1 (j := 3) (cxg _) (i := 0) rfl hO2 rfl rfl ?_
    exact ⟨[], ⟨by rw [if_neg h2', if_neg h2'], rfl⟩, fun w' h => h.pick [0] rfl rfl⟩
theorem mKind_spec {z : Int} (w : World) (hin : h.In w) (hk : k.le ((Hp.whole w).minus h)) (hR : MRd k h b r) :
    CallsE Tryz.prog 49 #[.pointer (some ⟨b, 0, none⟩), .int .i64 z] w (RetM w h fun v h' cs => cs = [] ∧ v = .string (bs (mKindR r z).2) ∧ MRd k h' b (mKindR r z).1) := by
  refine enterM (X := cx 15) (cxg _) (args := [.pointer (some ⟨b, 0, none⟩), .int .i64 z]) hin [.tmp 4] Tryz.func49 rfl rfl rfl rfl rfl ?_
  refine callV _ (fun w' hm => mPeek_spec w' (hm 1 _ rfl) (hk.trans (hm 0 _ rfl).whole) hR) ?_
  refine bsplitd (fun h1 => ?_) (fun h1 => ?_)
  · have e : mKindR r z = (mFailR r 14, []) := by unfold mKindR; rw [if_pos h1]
    rw [e]
    refine callMO (i := 1) rfl (fun w0 w' hok => mFail_spec w' (hok.mem 1 _ rfl) (hok.kle rfl rfl hk) hR) ?_
    rintro _ h3 _ ⟨rfl, hR3⟩
    exact ⟨h3, [], ⟨rfl, rfl, hR3⟩, fun w' h => h.pick [0, 1] rfl rfl⟩
  · have e : mKindR r z = (mNextR r, (peekR r).2.1) := by unfold mKindR; rw [if_neg h1]
    rw [e]
    refine callMO (i := 1) rfl (fun w0 w' hok => mNext_spec w' (hok.mem 1 _ rfl) (hok.kle rfl rfl hk) hR) ?_
    rintro _ h2 _ ⟨rfl, rfl, hR2⟩
    exact ⟨h2, [], ⟨rfl, rfl, hR2⟩, fun w' h => h.pick [0, 1] rfl rfl⟩
theorem MRd.kindB (hR : MRd k h b r) (z : Int) : (mKindR r z).2.length < 900000 := by
  unfold mKindR
  split
  · exact Nat.zero_lt_succ _
  · exact hR.len
set_option maxRecDepth 10000 in
set_option maxHeartbeats 1000000 in
theorem mNumber_spec (w : World) (hin : h.In w) (hk : k.le ((Hp.whole w).minus h)) (hR : MRd k h b r) :
    CallsE Tryz.prog 50 #[.pointer (some ⟨b, 0, none⟩)] w (RetM w h fun v h' cs => cs = [] ∧ v = .string (bs (mNumR r).2) ∧ MRd k h' b (mNumR r).1) := by
  refine enterM (X := cx 41) (cxg _) (args := [.pointer (some ⟨b, 0, none⟩)]) hin [.tmp 2] Tryz.func50 rfl rfl rfl rfl rfl ?_
  unfold mNumR
  have hno : mSig r = false → mSgR r = r := fun e => by unfold mSgR; rw [e]; rfl
  have hyes : mSig r = true → mSgR r = mNextR r := fun e => by unfold mSgR; rw [if_pos e]
  have hplain : mSig r = false → (if mSig r = true ∧ (peekR (mSgR r)).1 = 2 ∧ (peekR (mSgR r)).2.1 = [48] then (mFailR (mSgR r) 3, []) else ((mKindR (mSgR r) 2).1, if (mKindR (mSgR r) 2).2 = [] then [] else (if mSig r = true then [45] else []) ++ (mKindR (mSgR r) 2).2)) = ((mKindR r 2).1, (mKindR r 2).2) := fun e => by
    rw [hno e, e, if_neg (fun g => by cases g.1)]
    refine Prod.ext rfl ?_
    show (if (mKindR r 2).2 = [] then [] else (if false = true then [45] else []) ++ (mKindR r 2).2) = (mKindR r 2).2
    by_cases h : (mKindR r 2).2 = []
    · rw [if_pos h, h]
    · rw [if_neg h]; rfl
  have hneg : mSig r = true → ¬ ((peekR (mNextR r)).1 = 2 ∧ (peekR (mNextR r)).2.1 = [48]) → (if mSig r = true ∧ (peekR (mSgR r)).1 = 2 ∧ (peekR (mSgR r)).2.1 = [48] then (mFailR (mSgR r) 3, []) else ((mKindR (mSgR r) 2).1, if (mKindR (mSgR r) 2).2 = [] then [] else (if mSig r = true then [45] else []) ++ (mKindR (mSgR r) 2).2)) = ((mKindR (mNextR r) 2).1, if (mKindR (mNextR r) 2).2 = [] then [] else [45] ++ (mKindR (mNextR r) 2).2) := fun e h => by
    rw [hyes e, e, if_neg (fun g => h g.2), if_pos rfl]
  refine callV _ (fun w' hm => mPeek_spec w' (hm 1 _ rfl) (hk.trans (hm 0 _ rfl).whole) hR) ?_
  refine bsplitd (fun h1 => ?_) (fun h1 => ?_)
  · refine callV _ (fun w' hm => mPeek_spec w' (hm 1 _ rfl) (hk.trans (hm 0 _ rfl).whole) hR) ?_
    refine qEqL (b := [45]) ?_
    refine bsplitd (fun h2 => ?_) (fun h2 => ?_)
    · have hs : mSig r = true := by unfold mSig; rw [decide_eq_true (show (peekR r).1 = 4 from h1), decide_eq_true h2]; rfl
      refine callMO (i := 1) rfl (fun w0 w' hok => mNext_spec w' (hok.mem 1 _ rfl) (hok.kle rfl rfl hk) hR) ?_
      rintro _ h3 _ ⟨rfl, rfl, hR3⟩
      unfold encT
      dsimp only
      rw [h2]
      refine qNeL (a := [45]) (b := []) ?_
      conv => whnf
      refine callV _ (fun w' hm => mPeek_spec w' (hm 1 _ rfl) (hk.trans (hm 0 _ rfl).whole) hR3) ?_
      refine bsplitd (fun h4 => ?_) (fun h4 => ?_)
      · refine callV _ (fun w' hm => mPeek_spec w' (hm 1 _ rfl) (hk.trans (hm 0 _ rfl).whole) hR3) ?_
        refine qEqL (b := [48]) ?_
        refine bsplitd (fun h5 => ?_) (fun h5 => ?_)
        · have e : (if mSig r = true ∧ (peekR (mSgR r)).1 = 2 ∧ (peekR (mSgR r)).2.1 = [48] then (mFailR (mSgR r) 3, []) else ((mKindR (mSgR r) 2).1, if (mKindR (mSgR r) 2).2 = [] then [] else (if mSig r = true then [45] else []) ++ (mKindR (mSgR r) 2).2)) = (mFailR (mNextR r) 3, []) := by
            rw [hyes hs, if_pos ⟨hs, h4, h5⟩]
          rw [e]
          refine callMO (i := 1) rfl (fun w0 w' hok => mFail_spec w' (hok.mem 1 _ rfl) (hok.kle rfl rfl hk) hR3) ?_
          rintro _ h6 _ ⟨rfl, hR6⟩
          exact ⟨h6, [], ⟨rfl, rfl, hR6⟩, fun w' h => h.pick [0, 1] rfl rfl⟩
        · rw [hneg hs fun g => h5 g.2]
          refine callMO (i := 1) rfl (fun w0 w' hok => mKind_spec w' (hok.mem 1 _ rfl) (hok.kle rfl rfl hk) hR3) ?_
          rintro _ h6 _ ⟨rfl, rfl, hR6⟩
          refine qEqL (b := []) ?_
          refine bsplitd (fun h7 => ?_) (fun h7 => ?_)
          · exact ⟨_, [], ⟨rfl, by rw [if_pos h7]; rfl, hR6⟩, fun w' h => h.pick [0, 1] rfl rfl⟩
          · refine qAdd (ty := 9) (a := [45]) (by have := hR3.kindB 2; simp only [List.length_cons, List.length_nil]; omega) ?_
            exact ⟨_, [], ⟨rfl, by rw [if_neg h7], hR6⟩, fun w' h => h.pick [0, 1] rfl rfl⟩
      · rw [hneg hs fun g => h4 g.1]
        refine callMO (i := 1) rfl (fun w0 w' hok => mKind_spec w' (hok.mem 1 _ rfl) (hok.kle rfl rfl hk) hR3) ?_
        rintro _ h6 _ ⟨rfl, rfl, hR6⟩
        refine qEqL (b := []) ?_
        refine bsplitd (fun h7 => ?_) (fun h7 => ?_)
        · exact ⟨_, [], ⟨rfl, by rw [if_pos h7]; rfl, hR6⟩, fun w' h => h.pick [0, 1] rfl rfl⟩
        · refine qAdd (ty := 9) (a := [45]) (by have := hR3.kindB 2; simp only [List.length_cons, List.length_nil]; omega) ?_
          exact ⟨_, [], ⟨rfl, by rw [if_neg h7], hR6⟩, fun w' h => h.pick [0, 1] rfl rfl⟩
    · have hs : mSig r = false := by unfold mSig; rw [decide_eq_false h2, Bool.and_false]
      rw [hplain hs]
      refine qNeL (a := []) (b := []) ?_
      conv => whnf
      refine callMO (i := 1) rfl (fun w0 w' hok => mKind_spec w' (hok.mem 1 _ rfl) (hok.kle rfl rfl hk) hR) ?_
      rintro _ h6 _ ⟨rfl, rfl, hR6⟩
      refine qEqL (b := []) ?_
      refine bsplitd (fun h7 => ?_) (fun h7 => ?_)
      · exact ⟨_, [], ⟨rfl, by rw [h7]; rfl, hR6⟩, fun w' h => h.pick [0, 1] rfl rfl⟩
      · refine qAdd (ty := 9) (a := []) (by have := hR.kindB 2; simp only [List.length_nil]; omega) ?_
        exact ⟨_, [], ⟨rfl, rfl, hR6⟩, fun w' h => h.pick [0, 1] rfl rfl⟩
  · have hs : mSig r = false := by unfold mSig; rw [decide_eq_false (show ¬ (peekR r).1 = 4 from h1), Bool.false_and]
    rw [hplain hs]
    refine qNeL (a := []) (b := []) ?_
    conv => whnf
    refine callMO (i := 1) rfl (fun w0 w' hok => mKind_spec w' (hok.mem 1 _ rfl) (hok.kle rfl rfl hk) hR) ?_
    rintro _ h6 _ ⟨rfl, rfl, hR6⟩
    refine qEqL (b := []) ?_
    refine bsplitd (fun h7 => ?_) (fun h7 => ?_)
    · exact ⟨_, [], ⟨rfl, by rw [h7]; rfl, hR6⟩, fun w' h => h.pick [0, 1] rfl rfl⟩
    · refine qAdd (ty := 9) (a := []) (by have := hR.kindB 2; simp only [List.length_nil]; omega) ?_
      exact ⟨_, [], ⟨rfl, rfl, hR6⟩, fun w' h => h.pick [0, 1] rfl rfl⟩
end
end Go.Proofs.YtoholjdojdmbkaaGreatDoor
namespace Go.Proofs.YtoholjdojdmbkaaGreatDoor
open Go Go.RowKit Go.Dw
set_option maxRecDepth 20000 in
set_option maxHeartbeats 1000000 in
theorem call35_aux {k h : Hp} {b : Nat} {r r' : RS} {o : Ouc} (kd : Nat) (x : Byts) (lo hi : Int) (z : Nat) (hcal : calR r (kd, x, lo, hi, z) = (r', o)) (w : World) (hin : h.In w) (hk : k.le ((Hp.whole w).minus h)) (hR : Rdr k h b r) :
    CallsE Tryz.prog 23 #[.pointer (some ⟨b, 0, none⟩), .agg #[.int .u8 kd, .string (bs x), .int .i64 lo, .int .i64 hi, .int .u8 z]] w (RetM w h fun v h' cs => cs = [] ∧ v = encO o ∧ Rdr k h' b r') := by
  have key : ∀ q, kd % 10 = q → ∀ y, (match q with
      | 0 => (nextR r, (peekR r, [], 0, false))
      | 1 => (r, (tok0, [], 0, isR r x))
      | 2 => (takeR r x, (tok0, [], 0, isR r x))
      | 3 => (if isR r x = true then nextR r else failR r 14, (tok0, [], 0, false))
      | 4 => ((kindR r 1).1, (tok0, (kindR r 1).2, 0, false))
      | 5 => ((kindR r 3).1, (tok0, (kindR r 3).2, 0, false))
      | 6 => ((numR r).1, (tok0, (numR r).2, 0, false))
      | 7 => ((intR r lo hi).1, (tok0, [], (intR r lo hi).2, false))
      | 8 => (if (peekR r).1 ≠ 5 then failR r 14 else r, (tok0, [], 0, false))
      | _ => (failR r ((z % 40 : Nat) : Int), (tok0, [], 0, false)) : RS × Ouc) = y → r' = y.1 ∧ o = y.2 := fun q hq y hy => by
    subst hq
    have : y = (r', o) := hy.symm.trans hcal
    rw [this]; exact ⟨rfl, rfl⟩
  clear hcal
  refine enterM (X := cx 70) (cxg _) (args := [.pointer (some ⟨b, 0, none⟩), .agg #[.int .u8 kd, .string (bs x), .int .i64 lo, .int .i64 hi, .int .u8 z]]) hin [.cell 4 47] Tryz.func23 rfl rfl rfl rfl rfl ?_
  intro b3
  intro b4
  refine qRemP kd 10 rfl rfl (by decide) ?_
  rcases eight kd with e | e | e | e | e | e | e | e | e | e <;> rw [e]
  · obtain ⟨e1, e2⟩ := key 0 e _ rfl
    refine callMO (i := 1) rfl (fun w0 w' hok => Next_spec w' (hok.mem 1 _ rfl) (hok.kle rfl rfl hk) hR) ?_
    rintro _ h2 _ ⟨rfl, rfl, hR2⟩
    exact ⟨h2, [], ⟨rfl, by rw [e2]; rfl, by rw [e1]; exact hR2⟩, fun w' h => h.pick [0, 1] rfl rfl⟩
  · obtain ⟨e1, e2⟩ := key 1 e _ rfl
    refine callV _ (fun w' hm => Is_spec w' (hm 1 _ rfl) (hk.trans (hm 0 _ rfl).whole) hR) ?_
    exact ⟨h, [], ⟨rfl, by rw [e2]; rfl, by rw [e1]; exact hR⟩, fun w' h => h.pick [0, 1] rfl rfl⟩
  · obtain ⟨e1, e2⟩ := key 2 e _ rfl
    refine callMO (i := 1) rfl (fun w0 w' hok => Take_spec w' (hok.mem 1 _ rfl) (hok.kle rfl rfl hk) hR) ?_
    rintro _ h2 _ ⟨rfl, rfl, hR2⟩
    exact ⟨h2, [], ⟨rfl, by rw [e2]; rfl, by rw [e1]; exact hR2⟩, fun w' h => h.pick [0, 1] rfl rfl⟩
  · obtain ⟨e1, e2⟩ := key 3 e _ rfl
    refine callMO (i := 1) rfl (fun w0 w' hok => Expect_spec w' (hok.mem 1 _ rfl) (hok.kle rfl rfl hk) hR) ?_
    rintro _ h2 _ ⟨rfl, hR2⟩
    exact ⟨h2, [], ⟨rfl, by rw [e2]; rfl, by rw [e1]; exact hR2⟩, fun w' h => h.pick [0, 1] rfl rfl⟩
  · obtain ⟨e1, e2⟩ := key 4 e _ rfl
    refine callMO (i := 1) rfl (fun w0 w' hok => Name_spec w' (hok.mem 1 _ rfl) (hok.kle rfl rfl hk) hR) ?_
    rintro _ h2 _ ⟨rfl, rfl, hR2⟩
    exact ⟨h2, [], ⟨rfl, by rw [e2]; rfl, by rw [e1]; exact hR2⟩, fun w' h => h.pick [0, 1] rfl rfl⟩
  · obtain ⟨e1, e2⟩ := key 5 e _ rfl
    refine callMO (i := 1) rfl (fun w0 w' hok => Text_spec w' (hok.mem 1 _ rfl) (hok.kle rfl rfl hk) hR) ?_
    rintro _ h2 _ ⟨rfl, rfl, hR2⟩
    exact ⟨h2, [], ⟨rfl, by rw [e2]; rfl, by rw [e1]; exact hR2⟩, fun w' h => h.pick [0, 1] rfl rfl⟩
  · obtain ⟨e1, e2⟩ := key 6 e _ rfl
    refine callMO (i := 1) rfl (fun w0 w' hok => Number_spec w' (hok.mem 1 _ rfl) (hok.kle rfl rfl hk) hR) ?_
    rintro _ h2 _ ⟨rfl, rfl, hR2⟩
    exact ⟨h2, [], ⟨rfl, by rw [e2]; rfl, by rw [e1]; exact hR2⟩, fun w' h => h.pick [0, 1] rfl rfl⟩
  · obtain ⟨e1, e2⟩ := key 7 e _ rfl
    refine callMO (i := 1) rfl (fun w0 w' hok => Int_spec w' (hok.mem 1 _ rfl) (hok.kle rfl rfl hk) hR) ?_
    rintro _ h2 _ ⟨rfl, rfl, hR2⟩
    exact ⟨h2, [], ⟨rfl, by rw [e2]; rfl, by rw [e1]; exact hR2⟩, fun w' h => h.pick [0, 1] rfl rfl⟩
  · obtain ⟨e1, e2⟩ := key 8 e _ rfl
    refine callMO (i := 1) rfl (fun w0 w' hok => Finish_spec w' (hok.mem 1 _ rfl) (hok.kle rfl rfl hk) hR) ?_
    rintro _ h2 _ ⟨rfl, hR2⟩
    exact ⟨h2, [], ⟨rfl, by rw [e2]; rfl, by rw [e1]; exact hR2⟩, fun w' h => h.pick [0, 1] rfl rfl⟩
  · obtain ⟨e1, e2⟩ := key 9 e _ rfl
    refine qRemP z 40 rfl rfl (by decide) ?_
    refine nw (by omega) (by omega) ?_
    refine callMO (i := 1) rfl (fun w0 w' hok => Fail_spec w' (hok.mem 1 _ rfl) (hok.kle rfl rfl hk) hR) ?_
    rintro _ h2 _ ⟨rfl, hR2⟩
    exact ⟨h2, [], ⟨rfl, by rw [e2]; rfl, by rw [e1]; exact hR2⟩, fun w' h => h.pick [0, 1] rfl rfl⟩
end Go.Proofs.YtoholjdojdmbkaaGreatDoor
namespace Go.Proofs.YtoholjdojdmbkaaGreatDoor
open Go Go.RowKit Go.Dw
set_option maxRecDepth 20000 in
set_option maxHeartbeats 2000000 in
theorem mcall35_aux {k h : Hp} {b : Nat} {r r' : RS} {o : Ouc} (kd : Nat) (x : Byts) (lo hi : Int) (z : Nat) (hcal : mCalR r (kd, x, lo, hi, z) = (r', o)) (w : World) (hin : h.In w) (hk : k.le ((Hp.whole w).minus h)) (hR : MRd k h b r) (hnl : (mNumR r).2.length < 1000000) :
    CallsE Tryz.prog 24 #[.pointer (some ⟨b, 0, none⟩), .agg #[.int .u8 kd, .string (bs x), .int .i64 lo, .int .i64 hi, .int .u8 z]] w (RetM w h fun v h' cs => cs = [] ∧ v = encO o ∧ MRd k h' b r') := by
  have key : ∀ q, kd % 10 = q → ∀ y, (match q with
      | 0 => (mNextR r, (peekR r, [], 0, false))
      | 1 => (r, (tok0, [], 0, isR r x))
      | 2 => (if isR r x = true then mNextR r else r, (tok0, [], 0, isR r x))
      | 3 => (if isR r x = true then mNextR r else mFailR r 14, (tok0, [], 0, false))
      | 4 => ((mKindR r 1).1, (tok0, (mKindR r 1).2, 0, false))
      | 5 => ((mKindR r 3).1, (tok0, (mKindR r 3).2, 0, false))
      | 6 => ((mNumR r).1, (tok0, (mNumR r).2, 0, false))
      | 7 => ((mIntR r lo hi).1, (tok0, [], (mIntR r lo hi).2, false))
      | 8 => (if (peekR r).1 ≠ 5 then mFailR r 14 else r, (tok0, [], 0, false))
      | _ => (mFailR r ((z % 40 : Nat) : Int), (tok0, [], 0, false)) : RS × Ouc) = y → r' = y.1 ∧ o = y.2 := fun q hq y hy => by
    subst hq
    have : y = (r', o) := hy.symm.trans hcal
    rw [this]; exact ⟨rfl, rfl⟩
  clear hcal
  refine enterM (X := cx 129) (cxg _) (args := [.pointer (some ⟨b, 0, none⟩), .agg #[.int .u8 kd, .string (bs x), .int .i64 lo, .int .i64 hi, .int .u8 z]]) hin [.cell 4 47] Tryz.func24 rfl rfl rfl rfl rfl ?_
  intro b3
  intro b4
  refine qRemP kd 10 rfl rfl (by decide) ?_
  rcases eight kd with e | e | e | e | e | e | e | e | e | e <;> rw [e]
  · obtain ⟨e1, e2⟩ := key 0 e _ rfl
    refine callMO (i := 1) rfl (fun w0 w' hok => mNext_spec w' (hok.mem 1 _ rfl) (hok.kle rfl rfl hk) hR) ?_
    rintro _ h2 _ ⟨rfl, rfl, hR2⟩
    exact ⟨h2, [], ⟨rfl, by rw [e2]; rfl, by rw [e1]; exact hR2⟩, fun w' h => h.pick [0, 1] rfl rfl⟩
  · obtain ⟨e1, e2⟩ := key 1 e _ rfl
    refine callV _ (fun w' hm => mIs_spec w' (hm 1 _ rfl) (hk.trans (hm 0 _ rfl).whole) hR) ?_
    exact ⟨h, [], ⟨rfl, by rw [e2]; rfl, by rw [e1]; exact hR⟩, fun w' h => h.pick [0, 1] rfl rfl⟩
  · obtain ⟨e1, e2⟩ := key 2 e _ rfl
    have kis := fun (w' : World) hi hk => mIs_spec (s := x) w' (hi : h.In w') (hk : k.le (Hp.whole w')) hR
    cases hI : isR r x <;> rw [hI] at kis e1 e2
    · refine callV _ (fun w' hm => kis w' (hm 1 _ rfl) (hk.trans (hm 0 _ rfl).whole)) ?_
      refine qRemP kd 10 rfl rfl (by decide) ?_
      rw [e]
      exact ⟨h, [], ⟨rfl, by rw [e2]; rfl, by rw [e1]; exact hR⟩, fun w' h => h.pick [0, 1] rfl rfl⟩
    · refine callV _ (fun w' hm => kis w' (hm 1 _ rfl) (hk.trans (hm 0 _ rfl).whole)) ?_
      refine callMO (i := 1) rfl (fun w0 w' hok => mNext_spec w' (hok.mem 1 _ rfl) (hok.kle rfl rfl hk) hR) ?_
      rintro _ h2 _ ⟨rfl, rfl, hR2⟩
      refine qRemP kd 10 rfl rfl (by decide) ?_
      rw [e]
      exact ⟨h2, [], ⟨rfl, by rw [e2]; rfl, by rw [e1]; exact hR2⟩, fun w' h => h.pick [0, 1] rfl rfl⟩
  · obtain ⟨e1, e2⟩ := key 3 e _ rfl
    have kis := fun (w' : World) hi hk => mIs_spec (s := x) w' (hi : h.In w') (hk : k.le (Hp.whole w')) hR
    cases hI : isR r x <;> rw [hI] at kis e1 e2
    · refine callV _ (fun w' hm => kis w' (hm 1 _ rfl) (hk.trans (hm 0 _ rfl).whole)) ?_
      refine qRemP kd 10 rfl rfl (by decide) ?_
      rw [e]
      refine callMO (i := 1) rfl (fun w0 w' hok => mFail_spec w' (hok.mem 1 _ rfl) (hok.kle rfl rfl hk) hR) ?_
      rintro _ h2 _ ⟨rfl, hR2⟩
      exact ⟨h2, [], ⟨rfl, by rw [e2]; rfl, by rw [e1]; exact hR2⟩, fun w' h => h.pick [0, 1] rfl rfl⟩
    · refine callV _ (fun w' hm => kis w' (hm 1 _ rfl) (hk.trans (hm 0 _ rfl).whole)) ?_
      refine callMO (i := 1) rfl (fun w0 w' hok => mNext_spec w' (hok.mem 1 _ rfl) (hok.kle rfl rfl hk) hR) ?_
      rintro _ h2 _ ⟨rfl, rfl, hR2⟩
      refine qRemP kd 10 rfl rfl (by decide) ?_
      rw [e]
      exact ⟨h2, [], ⟨rfl, by rw [e2]; rfl, by rw [e1]; exact hR2⟩, fun w' h => h.pick [0, 1] rfl rfl⟩
  · obtain ⟨e1, e2⟩ := key 4 e _ rfl
    refine callMO (i := 1) rfl (fun w0 w' hok => mKind_spec w' (hok.mem 1 _ rfl) (hok.kle rfl rfl hk) hR) ?_
    rintro _ h2 _ ⟨rfl, rfl, hR2⟩
    exact ⟨h2, [], ⟨rfl, by rw [e2]; rfl, by rw [e1]; exact hR2⟩, fun w' h => h.pick [0, 1] rfl rfl⟩
  · obtain ⟨e1, e2⟩ := key 5 e _ rfl
    refine callMO (i := 1) rfl (fun w0 w' hok => mKind_spec w' (hok.mem 1 _ rfl) (hok.kle rfl rfl hk) hR) ?_
    rintro _ h2 _ ⟨rfl, rfl, hR2⟩
    exact ⟨h2, [], ⟨rfl, by rw [e2]; rfl, by rw [e1]; exact hR2⟩, fun w' h => h.pick [0, 1] rfl rfl⟩
  · obtain ⟨e1, e2⟩ := key 6 e _ rfl
    refine callMO (i := 1) rfl (fun w0 w' hok => mNumber_spec w' (hok.mem 1 _ rfl) (hok.kle rfl rfl hk) hR) ?_
    rintro _ h2 _ ⟨rfl, rfl, hR2⟩
    exact ⟨h2, [], ⟨rfl, by rw [e2]; rfl, by rw [e1]; exact hR2⟩, fun w' h => h.pick [0, 1] rfl rfl⟩
  · obtain ⟨e1, e2⟩ := key 7 e _ rfl
    clear key
    have hR0 := hR
    obtain ⟨a, n, c, hO, hS, hE, hB⟩ := hR
    unfold rcs at hO
    refine ldn (cxg _) (i := 1) rfl (fun j v hv => by
      obtain ⟨b', arr, e, _, _, h4⟩ := hO.cell hv
      cases e; rw [Nat.zero_add]; exact h4) rfl ?_
    intro b6
    refine callMO (i := 1) rfl (fun w0 w' hok => mNumber_spec w' (hok.mem 1 _ rfl) (hok.kle rfl rfl hk) hR0) ?_
    rintro _ h2 _ ⟨rfl, rfl, hR2⟩
    have hR2' := hR2
    obtain ⟨a', n', c', hO2, hS2, hE2, hB2⟩ := hR2
    unfold rcs at hO2
    refine call (fun w' hm => intParse_spec (mNumR r).2 (by omega) w') ?_
    rintro _ _ ⟨g, rfl, ng, a1, k1, c1, m, rfl, hM, hp, hz, hnz⟩
    intro b8
    refine callV _ (fun w' hm => int_spec w' (hM.mono (hm 5 _ rfl).whole)) ?_
    have hI0 : mIntR r lo hi = if (mNumR r).2 = [] then ((mNumR r).1, 0) else match valI (mNumR r).2 with
      | none => (mFailR r 2, 0)
      | some n => if n < lo ∨ hi < n then (mFailR r 2, 0) else ((mNumR r).1, n) := rfl
    have hpro : parE (mNumR r).2 = 0 → valI (mNumR r).2 = if (intI ng m).2 = true then some (intI ng m).1 else none := fun h4 => by
      obtain ⟨g1, g2⟩ := hz h4
      unfold valI; rw [if_pos h4, g1, g2]; rfl
    have hnon : parE (mNumR r).2 ≠ 0 → valI (mNumR r).2 = none := fun h4 => by unfold valI; rw [if_neg h4]
    clear hz hnz hp
    generalize (intI ng m).2 = ok at *
    generalize (intI ng m).1 = val at *
    generalize parE (mNumR r).2 = pe at *
    refine qEqL (b := []) ?_
    refine bsplitd (fun h3 => ?_) (fun h3 => ?_)
    · have hI : mIntR r lo hi = ((mNumR r).1, 0) := by rw [hI0, if_pos h3]
      exact ⟨h2, [], ⟨rfl, by rw [e2, hI]; rfl, by rw [e1, hI]; exact hR2'⟩, fun w' h => h.pick [0, 1] rfl rfl⟩
    · rw [if_neg h3] at hI0
      refine normS [.hp ((Hp.whole w).minus h), .hp h2, .box b3 [.int .u8 kd, .string (bs x), .int .i64 lo, .int .i64 hi, .int .u8 z] 42, .box b4 [.int .i64 0, .string (bs []), .int .i64 0, .int .i64 0, .string (bs []), .int .i64 0, .bool false] 47, .box b6 (rcs a n c r) 80, .hp g, .box b8 [.bool ng, .slice a1 k1 c1] 54] rfl ?_
      show wops _ _ _ _ _ _
      refine w1k (by rfl) fun K hK => ?_
      refine hK _ _ ?_
      refine w1k (by rfl) fun K hK => ?_
      refine hK _ _ ?_
      refine w1k (by rfl) fun K hK => ?_
      refine hK _ _ ?_
      refine wGSk (by rfl) (by rfl) (by rfl) (fun h2_ K hK => ?_) (fun h2_ K hK => ?_)
      · refine hK _ _ ?_
        refine wGYk (by rfl) (by rfl) (by rfl) fun K hK => ?_
        refine hK _ _ ?_
        refine w1k (by rfl) fun K hK => ?_
        refine hK _ _ ?_
        refine w1k (by rfl) fun K hK => ?_
        refine hK _ _ ?_
        refine wGSk (by rfl) (by rfl) (by rfl) (fun h6_ K hK => ?_) (fun h6_ K hK => ?_)
        · refine hK _ _ ?_
          refine wGYk (by rfl) (by rfl) (by rfl) fun K hK => ?_
          refine hK _ _ ?_
          refine wGYk (by rfl) (by rfl) (by rfl) fun K hK => ?_
          refine hK _ _ ?_
          refine wGYk (by rfl) (by rfl) (by rfl) fun K hK => ?_
          refine hK _ _ ?_
          refine w1k (by rfl) fun K hK => ?_
          refine hK _ _ ?_
          refine w1k (by rfl) fun K hK => ?_
          refine hK _ _ ?_
          refine wGSk (by rfl) (by rfl) (by rfl) (fun h12_ K hK => ?_) (fun h12_ K hK => ?_)
          · refine hK _ _ ?_
            refine wGYk (by rfl) (by rfl) (by rfl) fun K hK => ?_
            refine hK _ _ ?_
            refine wGYk (by rfl) (by rfl) (by rfl) fun K hK => ?_
            refine hK _ _ ?_
            refine wGYk (by rfl) (by rfl) (by rfl) fun K hK => ?_
            refine hK _ _ ?_
            refine w1k (by rfl) fun K hK => ?_
            refine hK _ _ ?_
            refine wnil ?_
            have h5 : ok = true := by simpa using h6_
            rw [hpro (Classical.not_not.1 (of_decide_eq_false h2_)), h5, if_pos rfl] at hI0
            dsimp only at hI0
            refine wcond (by rfl) (fun h7 => ?_) (fun h7 => ?_)
            · have hI : mIntR r lo hi = (mFailR r 2, 0) := by rw [hI0, if_pos (.inr (of_decide_eq_true h7))]
              refine ost (j := 0) (cxg _) (i := 1) rfl hO2 rfl rfl rfl (by decide) rfl fun h5 hO5 => ?_
              have hR5 : MRd k h5 b r := ⟨a, n, c, hO5, hS, hE, hB⟩
              refine callMO (i := 1) rfl (fun w0 w' hok => mFail_spec (e := 2) w' (hok.mem 1 _ rfl) (hok.kle rfl rfl hk) hR5) ?_
              rintro _ h6 _ ⟨rfl, hR6⟩
              refine normS [.hp ((Hp.whole w).minus h), .hp h6, .box b3 [.int .u8 kd, .string (bs x), .int .i64 lo, .int .i64 hi, .int .u8 z] 42, .box b4 [.int .i64 0, .string (bs []), .int .i64 0, .int .i64 0, .string (bs []), .int .i64 0, .bool false] 47, .box b6 (rcs a n c r) 80, .hp g, .box b8 [.bool ng, .slice a1 k1 c1] 54] rfl ?_
              exact ⟨h6, [], ⟨rfl, by rw [e2, hI]; rfl, by rw [e1, hI]; exact hR6⟩, fun w' h => h.pick [0, 1] rfl rfl⟩
            · have hI : mIntR r lo hi = ((mNumR r).1, val) := by rw [hI0, if_neg (fun g => g.elim (of_decide_eq_false h12_) (of_decide_eq_false h7))]
              exact ⟨h2, [], ⟨rfl, by rw [e2, hI]; rfl, by rw [e1, hI]; exact hR2'⟩, fun w' h => h.pick [0, 1] rfl rfl⟩
          · refine hK _ _ ?_
            refine wGNk (by rfl) (by rfl) (by rfl) fun K hK => ?_
            refine hK _ _ ?_
            refine wGNk (by rfl) (by rfl) (by rfl) fun K hK => ?_
            refine hK _ _ ?_
            refine wGNk (by rfl) (by rfl) (by rfl) fun K hK => ?_
            refine hK _ _ ?_
            refine w1k (by rfl) fun K hK => ?_
            refine hK _ _ ?_
            refine wnil ?_
            have h5 : ok = true := by simpa using h6_
            rw [hpro (Classical.not_not.1 (of_decide_eq_false h2_)), h5, if_pos rfl] at hI0
            dsimp only at hI0
            have hI : mIntR r lo hi = (mFailR r 2, 0) := by rw [hI0, if_pos (.inl (of_decide_eq_true h12_))]
            refine ost (j := 0) (cxg _) (i := 1) rfl hO2 rfl rfl rfl (by decide) rfl fun h5 hO5 => ?_
            have hR5 : MRd k h5 b r := ⟨a, n, c, hO5, hS, hE, hB⟩
            refine callMO (i := 1) rfl (fun w0 w' hok => mFail_spec (e := 2) w' (hok.mem 1 _ rfl) (hok.kle rfl rfl hk) hR5) ?_
            rintro _ h6 _ ⟨rfl, hR6⟩
            refine normS [.hp ((Hp.whole w).minus h), .hp h6, .box b3 [.int .u8 kd, .string (bs x), .int .i64 lo, .int .i64 hi, .int .u8 z] 42, .box b4 [.int .i64 0, .string (bs []), .int .i64 0, .int .i64 0, .string (bs []), .int .i64 0, .bool false] 47, .box b6 (rcs a n c r) 80, .hp g, .box b8 [.bool ng, .slice a1 k1 c1] 54] rfl ?_
            exact ⟨h6, [], ⟨rfl, by rw [e2, hI]; rfl, by rw [e1, hI]; exact hR6⟩, fun w' h => h.pick [0, 1] rfl rfl⟩
        · refine hK _ _ ?_
          refine wGNk (by rfl) (by rfl) (by rfl) fun K hK => ?_
          refine hK _ _ ?_
          refine wGNk (by rfl) (by rfl) (by rfl) fun K hK => ?_
          refine hK _ _ ?_
          refine wGNk (by rfl) (by rfl) (by rfl) fun K hK => ?_
          refine hK _ _ ?_
          refine w1k (by rfl) fun K hK => ?_
          refine hK _ _ ?_
          refine w1k (by rfl) fun K hK => ?_
          refine hK _ _ ?_
          refine wGNk (by rfl) (by rfl) (by rfl) fun K hK => ?_
          refine hK _ _ ?_
          refine wGNk (by rfl) (by rfl) (by rfl) fun K hK => ?_
          refine hK _ _ ?_
          refine wGNk (by rfl) (by rfl) (by rfl) fun K hK => ?_
          refine hK _ _ ?_
          refine wGNk (by rfl) (by rfl) (by rfl) fun K hK => ?_
          refine hK _ _ ?_
          refine w1k (by rfl) fun K hK => ?_
          refine hK _ _ ?_
          refine wnil ?_
          have h5 : ok = false := by simpa using h6_
          have hI : mIntR r lo hi = (mFailR r 2, 0) := by rw [hI0, hpro (Classical.not_not.1 (of_decide_eq_false h2_)), h5]; rfl
          refine ost (j := 0) (cxg _) (i := 1) rfl hO2 rfl rfl rfl (by decide) rfl fun h5 hO5 => ?_
          have hR5 : MRd k h5 b r := ⟨a, n, c, hO5, hS, hE, hB⟩
          refine callMO (i := 1) rfl (fun w0 w' hok => mFail_spec (e := 2) w' (hok.mem 1 _ rfl) (hok.kle rfl rfl hk) hR5) ?_
          rintro _ h6 _ ⟨rfl, hR6⟩
          refine normS [.hp ((Hp.whole w).minus h), .hp h6, .box b3 [.int .u8 kd, .string (bs x), .int .i64 lo, .int .i64 hi, .int .u8 z] 42, .box b4 [.int .i64 0, .string (bs []), .int .i64 0, .int .i64 0, .string (bs []), .int .i64 0, .bool false] 47, .box b6 (rcs a n c r) 80, .hp g, .box b8 [.bool ng, .slice a1 k1 c1] 54] rfl ?_
          exact ⟨h6, [], ⟨rfl, by rw [e2, hI]; rfl, by rw [e1, hI]; exact hR6⟩, fun w' h => h.pick [0, 1] rfl rfl⟩
      · refine hK _ _ ?_
        refine wGNk (by rfl) (by rfl) (by rfl) fun K hK => ?_
        refine hK _ _ ?_
        refine w1k (by rfl) fun K hK => ?_
        refine hK _ _ ?_
        refine w1k (by rfl) fun K hK => ?_
        refine hK _ _ ?_
        refine wGNk (by rfl) (by rfl) (by rfl) fun K hK => ?_
        refine hK _ _ ?_
        refine wGNk (by rfl) (by rfl) (by rfl) fun K hK => ?_
        refine hK _ _ ?_
        refine wGNk (by rfl) (by rfl) (by rfl) fun K hK => ?_
        refine hK _ _ ?_
        refine wGNk (by rfl) (by rfl) (by rfl) fun K hK => ?_
        refine hK _ _ ?_
        refine w1k (by rfl) fun K hK => ?_
        refine hK _ _ ?_
        refine w1k (by rfl) fun K hK => ?_
        refine hK _ _ ?_
        refine wGNk (by rfl) (by rfl) (by rfl) fun K hK => ?_
        refine hK _ _ ?_
        refine wGNk (by rfl) (by rfl) (by rfl) fun K hK => ?_
        refine hK _ _ ?_
        refine wGNk (by rfl) (by rfl) (by rfl) fun K hK => ?_
        refine hK _ _ ?_
        refine wGNk (by rfl) (by rfl) (by rfl) fun K hK => ?_
        refine hK _ _ ?_
        refine w1k (by rfl) fun K hK => ?_
        refine hK _ _ ?_
        refine wnil ?_
        have hI : mIntR r lo hi = (mFailR r 2, 0) := by rw [hI0, hnon (of_decide_eq_true h2_)]
        refine ost (j := 0) (cxg _) (i := 1) rfl hO2 rfl rfl rfl (by decide) rfl fun h5 hO5 => ?_
        have hR5 : MRd k h5 b r := ⟨a, n, c, hO5, hS, hE, hB⟩
        refine callMO (i := 1) rfl (fun w0 w' hok => mFail_spec (e := 2) w' (hok.mem 1 _ rfl) (hok.kle rfl rfl hk) hR5) ?_
        rintro _ h6 _ ⟨rfl, hR6⟩
        refine normS [.hp ((Hp.whole w).minus h), .hp h6, .box b3 [.int .u8 kd, .string (bs x), .int .i64 lo, .int .i64 hi, .int .u8 z] 42, .box b4 [.int .i64 0, .string (bs []), .int .i64 0, .int .i64 0, .string (bs []), .int .i64 0, .bool false] 47, .box b6 (rcs a n c r) 80, .hp g, .box b8 [.bool ng, .slice a1 k1 c1] 54] rfl ?_
        exact ⟨h6, [], ⟨rfl, by rw [e2, hI]; rfl, by rw [e1, hI]; exact hR6⟩, fun w' h => h.pick [0, 1] rfl rfl⟩
  · obtain ⟨e1, e2⟩ := key 8 e _ rfl
    refine callV _ (fun w' hm => mPeek_spec w' (hm 1 _ rfl) (hk.trans (hm 0 _ rfl).whole) hR) ?_
    refine bsplitd (fun h1 => ?_) (fun h1 => ?_)
    · have h1 : (peekR r).1 ≠ 5 := h1
      refine callMO (i := 1) rfl (fun w0 w' hok => mFail_spec w' (hok.mem 1 _ rfl) (hok.kle rfl rfl hk) hR) ?_
      rintro _ h2 _ ⟨rfl, hR2⟩
      exact ⟨h2, [], ⟨rfl, by rw [e2]; rfl, by rw [e1, if_pos h1]; exact hR2⟩, fun w' h => h.pick [0, 1] rfl rfl⟩
    · have h1 : ¬ (peekR r).1 ≠ 5 := h1
      exact ⟨h, [], ⟨rfl, by rw [e2]; rfl, by rw [e1, if_neg h1]; exact hR⟩, fun w' h => h.pick [0, 1] rfl rfl⟩
  · obtain ⟨e1, e2⟩ := key 9 e _ rfl
    refine qRemP z 40 rfl rfl (by decide) ?_
    refine nw (by omega) (by omega) ?_
    refine callMO (i := 1) rfl (fun w0 w' hok => mFail_spec w' (hok.mem 1 _ rfl) (hok.kle rfl rfl hk) hR) ?_
    rintro _ h2 _ ⟨rfl, hR2⟩
    exact ⟨h2, [], ⟨rfl, by rw [e2]; rfl, by rw [e1]; exact hR2⟩, fun w' h => h.pick [0, 1] rfl rfl⟩
theorem start35_spec (s : Byts) (hs : s.length < 100000) (w : World) : CallsE Tryz.prog 18 #[.string (bs s)] w (Ret w fun v cs => ∃ b h k, v = .pointer (some ⟨b, 0, none⟩) ∧ cs = [.hp h, .hp k] ∧ MRd k h b (newR s)) := by
  refine enter (X := cx 20) (cxg _) (args := [.string (bs s)]) [.tmp 2] Tryz.func18 rfl rfl rfl rfl rfl ?_
  refine call (fun w' hm => scan35_spec s hs w') ?_
  rintro _ _ ⟨o, rfl, rfl, hO⟩
  intro b19
  have hb : OwnO (fun _ : Unit => rcs o.a o.n o.c (newR s)) 80 4 ⟨some ⟨b19, 0, none⟩, 1, 1, (Ch.box b19 (rcs o.a o.n o.c (newR s)) 80).h⟩ [()] := OwnO.ofBox (fun _ => rfl) [()] (by simp) rfl (by decide)
  refine ⟨[.hp (Ch.box b19 (rcs o.a o.n o.c (newR s)) 80).h, .hp o.h], ⟨b19, _, _, rfl, rfl, o.a, o.n, o.c, hb.2, OwnO.sl (f := fT) (fun _ => rfl) (by decide) hO, fun h => ((sca_shape s).1 h).pos, (sca_shape s).2⟩, fun w' h => ?_⟩
  have h2 : Ok w [.hp (Hp.whole w), .box b19 (rcs o.a o.n o.c (newR s)) 80, .hp o.h] w' := h.pick [0, 2, 1] rfl rfl
  exact Ok.same (i := 1) (c := .box b19 (rcs o.a o.n o.c (newR s)) 80) (d := .hp (Ch.box b19 (rcs o.a o.n o.c (newR s)) 80).h) rfl rfl h2
end Go.Proofs.YtoholjdojdmbkaaGreatDoor
namespace Go.Dw
open Go Go.RowKit
section
variable {X : Ctx} {ops : List Oper} {takes : List Nat} {s0 : List Ch} {i : Nat} {k : DT} {o : Oper} {Q : Tm → List Ch → Prop} {t : Tm} {s : List Ch} {j d : Nat} {b : Bool} {x : Array Value}
theorem dT (ho : lget ops i = some o) (hq : isQ o.op = true) (h : wguard ops o t
        (fun t => wq X s0 t o.op fun tv => putk X.n t o.dst tv fun t' => wdraw X ops takes s0 k Q t' s)
        (fun t => putk X.n t o.dst (.v undef) fun t' => wdraw X ops takes s0 k Q t' s)) : wdraw X ops takes s0 (.take i k) Q t s := by
  unfold wdraw
  rw [ho]
  dsimp only
  rw [hq]
  exact h
theorem dT1 (ho : lget ops i = some o) (hq : isQ o.op = true) (hg : o.guard = none) (h : ∀ K : Tm → List Ch → Prop, (∀ t s, wdraw X ops takes s0 k Q t s → K t s) → wq X s0 t o.op fun tv => putk X.n t o.dst tv fun t' => K t' s) : wdraw X ops takes s0 (.take i k) Q t s := by
  refine dT ho hq ?_
  unfold wguard
  rw [hg]
  exact h _ fun _ _ h => h
theorem dTY (ho : lget ops i = some o) (hq : isQ o.op = true) (hg : o.guard = some (j, b)) (hj : gslot ops j = some d) (ha : aget t d = some (.v (.bool b))) (h : ∀ K : Tm → List Ch → Prop, (∀ t s, wdraw X ops takes s0 k Q t s → K t s) → wq X s0 ((d, .v (.bool b)) :: t) o.op fun tv => putk X.n ((d, .v (.bool b)) :: t) o.dst tv fun t' => K t' s) : wdraw X ops takes s0 (.take i k) Q t s := by
  refine dT ho hq ?_
  unfold wguard
  rw [hg]
  dsimp only
  rw [hj]
  dsimp only
  rw [ha]
  cases b <;> exact h _ fun _ _ h => h
theorem dTN (ho : lget ops i = some o) (hq : isQ o.op = true) (hg : o.guard = some (j, b)) (hj : gslot ops j = some d) (ha : aget t d = some (.v (.bool !b))) (h : ∀ K : Tm → List Ch → Prop, (∀ t s, wdraw X ops takes s0 k Q t s → K t s) → putk X.n ((d, .v (.bool !b)) :: t) o.dst (.v undef) fun t' => K t' s) : wdraw X ops takes s0 (.take i k) Q t s := by
  refine dT ho hq ?_
  unfold wguard
  rw [hg]
  dsimp only
  rw [hj]
  dsimp only
  rw [ha]
  cases b <;> exact h _ fun _ _ h => h
theorem dTU (ho : lget ops i = some o) (hq : isQ o.op = true) (hg : o.guard = some (j, b)) (hj : gslot ops j = some d) (ha : aget t d = some (.v (.tuple x))) (h : ∀ K : Tm → List Ch → Prop, (∀ t s, wdraw X ops takes s0 k Q t s → K t s) → putk X.n t o.dst (.v undef) fun t' => K t' s) : wdraw X ops takes s0 (.take i k) Q t s := by
  refine dT ho hq ?_
  unfold wguard
  rw [hg]
  dsimp only
  rw [hj]
  dsimp only
  rw [ha]
  exact h _ fun _ _ h => h
theorem dTS {w : Bool} (ho : lget ops i = some o) (hq : isQ o.op = true) (hg : o.guard = some (j, w)) (hj : gslot ops j = some d) (ha : aget t d = some (.v (.bool b))) (hy : b = w → ∀ K : Tm → List Ch → Prop, (∀ t s, wdraw X ops takes s0 k Q t s → K t s) → wq X s0 ((d, .v (.bool w)) :: t) o.op fun tv => putk X.n ((d, .v (.bool w)) :: t) o.dst tv fun t' => K t' s)
    (hn : b = !w → ∀ K : Tm → List Ch → Prop, (∀ t s, wdraw X ops takes s0 k Q t s → K t s) → putk X.n ((d, .v (.bool !w)) :: t) o.dst (.v undef) fun t' => K t' s) : wdraw X ops takes s0 (.take i k) Q t s := by
  refine dT ho hq ?_
  unfold wguard
  rw [hg]
  dsimp only
  rw [hj]
  dsimp only
  rw [ha]
  cases b <;> cases w
  · exact hy rfl _ fun _ _ h => h
  · exact hn rfl _ fun _ _ h => h
  · exact hn rfl _ fun _ _ h => h
  · exact hy rfl _ fun _ _ h => h
theorem dR (ho : lget ops i = some o) (hn : needR ops takes i k = true) (h : wguard ops o t
      (fun t => wop X s t o fun tv s' => putk X.n t o.dst tv fun t' => subL s0 s' ∧ wdraw X ops takes s0 k Q t' s')
      (fun t => putk X.n t o.dst (.v undef) fun t' => subL s0 s ∧ wdraw X ops takes s0 k Q t' s)) : wdraw X ops takes s0 (.run i k) Q t s := by
  unfold wdraw wrun
  rw [ho]
  dsimp only
  rw [hn]
  exact h
theorem dR1 (ho : lget ops i = some o) (hn : needR ops takes i k = true) (hg : o.guard = none) (h : ∀ K : Tm → List Ch → Prop, (∀ t s, wdraw X ops takes s0 k Q t s → K t s) → wop X s t o fun tv s' => putk X.n t o.dst tv fun t' => subL s0 s' ∧ K t' s') : wdraw X ops takes s0 (.run i k) Q t s := by
  refine dR ho hn ?_
  unfold wguard
  rw [hg]
  exact h _ fun _ _ h => h
theorem dRY (ho : lget ops i = some o) (hn : needR ops takes i k = true) (hg : o.guard = some (j, b)) (hj : gslot ops j = some d) (ha : aget t d = some (.v (.bool b))) (h : ∀ K : Tm → List Ch → Prop, (∀ t s, wdraw X ops takes s0 k Q t s → K t s) → wop X s ((d, .v (.bool b)) :: t) o fun tv s' => putk X.n ((d, .v (.bool b)) :: t) o.dst tv fun t' => subL s0 s' ∧ K t' s') : wdraw X ops takes s0 (.run i k) Q t s := by
  refine dR ho hn ?_
  unfold wguard
  rw [hg]
  dsimp only
  rw [hj]
  dsimp only
  rw [ha]
  cases b <;> exact h _ fun _ _ h => h
theorem dRN (ho : lget ops i = some o) (hn : needR ops takes i k = true) (hg : o.guard = some (j, b)) (hj : gslot ops j = some d) (ha : aget t d = some (.v (.bool !b))) (h : ∀ K : Tm → List Ch → Prop, (∀ t s, wdraw X ops takes s0 k Q t s → K t s) → putk X.n ((d, .v (.bool !b)) :: t) o.dst (.v undef) fun t' => subL s0 s ∧ K t' s) : wdraw X ops takes s0 (.run i k) Q t s := by
  refine dR ho hn ?_
  unfold wguard
  rw [hg]
  dsimp only
  rw [hj]
  dsimp only
  rw [ha]
  cases b <;> exact h _ fun _ _ h => h
theorem dDone (h : Q t s) : wdraw X ops takes s0 .done Q t s := h
end
end Go.Dw
