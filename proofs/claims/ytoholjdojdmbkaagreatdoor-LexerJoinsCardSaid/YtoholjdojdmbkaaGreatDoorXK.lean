/- Parts of one proof, joined: K1, K2, K8, K9, Ka, Kb, Kc. No condition of its own. -/
import Derived.Test.YtoholjdojdmbkaaGreatDoorXE
import Derived.Test.YtoholjdojdmbkaaGreatDoorXJ
namespace Go.Proofs.YtoholjdojdmbkaaGreatDoor
/-- the tokens from byte k on, whose place is p -/
def scR (s : Byts) (k : Nat) (p : Nat × Nat) (out : List Tok) : List Tok × Nat × Nat × Int := scaK (s.length - k + 1) (s.drop k) p out
theorem scR_any {s : Byts} {k f : Nat} (hf : s.length - k < f) (p : Nat × Nat) (out : List Tok) : scaK f (s.drop k) p out = scR s k p out :=
  sca_fuel (s.drop k).length f _ (s.drop k) p out (Nat.le_refl _) (by rw [List.length_drop]; exact hf) (by rw [List.length_drop]; omega)
theorem drop_cons7 {s : Byts} {k : Nat} (hk : k < s.length) : s.drop k = s.getD k 0 :: s.drop (k + 1) := by
  rw [List.drop_eq_getElem_cons hk, List.getD_eq_getElem?_getD, List.getElem?_eq_getElem hk]; rfl
theorem getD_drop7 (s : Byts) (k i : Nat) : (s.drop k).getD i 0 = s.getD (k + i) 0 := by
  rw [List.getD_eq_getElem?_getD, List.getElem?_drop, ← List.getD_eq_getElem?_getD]
theorem scR_stp {s : Byts} {k : Nat} (hk : k < s.length) (p : Nat × Nat) (out : List Tok) : scR s k p out =
    if (stp (s.drop k)).2.2 ≠ 0 then ([], (pasN p ((s.drop k).take (stp (s.drop k)).1)).1, (pasN p ((s.drop k).take (stp (s.drop k)).1)).2, (stp (s.drop k)).2.2)
    else scR s (k + (stp (s.drop k)).1) (pasN p ((s.drop k).take (stp (s.drop k)).1)) (out ++ atP p (stp (s.drop k)).2.1) := by
  have h0 : 0 < (s.drop k).length := by rw [List.length_drop]; omega
  have hst := stp_fit h0
  have e : scR s k p out = scaK (s.length - k + 1) (s.getD k 0 :: s.drop (k + 1)) p out := by unfold scR; rw [drop_cons7 hk]
  rw [e, sca_stp, ← drop_cons7 hk]
  split
  · rfl
  · rename_i h
    have := hst (Classical.byContradiction h)
    rw [List.length_drop] at this
    rw [List.drop_drop]
    exact scR_any (by omega) _ _
theorem scR_end {s : Byts} {k : Nat} (hk : s.length ≤ k) (p : Nat × Nat) (out : List Tok) : scR s k p out = (out ++ [(5, [], p.1, p.2)], 0, 0, 0) := by
  unfold scR; rw [List.drop_of_length_le hk]; cases s.length - k + 1 <;> rfl
theorem scR_blank {s : Byts} {k : Nat} (hk : k < s.length) (h : s.getD k 0 = 32 ∨ s.getD k 0 = 10) (p : Nat × Nat) (out : List Tok) : scR s k p out = scR s (k + 1) (pas1 p (s.getD k 0)) out := by
  have e : stp (s.drop k) = (1, [], 0) := by unfold stp; rw [getD_drop7, Nat.add_zero, if_pos h]
  rw [scR_stp hk, e, if_neg (by decide), drop_cons7 hk]
  show scR s (k + 1) (pas1 p (s.getD k 0)) (out ++ []) = _
  rw [List.append_nil]
theorem scR_note {s : Byts} {k : Nat} (hk : k < s.length) (h : s.getD k 0 = 35) (p : Nat × Nat) (out : List Tok) : scR s k p out = scR s (k + runN (fun c => !decide (c = 10)) (s.drop k)) (pasN p ((s.drop k).take (runN (fun c => !decide (c = 10)) (s.drop k)))) out := by
  have e : stp (s.drop k) = (runN (fun c => !decide (c = 10)) (s.drop k), [], 0) := by unfold stp; rw [getD_drop7, Nat.add_zero, if_neg (by rw [h]; decide), if_pos h]
  rw [scR_stp hk, e, if_neg (fun g => g rfl)]
  show scR s _ _ (out ++ []) = _
  rw [List.append_nil]
/-- a byte at which a token begins -/
def tokB (c : UInt8) : Prop := c ≠ 32 ∧ c ≠ 10 ∧ c ≠ 35
theorem scR_tok {s : Byts} {k : Nat} (hk : k < s.length) (h : tokB (s.getD k 0)) (p : Nat × Nat) (out : List Tok) : scR s k p out =
    if (tokF (s.drop k)).2.2.2 ≠ 0 then ([], (pasN p ((s.drop k).take (tokF (s.drop k)).1)).1, (pasN p ((s.drop k).take (tokF (s.drop k)).1)).2, (tokF (s.drop k)).2.2.2)
    else scR s (k + (tokF (s.drop k)).1) (pasN p ((s.drop k).take (tokF (s.drop k)).1)) (out ++ [((tokF (s.drop k)).2.1, (tokF (s.drop k)).2.2.1, p.1, p.2)]) := by
  have e : stp (s.drop k) = ((tokF (s.drop k)).1, [((tokF (s.drop k)).2.1, (tokF (s.drop k)).2.2.1)], (tokF (s.drop k)).2.2.2) := by
    unfold stp; rw [getD_drop7, Nat.add_zero, if_neg (fun g => g.elim h.1 h.2.1), if_neg h.2.2]
  rw [scR_stp hk, e]
  rfl
theorem tok_fit {s : Byts} {k : Nat} (hk : k < s.length) (h : tokB (s.getD k 0)) (h0 : (tokF (s.drop k)).2.2.2 = 0) : 0 < (tokF (s.drop k)).1 ∧ k + (tokF (s.drop k)).1 ≤ s.length := by
  have e : stp (s.drop k) = ((tokF (s.drop k)).1, [((tokF (s.drop k)).2.1, (tokF (s.drop k)).2.2.1)], (tokF (s.drop k)).2.2.2) := by
    unfold stp; rw [getD_drop7, Nat.add_zero, if_neg (fun g => g.elim h.1 h.2.1), if_neg h.2.2]
  have := stp_fit (s := s.drop k) (by rw [List.length_drop]; omega) (by rw [e]; exact h0)
  rw [e, List.length_drop] at this
  exact ⟨this.2, by have := this.1; omega⟩
theorem scaF_scR {s : Byts} (h : s.length ≤ 65536) : scaF s = scR s 0 (1, 1) [] := by
  unfold scaF scR; rw [if_neg (by omega)]; rfl
/-- the model's word -/
def worM (s : Byts) : Nat := if isLow (s.getD 0 0) = true then runN isInn s else 0
/-- the model's number -/
def nuM (s : Byts) : Nat × Nat := if runN isDig s = 0 then (0, 0) else numN s
theorem isLow_zero : isLow 0 = false := by decide
theorem isDig_zero : isDig 0 = false := by decide
theorem low_inn {c : UInt8} (h : isLow c = true) : isInn c = true := by unfold isInn; rw [h]; rfl
theorem run_pos7 (f : UInt8 → Bool) (l : Byts) : 0 < runN f l ↔ 0 < l.length ∧ f (l.getD 0 0) = true := by
  cases l with
  | nil => unfold runN; simp
  | cons c l =>
    unfold runN
    rw [List.takeWhile_cons]
    by_cases h : f c = true
    · rw [if_pos h]; simp [h]
    · rw [if_neg h]; simp [h]
/-- a token that is no string, as the model finds it -/
theorem tok_model {s : Byts} (h0 : 0 < s.length) (hq : s.getD 0 0 ≠ 34) : tokF s =
    if 0 < worM s then (if 40 < worM s then (0, 1, [], 5) else (worM s, 1, s.take (worM s), 0))
    else if 0 < (nuM s).1 then (if 400 < (nuM s).1 then (0, 2, [], 5) else if canN (s.take (nuM s).1) (nuM s).2 then ((nuM s).1, 2, s.take (nuM s).1, 0) else (0, 2, [], 3))
    else if symN s = 0 then (0, 4, [], 14) else (symN s, 4, s.take (symN s), 0) := by
  have e : tokF s = if s.getD 0 0 = 34 then ((quoF (s.drop 1) 1 []).1, 3, (quoF (s.drop 1) 1 []).2.1, (quoF (s.drop 1) 1 []).2.2)
    else if isLow (s.getD 0 0) then (if 40 < runN isInn s then (0, 1, [], 5) else (runN isInn s, 1, s.take (runN isInn s), 0))
    else if isDig (s.getD 0 0) then (if 400 < (numN s).1 then (0, 2, [], 5) else if canN (s.take (numN s).1) (numN s).2 then ((numN s).1, 2, s.take (numN s).1, 0) else (0, 2, [], 3))
    else if symN s = 0 then (0, 4, [], 14) else (symN s, 4, s.take (symN s), 0) := rfl
  rw [e, if_neg hq]
  by_cases h1 : isLow (s.getD 0 0) = true
  · have hw : worM s = runN isInn s := by unfold worM; rw [if_pos h1]
    have hp := (run_pos7 isInn s).2 ⟨h0, low_inn h1⟩
    rw [if_pos h1, hw, if_pos hp]
  · have hw : worM s = 0 := by unfold worM; rw [if_neg h1]
    rw [if_neg h1, hw, if_neg (Nat.lt_irrefl 0)]
    by_cases h2 : isDig (s.getD 0 0) = true
    · have hp := (run_pos7 isDig s).2 ⟨h0, h2⟩
      have hn : nuM s = numN s := by unfold nuM; rw [if_neg (by omega)]
      have hnp : 0 < (numN s).1 := by
        unfold numN; dsimp only; split
        · show 0 < runN isDig s + 1 + _; omega
        · exact hp
      rw [if_pos h2, hn, if_pos hnp]
    · have hp : runN isDig s = 0 := by
        have := run_pos7 isDig s
        rcases Nat.eq_zero_or_pos (runN isDig s) with g | g
        · exact g
        · exact absurd (this.1 g).2 h2
      have hn : nuM s = (0, 0) := by unfold nuM; rw [if_pos hp]
      rw [if_neg h2, hn, if_neg (Nat.lt_irrefl 0)]
theorem tok_quote {s : Byts} (hq : s.getD 0 0 = 34) : tokF s = ((quoF (s.drop 1) 1 []).1, 3, (quoF (s.drop 1) 1 []).2.1, (quoF (s.drop 1) 1 []).2.2) := by
  have e : tokF s = if s.getD 0 0 = 34 then ((quoF (s.drop 1) 1 []).1, 3, (quoF (s.drop 1) 1 []).2.1, (quoF (s.drop 1) 1 []).2.2) else _ := rfl
  rw [e, if_pos hq]
end Go.Proofs.YtoholjdojdmbkaaGreatDoor
namespace Go.Proofs.YtoholjdojdmbkaaGreatDoor
open Go Go.RowKit Go.Dw
def exG : Byts := [103, 97, 112, 32, 45, 62, 32, 51, 47, 52, 32, 35, 32, 101, 110, 100]
def exGL : List Tok := [(1, [103, 97, 112], 1, 1), (4, [45, 62], 1, 5), (2, [51, 47, 52], 1, 8), (5, [], 1, 17)]
def exDL : List Tok := [(2, [49], 1, 1), (4, [46, 46], 1, 2), (2, [50], 1, 4), (5, [], 1, 5)]
theorem exG_eq : scaF exG = (exGL, 0, 0, 0) := by decide +kernel
theorem exT_eq : scaF [50, 47, 52] = ([], 1, 1, 3) := by decide +kernel
theorem exD_eq : scaF [49, 46, 46, 50] = (exDL, 0, 0, 0) := by decide +kernel
theorem exX_eq : scaF [97, 10, 32, 34, 120] = ([], 2, 2, 4) := by decide +kernel
def exR : Byts := [45, 53, 47, 55, 32, 45, 48]
theorem exR_eq : (numR (newR exR)).2 = [45, 53, 47, 55] ∧ (numR (numR (newR exR)).1).1.e = 3 ∧ (numR (numR (newR exR)).1).1.ln = 1 ∧ (numR (numR (newR exR)).1).1.co = 7 := by decide +kernel
theorem Ok.kle2 {w0 w : World} {s : List Ch} {i j : Nat} {k h : Hp} (hok : Ok w0 s w) (hij : j ≠ i) (hj : sget s j = some (.hp k)) (hi : sget s i = some (.hp h)) : k.le ((Hp.whole w).minus h) :=
  Hp.le_minus (hok.mem j _ hj).whole (hok.disj j i _ _ hij hj hi)
theorem scan_at {s : Byts} {L : List Tok} {a b : Nat} {e : Int} (h : scaF s = (L, a, b, e)) (w : World) (hT : TabS (Hp.whole w)) : CallsE Tryz.prog 14 #[.string (bs s)] w (Ret w fun v cs => ∃ o : Dw.Os, v = .tuple #[o.v, .int .i64 a, .int .i64 b, .int .i64 e] ∧ cs = [.hp o.h] ∧ OwnO fT 32 4 o L) := by
  have := Scan_spec s w hT
  rwa [h] at this
section
variable {s : List Ch} {ty : Nat} {xo yo : Operand} {q : TV → Prop}
theorem qTokYes {a b : Tok} (he : a = b) (h : q (.v (.bool true))) : NeedQ Tryz.prog s (do eqGuard .eql 32 xo yo (encT a) (encT b); binOp .eql 32 (encT a) (encT b)) q := qTokEq (by rw [decide_eq_true he]; exact h)
theorem qEqYes {a b : Byts} (he : a = b) (h : q (.v (.bool true))) : NeedQ Tryz.prog s (do eqGuard .eql ty xo yo (.string (bs a)) (.string (bs b)); binOp .eql ty (.string (bs a)) (.string (bs b))) q := qEqL (by rw [decide_eq_true he]; exact h)
end
set_option maxRecDepth 20000 in
set_option maxHeartbeats 1000000 in
theorem known35_aux (w : World) (hT : TabS (Hp.whole w)) {r0 r1 r2 : RS}
    (kG : ∀ (w : World), TabS (Hp.whole w) → CallsE Tryz.prog 14 #[.string (bs [103, 97, 112, 32, 45, 62, 32, 51, 47, 52, 32, 35, 32, 101, 110, 100])] w (Ret w fun v cs => ∃ a c h, v = .tuple #[.slice a 4 c, .int .i64 0, .int .i64 0, .int .i64 0] ∧ cs = [.hp h] ∧ Sl (encF fT) 4 h a 4 c exGL))
    (kT : ∀ (w : World), TabS (Hp.whole w) → CallsE Tryz.prog 14 #[.string (bs [50, 47, 52])] w (Ret w fun v cs => ∃ a n c, v = .tuple #[.slice a n c, .int .i64 1, .int .i64 1, .int .i64 3] ∧ cs = []))
    (kD : ∀ (w : World), TabS (Hp.whole w) → CallsE Tryz.prog 14 #[.string (bs [49, 46, 46, 50])] w (Ret w fun v cs => ∃ a c, v = .tuple #[.slice a 4 c, .int .i64 0, .int .i64 0, .int .i64 0] ∧ cs = []))
    (kX : ∀ (w : World), TabS (Hp.whole w) → CallsE Tryz.prog 14 #[.string (bs [97, 10, 32, 34, 120])] w (Ret w fun v cs => ∃ a n c, v = .tuple #[.slice a n c, .int .i64 2, .int .i64 2, .int .i64 4] ∧ cs = []))
    (kR : ∀ (w : World), TabS (Hp.whole w) → CallsE Tryz.prog 17 #[.string (bs [45, 53, 47, 55, 32, 45, 48])] w (Ret w fun v cs => ∃ b h k, v = .pointer (some ⟨b, 0, none⟩) ∧ cs = [.hp h, .hp k] ∧ Rdr k h b r0))
    (k1 : ∀ {k h : Hp} {b : Nat} (w : World), h.In w → k.le ((Hp.whole w).minus h) → Rdr k h b r0 → CallsE Tryz.prog 29 #[.pointer (some ⟨b, 0, none⟩)] w (RetM w h fun v h' cs => cs = [] ∧ v = .string (bs [45, 53, 47, 55]) ∧ Rdr k h' b r1))
    (k2 : ∀ {k h : Hp} {b : Nat} (w : World), h.In w → k.le ((Hp.whole w).minus h) → Rdr k h b r1 → CallsE Tryz.prog 29 #[.pointer (some ⟨b, 0, none⟩)] w (RetM w h fun _ h' cs => cs = [] ∧ Rdr k h' b r2))
    (kE : ∀ {k h : Hp} {b : Nat} (w : World), h.In w → Rdr k h b r2 → CallsE Tryz.prog 19 #[.pointer (some ⟨b, 0, none⟩)] w (RetV w (.tuple #[.int .i64 1, .int .i64 7, .int .i64 3]))) :
    CallsE Tryz.prog 12 #[] w (RetV w (.bool true)) := by
  refine enter (X := cx 126) (cxg _) (args := []) [.tmp 0] Tryz.func12 rfl rfl rfl rfl rfl ?_
  refine call (fun w' hm => kG w' (hT.mono (hm 0 _ rfl).whole)) ?_
  rintro _ _ ⟨a1, c1, h1, rfl, rfl, hS1⟩
  refine hideQ (fun _ kz => kz _ _ ?_)
  refine normS [.hp (Hp.whole w), .hp h1] rfl ?_
  refine call (fun w' hm => kT w' (hT.mono (hm 0 _ rfl).whole)) ?_
  rintro _ _ ⟨a2, n2, c2, rfl, rfl⟩
  refine hideQ (fun _ kz => kz _ _ ?_)
  refine normS [.hp (Hp.whole w), .hp h1] rfl ?_
  refine call (fun w' hm => kD w' (hT.mono (hm 0 _ rfl).whole)) ?_
  rintro _ _ ⟨a3, c3, rfl, rfl⟩
  refine hideQ (fun _ kz => kz _ _ ?_)
  refine normS [.hp (Hp.whole w), .hp h1] rfl ?_
  refine call (fun w' hm => kX w' (hT.mono (hm 0 _ rfl).whole)) ?_
  rintro _ _ ⟨a4, n4, c4, rfl, rfl⟩
  refine hideQ (fun _ kz => kz _ _ ?_)
  refine normS [.hp (Hp.whole w), .hp h1] rfl ?_
  refine call (fun w' hm => kR w' (hT.mono (hm 0 _ rfl).whole)) ?_
  rintro _ _ ⟨b, h, k, rfl, rfl, hR⟩
  refine hideQ (fun _ kz => kz _ _ ?_)
  refine normS [.hp (Hp.whole w), .hp h1, .hp h, .hp k] rfl ?_
  refine callMO (i := 2) rfl (fun w0 w' hok => k1 w' (hok.mem 2 _ rfl) (Ok.kle2 (j := 3) (i := 2) hok (by decide) rfl rfl) hR) ?_
  rintro _ h5 _ ⟨rfl, rfl, hR2⟩
  refine hideQ (fun _ kz => kz _ _ ?_)
  refine normS [.hp (Hp.whole w), .hp h1, .hp h5, .hp k] rfl ?_
  refine w1k (by rfl) fun K hK => ?_
  refine hK _ _ ?_
  refine w1k (by rfl) fun K hK => ?_
  refine callMO (i := 2) rfl (fun w0 w' hok => k2 w' (hok.mem 2 _ rfl) (Ok.kle2 (j := 3) (i := 2) hok (by decide) rfl rfl) hR2) ?_
  rintro v7 h6 _ ⟨rfl, hR3⟩
  refine hK _ _ ?_
  refine wnil ?_
  refine normS [.hp (Hp.whole w), .hp h1, .hp h6, .hp k] rfl ?_
  refine callV _ (fun w' hm => kE w' (hm 2 _ rfl) hR3) ?_
  refine hideQ (fun _ kz => kz _ _ ?_)
  show wops _ _ _ _ _ _
  refine w1k (by rfl) fun K hK => ?_
  refine hK _ _ ?_
  refine w1k (by rfl) fun K hK => ?_
  refine hK _ _ ?_
  refine w1k (by rfl) fun K hK => ?_
  refine hK _ _ ?_
  refine wGYk (by rfl) (by rfl) (by rfl) fun K hK => ?_
  refine hK _ _ ?_
  refine wGYk (by rfl) (by rfl) (by rfl) fun K hK => ?_
  refine hK _ _ ?_
  refine wGYk (by rfl) (by rfl) (by rfl) fun K hK => ?_
  refine hK _ _ ?_
  refine w1k (by rfl) fun K hK => ?_
  refine hK _ _ ?_
  refine w1k (by rfl) fun K hK => ?_
  refine hK _ _ ?_
  refine wGYk (by rfl) (by rfl) (by rfl) fun K hK => ?_
  refine hK _ _ ?_
  refine wGYk (by rfl) (by rfl) (by rfl) fun K hK => ?_
  refine idx (cxg _) (e := 32) rfl hS1 1 rfl (by decide) (fun b9 o9 cs hcs hR hcell => ?_)
  subst hR
  refine hK _ _ ?_
  refine wGYk (by rfl) (by rfl) (by rfl) fun K hK => ?_
  refine ldn (cxg _) (i := 1) rfl hcell rfl ?_
  refine hK _ _ ?_
  refine wGYk (by rfl) (by rfl) (by rfl) fun K hK => ?_
  refine hK _ _ ?_
  refine wGYk (by rfl) (by rfl) (by rfl) fun K hK => ?_
  refine qTokYes (a := (4, [45, 62], 1, 5)) (b := (4, [45, 62], 1, 5)) rfl ?_
  refine hK _ _ ?_
  refine w1k (by rfl) fun K hK => ?_
  refine hK _ _ ?_
  refine w1k (by rfl) fun K hK => ?_
  refine hK _ _ ?_
  refine wGYk (by rfl) (by rfl) (by rfl) fun K hK => ?_
  refine hK _ _ ?_
  refine wGYk (by rfl) (by rfl) (by rfl) fun K hK => ?_
  refine idx (cxg _) (e := 32) rfl hS1 2 rfl (by decide) (fun b9 o9 cs hcs hR hcell => ?_)
  subst hR
  refine hK _ _ ?_
  refine wGYk (by rfl) (by rfl) (by rfl) fun K hK => ?_
  refine hK _ _ ?_
  refine wGYk (by rfl) (by rfl) (by rfl) fun K hK => ?_
  refine ld1 (cxg _) (i := 1) rfl (hcell 1 _ rfl) rfl ?_
  refine hK _ _ ?_
  refine wGYk (by rfl) (by rfl) (by rfl) fun K hK => ?_
  refine qEqYes (a := [51, 47, 52]) (b := [51, 47, 52]) rfl ?_
  refine hK _ _ ?_
  refine w1k (by rfl) fun K hK => ?_
  refine hK _ _ ?_
  refine w1k (by rfl) fun K hK => ?_
  refine hK _ _ ?_
  refine wGYk (by rfl) (by rfl) (by rfl) fun K hK => ?_
  refine hK _ _ ?_
  refine wGYk (by rfl) (by rfl) (by rfl) fun K hK => ?_
  refine idx (cxg _) (e := 32) rfl hS1 3 rfl (by decide) (fun b9 o9 cs hcs hR hcell => ?_)
  subst hR
  refine hK _ _ ?_
  refine wGYk (by rfl) (by rfl) (by rfl) fun K hK => ?_
  refine ldn (cxg _) (i := 1) rfl hcell rfl ?_
  refine hK _ _ ?_
  refine wGYk (by rfl) (by rfl) (by rfl) fun K hK => ?_
  refine hK _ _ ?_
  refine wGYk (by rfl) (by rfl) (by rfl) fun K hK => ?_
  refine qTokYes (a := (5, [], 1, 17)) (b := (5, [], 1, 17)) rfl ?_
  refine hK _ _ ?_
  refine w1k (by rfl) fun K hK => ?_
  refine hK _ _ ?_
  refine w1k (by rfl) fun K hK => ?_
  refine hK _ _ ?_
  refine wGYk (by rfl) (by rfl) (by rfl) fun K hK => ?_
  refine hK _ _ ?_
  refine wGYk (by rfl) (by rfl) (by rfl) fun K hK => ?_
  refine hK _ _ ?_
  refine w1k (by rfl) fun K hK => ?_
  refine hK _ _ ?_
  refine w1k (by rfl) fun K hK => ?_
  refine hK _ _ ?_
  refine wGYk (by rfl) (by rfl) (by rfl) fun K hK => ?_
  refine hK _ _ ?_
  refine wGYk (by rfl) (by rfl) (by rfl) fun K hK => ?_
  refine hK _ _ ?_
  refine w1k (by rfl) fun K hK => ?_
  refine hK _ _ ?_
  refine w1k (by rfl) fun K hK => ?_
  refine hK _ _ ?_
  refine wGYk (by rfl) (by rfl) (by rfl) fun K hK => ?_
  refine hK _ _ ?_
  refine wGYk (by rfl) (by rfl) (by rfl) fun K hK => ?_
  refine hK _ _ ?_
  refine wGYk (by rfl) (by rfl) (by rfl) fun K hK => ?_
  refine hK _ _ ?_
  refine w1k (by rfl) fun K hK => ?_
  refine hK _ _ ?_
  refine w1k (by rfl) fun K hK => ?_
  refine hK _ _ ?_
  refine wGYk (by rfl) (by rfl) (by rfl) fun K hK => ?_
  refine hK _ _ ?_
  refine wGYk (by rfl) (by rfl) (by rfl) fun K hK => ?_
  refine hK _ _ ?_
  refine w1k (by rfl) fun K hK => ?_
  refine hK _ _ ?_
  refine w1k (by rfl) fun K hK => ?_
  refine hK _ _ ?_
  refine wGYk (by rfl) (by rfl) (by rfl) fun K hK => ?_
  refine hK _ _ ?_
  refine wGYk (by rfl) (by rfl) (by rfl) fun K hK => ?_
  refine hK _ _ ?_
  refine w1k (by rfl) fun K hK => ?_
  refine hK _ _ ?_
  refine w1k (by rfl) fun K hK => ?_
  refine hK _ _ ?_
  refine wGYk (by rfl) (by rfl) (by rfl) fun K hK => ?_
  refine hK _ _ ?_
  refine wGYk (by rfl) (by rfl) (by rfl) fun K hK => ?_
  refine hK _ _ ?_
  refine w1k (by rfl) fun K hK => ?_
  refine hK _ _ ?_
  refine w1k (by rfl) fun K hK => ?_
  refine hK _ _ ?_
  refine wGYk (by rfl) (by rfl) (by rfl) fun K hK => ?_
  refine hK _ _ ?_
  refine wGYk (by rfl) (by rfl) (by rfl) fun K hK => ?_
  refine qEqYes (a := [45, 53, 47, 55]) (b := [45, 53, 47, 55]) rfl ?_
  refine hK _ _ ?_
  refine w1k (by rfl) fun K hK => ?_
  refine hK _ _ ?_
  refine w1k (by rfl) fun K hK => ?_
  refine hK _ _ ?_
  refine wGYk (by rfl) (by rfl) (by rfl) fun K hK => ?_
  refine hK _ _ ?_
  refine wGYk (by rfl) (by rfl) (by rfl) fun K hK => ?_
  refine hK _ _ ?_
  refine w1k (by rfl) fun K hK => ?_
  refine hK _ _ ?_
  refine w1k (by rfl) fun K hK => ?_
  refine hK _ _ ?_
  refine wGYk (by rfl) (by rfl) (by rfl) fun K hK => ?_
  refine hK _ _ ?_
  refine wGYk (by rfl) (by rfl) (by rfl) fun K hK => ?_
  refine hK _ _ ?_
  refine w1k (by rfl) fun K hK => ?_
  refine hK _ _ ?_
  refine w1k (by rfl) fun K hK => ?_
  refine hK _ _ ?_
  refine wGYk (by rfl) (by rfl) (by rfl) fun K hK => ?_
  refine hK _ _ ?_
  refine wGYk (by rfl) (by rfl) (by rfl) fun K hK => ?_
  refine hK _ _ ?_
  refine w1k (by rfl) fun K hK => ?_
  refine hK _ _ ?_
  refine w1k (by rfl) fun K hK => ?_
  refine hK _ _ ?_
  refine wnil ?_
  exact ⟨[], ⟨rfl, rfl⟩, fun w' h => h.pick [0] rfl rfl⟩
theorem scan_at2 {s : Byts} {L : List Tok} {a b : Nat} {e : Int} (h : scaF s = (L, a, b, e)) (w : World) (hT : TabS (Hp.whole w)) : CallsE Tryz.prog 14 #[.string (bs s)] w (Ret w fun v cs => ∃ x c h, v = .tuple #[.slice x L.length c, .int .i64 a, .int .i64 b, .int .i64 e] ∧ cs = [.hp h] ∧ Sl (encF fT) 4 h x L.length c L) := by
  have := scan_at h w hT
  refine ⟨this.1, this.2.mono fun e w' he => ?_⟩
  obtain ⟨v, cs, rfl, h1, ⟨x, n, c, hh⟩, h2, h3, h4⟩ := he
  have hS := OwnO.sl (f := fT) (fun _ => rfl) (by decide) h4
  have hl : n = L.length := hS.len
  subst hl
  exact ⟨v, cs, rfl, h1, x, c, hh, h2, h3, hS⟩
theorem scan_at3 {s : Byts} {L : List Tok} {a b : Nat} {e : Int} (h : scaF s = (L, a, b, e)) (w : World) (hT : TabS (Hp.whole w)) : CallsE Tryz.prog 14 #[.string (bs s)] w (Ret w fun v cs => ∃ x c, v = .tuple #[.slice x L.length c, .int .i64 a, .int .i64 b, .int .i64 e] ∧ cs = []) := by
  have := scan_at2 h w hT
  refine ⟨this.1, this.2.mono fun e w' he => ?_⟩
  obtain ⟨v, cs, rfl, h1, x, c, hh, h2, rfl, h4⟩ := he
  exact ⟨v, [], rfl, h1.pick [0] rfl rfl, x, c, h2, rfl⟩
theorem known35_spec (w : World) (hT : TabS (Hp.whole w)) : CallsE Tryz.prog 12 #[] w (RetV w (.bool true)) :=
  known35_aux w hT (r0 := newR exR) (r1 := (numR (newR exR)).1) (r2 := (numR (numR (newR exR)).1).1)
    (fun w hT => scan_at2 exG_eq w hT)
    (fun w hT => by
      have := scan_at3 exT_eq w hT
      refine ⟨this.1, this.2.mono fun e w' he => ?_⟩
      obtain ⟨v, cs, rfl, h1, x, c, h2, h3⟩ := he
      exact ⟨v, cs, rfl, h1, x, _, c, h2, h3⟩)
    (fun w hT => scan_at3 exD_eq w hT)
    (fun w hT => by
      have := scan_at3 exX_eq w hT
      refine ⟨this.1, this.2.mono fun e w' he => ?_⟩
      obtain ⟨v, cs, rfl, h1, x, c, h2, h3⟩ := he
      exact ⟨v, cs, rfl, h1, x, _, c, h2, h3⟩)
    (fun w hT => New_spec exR w hT)
    (fun w hi hk hR => by have := Number_spec w hi hk hR; rwa [exR_eq.1] at this)
    (fun w hi hk hR => by
      have := Number_spec w hi hk hR
      refine ⟨this.1, this.2.mono fun e w' he => ?_⟩
      obtain ⟨v, h', cs, rfl, h1, h2, h3, h4⟩ := he
      exact ⟨v, h', cs, rfl, h1, h2, h4⟩)
    (fun w hi hR => by
      have := Error_spec w hi hR
      rw [exR_eq.2.1, exR_eq.2.2.1, exR_eq.2.2.2] at this
      exact this)
end Go.Proofs.YtoholjdojdmbkaaGreatDoor
namespace Go.Proofs.YtoholjdojdmbkaaGreatDoor
/-! ### numbers -/
/-- the text of a Number -/
def numT (x : Byts) : Prop := x.length ≤ 400 ∧ ∃ a b : Byts, a.all isDig = true ∧ 0 < a.length ∧ ((x = a ∧ canD a = true) ∨ (x = a ++ 47 :: b ∧ b.all isDig = true ∧ 0 < b.length ∧ canN x a.length = true))
/-- what the model's Int makes of a text -/
def someI (p : Int × Bool) : Option Int := if p.2 = true then some p.1 else none
def valI (s : Byts) : Option Int := if parE s = 0 then someI (intI (sgnB s) (dgV (sgnD s))) else none
/-- what the program's Int makes of it -/
def ratY (s : Byts) : Nat := if (cutF s).2.2 = true then dgV (cutF s).2.1 else 0
def proI (s : Byts) : Option Int := if reaE 400 s = 0 then (if ratY s = 0 ∨ ratY s = 1 then someI (intI (sgnB (cutF s).1) (dgV (sgnD (cutF s).1))) else none) else none
theorem dgV_low {l : Byts} (h0 : 0 < l.length) (h1 : l.getD 0 0 ≠ 48) (hd : l.all isDig = true) : 10 ^ (l.length - 1) ≤ dgV l := by
  cases l with
  | nil => cases h0
  | cons c l =>
    have hc : isDig c = true := List.all_eq_true.1 hd c (by simp)
    have hc1 : c ≠ 48 := h1
    unfold isDig at hc
    rw [Bool.and_eq_true, decide_eq_true_eq, decide_eq_true_eq] at hc
    have hn : c.toNat ≠ 48 := fun e => hc1 (UInt8.toNat_inj.1 e)
    have e := dec_append [c.toNat - 48] (l.map fun c => c.toNat - 48)
    have e1 : decV [c.toNat - 48] = c.toNat - 48 := by show 10 * 0 + (c.toNat - 48) = _; omega
    rw [e1] at e
    show 10 ^ l.length ≤ decV ([c.toNat - 48] ++ l.map fun c => c.toNat - 48)
    rw [e, List.length_map]
    have : 1 * 10 ^ l.length ≤ (c.toNat - 48) * 10 ^ l.length := Nat.mul_le_mul_right _ (by omega)
    omega
theorem canD_first {a : Byts} (h : canD a = true) (h2 : a ≠ [48]) : a.getD 0 0 ≠ 48 := by
  unfold canD at h
  rw [Bool.and_eq_true, Bool.or_eq_true, decide_eq_true_eq, decide_eq_true_eq] at h
  rcases h.2 with g | g
  · match a, g with
    | [c], _ => intro e; exact h2 (by rw [show c = 48 from e])
  · simpa using g
theorem parE_neg {a : Byts} (h : a.all isDig = true) (hc : canD a = true) (h2 : a ≠ [48]) (h3 : a.length ≤ 60000) : parE (45 :: a) = 0 ∧ sgnB (45 :: a) = true ∧ sgnD (45 :: a) = a := by
  have e1 : sgnB (45 :: a) = true := by unfold sgnB; simp
  have e2 : sgnD (45 :: a) = a := by unfold sgnD; rw [e1]; rfl
  refine ⟨?_, e1, e2⟩
  have h0 : 0 < a.length := by
    unfold canD at hc; rw [Bool.and_eq_true, decide_eq_true_eq] at hc; exact hc.1
  unfold parE
  rw [e2, if_neg (by rw [List.length_cons]; omega), if_neg, if_neg (fun g => canD_first hc h2 g.1)]
  rintro (g | g)
  · rw [g] at h0; cases h0
  · rw [any_not h] at g; cases g
theorem no_stroke {a : Byts} (h : a.all isDig = true) : cutF (45 :: a) = (45 :: a, [], false) := by
  have hs : (45 :: a : Byts).all (fun c => !decide (c = 47)) = true := by
    rw [List.all_cons, dig_stroke h]; rfl
  unfold cutF
  rw [run_all hs, if_neg (Nat.lt_irrefl _)]
theorem stroke_neg {a b : Byts} (h : a.all isDig = true) : cutF (45 :: (a ++ 47 :: b)) = (45 :: a, b, true) := by
  have hs : (45 :: a : Byts).all (fun c => !decide (c = 47)) = true := by
    rw [List.all_cons, dig_stroke h]; rfl
  have hr := run_app (b := b) hs (c := 47) (by decide)
  have e : (45 :: (a ++ 47 :: b) : Byts) = (45 :: a) ++ 47 :: b := rfl
  unfold cutF
  rw [e, hr, if_pos (by rw [List.length_append, List.length_cons]; simp), List.take_left' rfl, ← List.drop_drop, List.drop_left' rfl]
  rfl
theorem canD_canN {a : Byts} : canN a a.length = canD a := by unfold canN; rw [if_pos rfl]
theorem parE_stroke (a b : Byts) (h : a.all isDig = true) (h0 : 0 < a.length) (sg : Bool) : parE ((if sg = true then [45] else []) ++ (a ++ 47 :: b)) ≠ 0 := by
  have hx : ∀ l : Byts, sgnD l = a ++ 47 :: b → parE l ≠ 0 := fun l e => by
    unfold parE
    rw [e]
    split
    · decide
    · rw [if_pos (.inr (by rw [List.any_append, List.any_cons]; simp [show isDig 47 = false from by decide]))]; decide
  cases sg
  · refine hx _ ?_
    have : (a ++ 47 :: b).getD 0 0 ≠ 45 := by
      have := (dig_not (all_get h h0)).1
      cases a with
      | nil => cases h0
      | cons c a => exact this
    show sgnD (a ++ 47 :: b) = _
    unfold sgnD sgnB
    rw [decide_eq_false this]; rfl
  · exact hx _ rfl
theorem pro_val {t : Byts} (ht : numT t) {sg : Bool} (h2 : sg = true → t ≠ [48]) : proI ((if sg = true then [45] else []) ++ t) = valI ((if sg = true then [45] else []) ++ t) := by
  obtain ⟨hl, a, b, ha, h0, ⟨rfl, hc⟩ | ⟨rfl, hb, h1, hc⟩⟩ := ht
  · cases sg
    · show proI t = valI t
      obtain ⟨e1, e2⟩ := sgn_dig ha
      have e3 := cut_none ha
      unfold proI valI ratY
      rw [e3]
      rw [if_pos ((reaE_int ha h0 hl).2 (by rw [canD_canN]; exact hc)), if_pos (.inl (if_neg (show ¬ (false = true) by decide))), if_pos ((parE_dig ha h0 (by omega)).2 hc)]
    · show proI (45 :: t) = valI (45 :: t)
      obtain ⟨e0, e1, e2⟩ := parE_neg ha hc (h2 rfl) (by omega)
      unfold proI valI ratY
      rw [no_stroke ha, if_pos e0, e1, e2]
      dsimp only
      by_cases hlen : t.length = 400
      · rw [if_neg (by unfold reaE; rw [if_pos (by rw [List.length_cons]; omega)]; decide)]
        have := dgV_low h0 (canD_first hc (h2 rfl)) ha
        rw [hlen] at this
        have hbig : 9223372036854775808 < 10 ^ (400 - 1) := by decide +kernel
        unfold someI intI
        rw [if_pos rfl, if_neg (Nat.not_le.2 (Nat.lt_of_lt_of_le hbig this))]
        rfl
      · have : reaE 400 (45 :: t) = 0 := by
          unfold reaE
          rw [no_stroke ha, if_neg (by rw [List.length_cons]; omega)]
          dsimp only
          rw [e2, e0]
          have : digF t = true := by unfold digF; rw [ha, Bool.and_true, decide_eq_true_eq]; exact List.length_pos_iff.1 h0
          rw [this]
          rfl
        rw [if_pos this, if_pos (.inl (if_neg (show ¬ (false = true) by decide)))]
  · have hv : valI ((if sg = true then [45] else []) ++ (a ++ 47 :: b)) = none := by
      unfold valI; rw [if_neg (parE_stroke a b ha h0 sg)]
    rw [hv]
    have hb1 : 1 < dgV b := by
      unfold canN at hc
      rw [if_neg (by rw [List.length_append, List.length_cons]; omega), Bool.and_eq_true, Bool.and_eq_true, Bool.and_eq_true, decide_eq_true_eq] at hc
      have : (a ++ 47 :: b).drop (a.length + 1) = b := by rw [← List.drop_drop, List.drop_left' rfl]; rfl
      rw [this] at hc
      exact hc.2.2.1
    have hy : ratY ((if sg = true then [45] else []) ++ (a ++ 47 :: b)) = dgV b := by
      unfold ratY
      cases sg
      · show (if (cutF (a ++ 47 :: b)).2.2 = true then dgV (cutF (a ++ 47 :: b)).2.1 else 0) = _
        rw [cut_some ha]; rfl
      · show (if (cutF (45 :: (a ++ 47 :: b))).2.2 = true then dgV (cutF (45 :: (a ++ 47 :: b))).2.1 else 0) = _
        rw [stroke_neg ha]; rfl
    unfold proI
    rw [hy]
    by_cases hr : reaE 400 ((if sg = true then [45] else []) ++ (a ++ 47 :: b)) = 0
    · rw [if_pos hr, if_neg (by omega)]
    · rw [if_neg hr]
/-! ### the reader -/
def mNextR (r : RS) : RS := if r.e = 0 ∧ 1 < r.ts.length then { r with ts := r.ts.tail } else r
def mFailR (r : RS) (e : Int) : RS := if r.e = 0 then { r with ln := (peekR r).2.2.1, co := (peekR r).2.2.2, e := e } else r
def mKindR (r : RS) (z : Int) : RS × Byts := if (peekR r).1 ≠ z then (mFailR r 14, []) else (mNextR r, (peekR r).2.1)
def mSig (r : RS) : Bool := decide ((peekR r).1 = 4) && decide ((peekR r).2.1 = [45])
def mSgR (r : RS) : RS := if mSig r = true then mNextR r else r
def mNumR (r : RS) : RS × Byts :=
  if mSig r = true ∧ (peekR (mSgR r)).1 = 2 ∧ (peekR (mSgR r)).2.1 = [48] then (mFailR (mSgR r) 3, [])
  else ((mKindR (mSgR r) 2).1, if (mKindR (mSgR r) 2).2 = [] then [] else (if mSig r = true then [45] else []) ++ (mKindR (mSgR r) 2).2)
def tokG (t : Tok) : Prop := (t.1 = 1 → t.2.1 ≠ [45]) ∧ (t.1 = 2 → numT t.2.1)
structure GoodR (r : RS) : Prop where
  l : r.e = 0 → EndL r.ts
  t : ∀ t ∈ r.ts, tokG t
structure SimR (r m : RS) : Prop where
  e : r.e = m.e
  ts : r.ts = m.ts
  p : r.e ≠ 0 → r.ln = m.ln ∧ r.co = m.co
theorem SimR.peek {r m : RS} (h : SimR r m) : peekR r = peekR m := by
  unfold peekR
  rw [← h.e, ← h.ts]
  split
  · rename_i g; rw [(h.p g).1, (h.p g).2]
  · rfl
theorem GoodR.pk {r : RS} (g : GoodR r) (he : r.e = 0) : peekR r ∈ r.ts ∧ tokG (peekR r) := by
  have hp := (g.l he).pos
  have : peekR r = r.ts.headD tok0 := by unfold peekR; rw [if_neg (fun h => h he)]
  rw [this]
  cases hts : r.ts with
  | nil => rw [hts] at hp; cases hp
  | cons t l => exact ⟨by simp, g.t t (by rw [hts]; simp)⟩
theorem GoodR.pk2 {r : RS} (g : GoodR r) : tokG (peekR r) := by
  by_cases he : r.e = 0
  · exact (g.pk he).2
  · have : peekR r = (5, [], r.ln, r.co) := by unfold peekR; rw [if_pos he]
    rw [this]
    exact ⟨fun h => absurd h (show ¬ (5 : Int) = 1 by decide), fun h => absurd h (show ¬ (5 : Int) = 2 by decide)⟩
theorem GoodR.more {r : RS} (g : GoodR r) (he : r.e = 0) : (peekR r).1 ≠ 5 ↔ 1 < r.ts.length := by
  obtain ⟨pre, t, hts, h5, hpre⟩ := g.l he
  have : peekR r = r.ts.headD tok0 := by unfold peekR; rw [if_neg (fun h => h he)]
  rw [this, hts]
  cases pre with
  | nil => exact ⟨fun h => absurd h5 h, fun h => by simp at h⟩
  | cons x pre => exact ⟨fun _ => by simp, fun _ => hpre x (by simp)⟩
theorem SimR.next {r m : RS} (h : SimR r m) (g : GoodR r) : SimR (nextR r) (mNextR m) ∧ GoodR (nextR r) := by
  unfold nextR mNextR
  rw [← h.e, ← h.ts]
  by_cases he : r.e = 0
  · by_cases hm : 1 < r.ts.length
    · have h5 := (g.more he).2 hm
      rw [if_pos ⟨he, h5⟩, if_pos ⟨he, hm⟩]
      have hp : peekR r = r.ts.headD tok0 := by unfold peekR; rw [if_neg (fun h => h he)]
      rw [hp] at h5
      exact ⟨⟨rfl, rfl, fun g => absurd he g⟩, ⟨fun _ => (g.l he).tail h5, fun t ht => g.t t (List.mem_of_mem_tail ht)⟩⟩
    · have h5 := fun c => hm ((g.more he).1 c)
      rw [if_neg (fun c => h5 c.2), if_neg (fun c => hm c.2)]
      exact ⟨h, g⟩
  · rw [if_neg (fun c => he c.1), if_neg (fun c => he c.1)]
    exact ⟨h, g⟩
theorem SimR.fail {r m : RS} (h : SimR r m) (g : GoodR r) (e : Int) : SimR (failR r e) (mFailR m e) ∧ GoodR (failR r e) := by
  unfold failR mFailR
  rw [← h.e, ← h.peek]
  by_cases he : r.e = 0
  · rw [if_neg (fun c => c he), if_pos he]
    by_cases h0 : e = 0
    · rw [if_neg (fun c => c h0)]
      exact ⟨⟨he.trans h0.symm, h.ts, fun c => absurd he c⟩, g⟩
    · rw [if_pos h0]
      exact ⟨⟨rfl, h.ts, fun _ => ⟨rfl, rfl⟩⟩, ⟨fun c => absurd c h0, g.t⟩⟩
  · rw [if_pos he, if_neg he]
    exact ⟨h, g⟩
theorem SimR.kind {r m : RS} (h : SimR r m) (g : GoodR r) (z : Int) : SimR (kindR r z).1 (mKindR m z).1 ∧ GoodR (kindR r z).1 ∧ (kindR r z).2 = (mKindR m z).2 := by
  unfold kindR mKindR
  rw [← h.peek]
  split
  · exact ⟨(h.fail g 14).1, (h.fail g 14).2, rfl⟩
  · exact ⟨(h.next g).1, (h.next g).2, rfl⟩
theorem GoodR.sig {r : RS} (g : GoodR r) : isR r [45] = mSig r := by
  unfold isR mSig
  by_cases h : (peekR r).2.1 = [45]
  · have h1 : ¬ (peekR r).1 = 1 := fun c => g.pk2.1 c h
    rw [decide_eq_false h1, Bool.false_or]
  · rw [decide_eq_false h, Bool.and_false, Bool.and_false]
theorem SimR.sig {r m : RS} (h : SimR r m) : mSig r = mSig m := by unfold mSig; rw [h.peek]
theorem SimR.take {r m : RS} (h : SimR r m) (g : GoodR r) : SimR (takeR r [45]) (mSgR m) ∧ GoodR (takeR r [45]) := by
  unfold takeR mSgR
  rw [g.sig, ← h.sig]
  split
  · exact h.next g
  · exact ⟨h, g⟩
theorem fail_of {r : RS} (h : r.e ≠ 0) (e : Int) : failR r e = r := if_pos h
theorem fail_e (r : RS) {e : Int} (he : e ≠ 0) : (failR r e).e ≠ 0 := by
  by_cases h : r.e ≠ 0
  · rw [fail_of h]; exact h
  · unfold failR; rw [if_neg h, if_pos he]; exact he
theorem fail_fail (r : RS) {e : Int} (he : e ≠ 0) (z : Int) (hz : z ≠ 5) : kindR (failR r e) z = (failR r e, []) := by
  have h1 := fail_e r he
  unfold kindR
  have h2 : (peekR (failR r e)).1 = 5 := by unfold peekR; rw [if_pos h1]
  rw [if_pos (by rw [h2]; exact fun c => hz c.symm), fail_of h1]
theorem SimR.num {r m : RS} (h : SimR r m) (g : GoodR r) : SimR (numR r).1 (mNumR m).1 ∧ GoodR (numR r).1 ∧ (numR r).2 = (mNumR m).2 := by
  obtain ⟨h1, g1⟩ := h.take g
  unfold numR sgR mNumR
  rw [g.sig, h.sig, ← h1.peek]
  split
  · obtain ⟨h2, g2⟩ := h1.fail g1 3
    rw [fail_fail _ (by decide) 2 (by decide)]
    exact ⟨h2, g2, rfl⟩
  · obtain ⟨h2, g2, e2⟩ := h1.kind g1 2
    rw [e2]
    exact ⟨h2, g2, rfl⟩
/-- a number is read, or the reader fails -/
theorem num_fails {r : RS} (g : GoodR r) : ((numR r).1.e ≠ 0 ∧ (numR r).2 = []) ∨ ((numR r).1.e = 0 ∧ r.e = 0 ∧ ∃ t sg, numT t ∧ (sg = true → t ≠ [48]) ∧ (numR r).2 = (if sg = true then [45] else []) ++ t ∧ (numR r).2 ≠ []) := by
  have g1 : GoodR (takeR r [45]) := ((⟨rfl, rfl, fun _ => ⟨rfl, rfl⟩⟩ : SimR r r).take g).2
  have hte : (takeR r [45]).e = r.e := by
    unfold takeR; split
    · unfold nextR; split <;> rfl
    · rfl
  unfold numR sgR
  split
  · rename_i hs
    rw [fail_fail _ (by decide) 2 (by decide)]
    exact .inl ⟨fail_e _ (by decide), rfl⟩
  · rename_i hs
    unfold kindR
    split
    · exact .inl ⟨fail_e _ (by decide), rfl⟩
    · rename_i hk
      have hk : (peekR (takeR r [45])).1 = 2 := Classical.not_not.1 hk
      have he : (takeR r [45]).e = 0 := by
        refine Classical.byContradiction fun c => ?_
        have : (peekR (takeR r [45])).1 = 5 := by unfold peekR; rw [if_pos c]
        rw [hk] at this; cases this
      have hn := g1.pk2.2 hk
      have hne : (peekR (takeR r [45])).2.1 ≠ [] := by
        obtain ⟨_, a, b, _, h0, ⟨e, _⟩ | ⟨e, _⟩⟩ := hn
        · rw [e]; exact List.length_pos_iff.1 h0
        · rw [e]; simp
      refine .inr ⟨?_, by rw [← hte]; exact he, (peekR (takeR r [45])).2.1, isR r [45], hn, fun hsg c => hs ⟨hsg, hk, c⟩, by dsimp only; rw [if_neg hne], ?_⟩
      · show (nextR (takeR r [45])).e = 0
        unfold nextR; split <;> exact he
      · dsimp only; rw [if_neg hne]; exact fun c => hne (List.append_eq_nil_iff.1 c).2
/-! ### calls -/
def intR (r : RS) (lo hi : Int) : RS × Int :=
  if (numR r).1.e ≠ 0 then ((numR r).1, 0)
  else match proI (numR r).2 with
    | none => (failR r 2, 0)
    | some n => if n < lo ∨ hi < n then (failR r 2, 0) else ((numR r).1, n)
def mIntR (r : RS) (lo hi : Int) : RS × Int :=
  if (mNumR r).2 = [] then ((mNumR r).1, 0)
  else match valI (mNumR r).2 with
    | none => (mFailR r 2, 0)
    | some n => if n < lo ∨ hi < n then (mFailR r 2, 0) else ((mNumR r).1, n)
theorem SimR.int {r m : RS} (h : SimR r m) (g : GoodR r) (lo hi : Int) : SimR (intR r lo hi).1 (mIntR m lo hi).1 ∧ GoodR (intR r lo hi).1 ∧ (intR r lo hi).2 = (mIntR m lo hi).2 := by
  obtain ⟨h1, g1, e1⟩ := h.num g
  unfold intR mIntR
  rw [← e1]
  rcases num_fails g with ⟨n1, n2⟩ | ⟨n1, _, t, sg, ht, hs, n2, n3⟩
  · rw [if_pos n1, if_pos n2]
    exact ⟨h1, g1, rfl⟩
  · rw [if_neg (fun c => c n1), if_neg n3, n2, pro_val ht hs]
    split
    · exact ⟨(h.fail g 2).1, (h.fail g 2).2, rfl⟩
    · split
      · exact ⟨(h.fail g 2).1, (h.fail g 2).2, rfl⟩
      · exact ⟨h1, g1, rfl⟩
/-- a call: kind, text, bounds, error -/
abbrev Cal := Nat × Byts × Int × Int × Nat
abbrev Ouc := Tok × Byts × Int × Bool
def calR (r : RS) (c : Cal) : RS × Ouc :=
  match c.1 % 10 with
  | 0 => (nextR r, (peekR r, [], 0, false))
  | 1 => (r, (tok0, [], 0, isR r c.2.1))
  | 2 => (takeR r c.2.1, (tok0, [], 0, isR r c.2.1))
  | 3 => (if isR r c.2.1 = true then nextR r else failR r 14, (tok0, [], 0, false))
  | 4 => ((kindR r 1).1, (tok0, (kindR r 1).2, 0, false))
  | 5 => ((kindR r 3).1, (tok0, (kindR r 3).2, 0, false))
  | 6 => ((numR r).1, (tok0, (numR r).2, 0, false))
  | 7 => ((intR r c.2.2.1 c.2.2.2.1).1, (tok0, [], (intR r c.2.2.1 c.2.2.2.1).2, false))
  | 8 => (if (peekR r).1 ≠ 5 then failR r 14 else r, (tok0, [], 0, false))
  | _ => (failR r ((c.2.2.2.2 % 40 : Nat) : Int), (tok0, [], 0, false))
def mCalR (r : RS) (c : Cal) : RS × Ouc :=
  match c.1 % 10 with
  | 0 => (mNextR r, (peekR r, [], 0, false))
  | 1 => (r, (tok0, [], 0, isR r c.2.1))
  | 2 => (if isR r c.2.1 = true then mNextR r else r, (tok0, [], 0, isR r c.2.1))
  | 3 => (if isR r c.2.1 = true then mNextR r else mFailR r 14, (tok0, [], 0, false))
  | 4 => ((mKindR r 1).1, (tok0, (mKindR r 1).2, 0, false))
  | 5 => ((mKindR r 3).1, (tok0, (mKindR r 3).2, 0, false))
  | 6 => ((mNumR r).1, (tok0, (mNumR r).2, 0, false))
  | 7 => ((mIntR r c.2.2.1 c.2.2.2.1).1, (tok0, [], (mIntR r c.2.2.1 c.2.2.2.1).2, false))
  | 8 => (if (peekR r).1 ≠ 5 then mFailR r 14 else r, (tok0, [], 0, false))
  | _ => (mFailR r ((c.2.2.2.2 % 40 : Nat) : Int), (tok0, [], 0, false))
theorem SimR.is {r m : RS} (h : SimR r m) (s : Byts) : isR r s = isR m s := by unfold isR; rw [h.peek]
theorem SimR.call {r m : RS} (h : SimR r m) (g : GoodR r) (c : Cal) : SimR (calR r c).1 (mCalR m c).1 ∧ GoodR (calR r c).1 ∧ (calR r c).2 = (mCalR m c).2 := by
  unfold calR mCalR takeR
  rw [← h.is, ← h.peek]
  split
  · exact ⟨(h.next g).1, (h.next g).2, rfl⟩
  · exact ⟨h, g, rfl⟩
  · refine ⟨?_, ?_, rfl⟩
    · split
      · exact (h.next g).1
      · exact h
    · split
      · exact (h.next g).2
      · exact g
  · refine ⟨?_, ?_, rfl⟩
    · split
      · exact (h.next g).1
      · exact (h.fail g 14).1
    · split
      · exact (h.next g).2
      · exact (h.fail g 14).2
  · exact ⟨(h.kind g 1).1, (h.kind g 1).2.1, by rw [(h.kind g 1).2.2]⟩
  · exact ⟨(h.kind g 3).1, (h.kind g 3).2.1, by rw [(h.kind g 3).2.2]⟩
  · exact ⟨(h.num g).1, (h.num g).2.1, by rw [(h.num g).2.2]⟩
  · exact ⟨(h.int g _ _).1, (h.int g _ _).2.1, by rw [(h.int g _ _).2.2]⟩
  · refine ⟨?_, ?_, rfl⟩
    · split
      · exact (h.fail g 14).1
      · exact h
    · split
      · exact (h.fail g 14).2
      · exact g
  · exact ⟨(h.fail g _).1, (h.fail g _).2, rfl⟩
end Go.Proofs.YtoholjdojdmbkaaGreatDoor
namespace Go.Proofs.YtoholjdojdmbkaaGreatDoor
theorem sca_all {Q : Int → Byts → Prop} (h5 : Q 5 []) (ht : ∀ s : Byts, 0 < s.length → (tokF s).2.2.2 = 0 → Q (tokF s).2.1 (tokF s).2.2.1) : ∀ (f : Nat) (s : Byts) (p : Nat × Nat) (out : List Tok), (∀ t ∈ out, Q t.1 t.2.1) → ∀ t ∈ (scaK f s p out).1, Q t.1 t.2.1
  | 0, _, p, out, h => by
    intro t hm
    rcases List.mem_append.1 (show t ∈ out ++ [(5, [], p.1, p.2)] from hm) with hm | hm
    · exact h t hm
    · rw [List.mem_singleton.1 hm]; exact h5
  | f + 1, [], p, out, h => by
    intro t hm
    rcases List.mem_append.1 (show t ∈ out ++ [(5, [], p.1, p.2)] from hm) with hm | hm
    · exact h t hm
    · rw [List.mem_singleton.1 hm]; exact h5
  | f + 1, c :: r, p, out, h => by
    have e2 : scaK (f + 1) (c :: r) p out = if c = 32 ∨ c = 10 then scaK f r (pas1 p c) out
      else if c = 35 then scaK f ((c :: r).drop (runN (fun c => !decide (c = 10)) (c :: r))) (pasN p ((c :: r).take (runN (fun c => !decide (c = 10)) (c :: r)))) out
      else if (tokF (c :: r)).2.2.2 ≠ 0 then ([], (pasN p ((c :: r).take (tokF (c :: r)).1)).1, (pasN p ((c :: r).take (tokF (c :: r)).1)).2, (tokF (c :: r)).2.2.2)
        else scaK f ((c :: r).drop (tokF (c :: r)).1) (pasN p ((c :: r).take (tokF (c :: r)).1)) (out ++ [((tokF (c :: r)).2.1, (tokF (c :: r)).2.2.1, p.1, p.2)]) := rfl
    rw [e2]
    split
    · exact sca_all h5 ht f _ _ _ h
    · split
      · exact sca_all h5 ht f _ _ _ h
      · split
        · intro t hm; cases hm
        · rename_i h0
          refine sca_all h5 ht f _ _ _ fun t hm => ?_
          rcases List.mem_append.1 hm with hm | hm
          · exact h t hm
          · rw [List.mem_singleton.1 hm]; exact ht (c :: r) (by simp) (Classical.not_not.1 h0)
theorem run_all7 (f : UInt8 → Bool) : ∀ l : Byts, (l.take (runN f l)).all f = true
  | [] => rfl
  | c :: l => by
    by_cases h : f c = true
    · have e : runN f (c :: l) = runN f l + 1 := by unfold runN; rw [List.takeWhile_cons, if_pos h]; rfl
      rw [e, List.take_succ_cons, List.all_cons, h, run_all7 f l]; rfl
    · have e : runN f (c :: l) = 0 := by unfold runN; rw [List.takeWhile_cons, if_neg h]; rfl
      rw [e]; rfl
theorem num_good {s : Byts} (h0 : 0 < runN isDig s) (hl : (numN s).1 ≤ 400) (hc : canN (s.take (numN s).1) (numN s).2 = true) : numT (s.take (numN s).1) := by
  have hk := run_le7 isDig s
  have ha := run_all7 isDig s
  have hb := run_all7 isDig (s.drop (runN isDig s + 1))
  have hm := run_le7 isDig (s.drop (runN isDig s + 1))
  have hlt : (s.take (runN isDig s)).length = runN isDig s := by rw [List.length_take]; omega
  rw [List.length_drop] at hm
  refine ⟨by rw [List.length_take]; omega, s.take (runN isDig s), (s.drop (runN isDig s + 1)).take (runN isDig (s.drop (runN isDig s + 1))), ha, by rw [hlt]; exact h0, ?_⟩
  unfold numN at hc hl ⊢
  dsimp only at hc hl ⊢
  split at hc
  · rename_i h
    rw [if_pos h] at hl ⊢
    have e : s.take (runN isDig s + 1 + runN isDig (s.drop (runN isDig s + 1))) = s.take (runN isDig s) ++ 47 :: (s.drop (runN isDig s + 1)).take (runN isDig (s.drop (runN isDig s + 1))) := by
      rw [List.take_add, List.take_add_one, List.append_assoc]
      have : s[runN isDig s]? = some 47 := by
        have := h.1
        rw [List.getD_eq_getElem?_getD, List.getElem?_eq_getElem h.2.1] at this
        rw [List.getElem?_eq_getElem h.2.1]; exact congrArg some this
      rw [this]; rfl
    refine .inr ⟨e, hb, by rw [List.length_take, List.length_drop]; omega, ?_⟩
    rw [hlt]; exact hc
  · rename_i h
    rw [if_neg h]
    refine .inl ⟨rfl, ?_⟩
    dsimp only at hc
    have := canD_canN (a := s.take (runN isDig s))
    rw [hlt] at this
    rw [← this]; exact hc
theorem tok_good (s : Byts) (h0 : 0 < s.length) (he : (tokF s).2.2.2 = 0) : ((tokF s).2.1 = 1 → (tokF s).2.2.1 ≠ [45]) ∧ ((tokF s).2.1 = 2 → numT (tokF s).2.2.1) := by
  by_cases hq : s.getD 0 0 = 34
  · rw [tok_quote hq]
    exact ⟨fun h => absurd h (show ¬ (3 : Int) = 1 by decide), fun h => absurd h (show ¬ (3 : Int) = 2 by decide)⟩
  · rw [tok_model h0 hq] at he ⊢
    by_cases h1 : 0 < worM s
    · rw [if_pos h1] at he ⊢
      by_cases h2 : 40 < worM s
      · rw [if_pos h2] at he; exact absurd he (show ¬ (5 : Int) = 0 by decide)
      · rw [if_neg h2]
        refine ⟨fun _ => ?_, fun h => absurd h (show ¬ (1 : Int) = 2 by decide)⟩
        intro h
        have h : s.take (worM s) = [45] := h
        have hw : isLow (s.getD 0 0) = true := by
          unfold worM at h1
          refine Classical.byContradiction fun c => ?_
          rw [if_neg c] at h1; cases h1
        cases s with
        | nil => cases h0
        | cons c r =>
          obtain ⟨n, hn⟩ : ∃ n, worM (c :: r) = n + 1 := ⟨worM (c :: r) - 1, by omega⟩
          rw [hn, List.take_succ_cons] at h
          have : c = 45 := (List.cons.inj h).1
          rw [this] at hw
          cases hw
    · rw [if_neg h1] at he ⊢
      by_cases h2 : 0 < (nuM s).1
      · rw [if_pos h2] at he ⊢
        have hr : 0 < runN isDig s := by
          unfold nuM at h2
          rcases Nat.eq_zero_or_pos (runN isDig s) with g | g
          · rw [if_pos g] at h2; cases h2
          · exact g
        have hn : nuM s = numN s := by unfold nuM; rw [if_neg (by omega)]
        rw [hn] at he ⊢
        by_cases h3 : 400 < (numN s).1
        · rw [if_pos h3] at he; exact absurd he (show ¬ (5 : Int) = 0 by decide)
        · rw [if_neg h3] at he ⊢
          by_cases h4 : canN (s.take (numN s).1) (numN s).2 = true
          · rw [if_pos h4]
            exact ⟨fun h => absurd h (show ¬ (2 : Int) = 1 by decide), fun _ => num_good hr (by omega) h4⟩
          · rw [if_neg h4] at he; exact absurd he (show ¬ (3 : Int) = 0 by decide)
      · rw [if_neg h2] at he ⊢
        by_cases h3 : symN s = 0
        · rw [if_pos h3] at he; exact absurd he (show ¬ (14 : Int) = 0 by decide)
        · rw [if_neg h3]
          exact ⟨fun h => absurd h (show ¬ (4 : Int) = 1 by decide), fun h => absurd h (show ¬ (4 : Int) = 2 by decide)⟩
theorem sca_good (s : Byts) : ∀ t ∈ (scaF s).1, tokG t := by
  unfold scaF
  split
  · intro t h; cases h
  · exact sca_all (Q := fun k x => (k = 1 → x ≠ [45]) ∧ (k = 2 → numT x)) ⟨fun h => absurd h (by decide), fun h => absurd h (by decide)⟩ tok_good _ _ _ _ (fun t h => by cases h)
theorem GoodR.new {s : Byts} (h : (scaF s).2.2.2 = 0 → EndL (scaF s).1) : GoodR (newR s) := ⟨h, sca_good s⟩
theorem SimR.refl (r : RS) : SimR r r := ⟨rfl, rfl, fun _ => ⟨rfl, rfl⟩⟩
end Go.Proofs.YtoholjdojdmbkaaGreatDoor
namespace Go.Proofs.YtoholjdojdmbkaaGreatDoor
def esc1 (c : UInt8) : Byts := if c = 34 ∨ c = 92 then [92, c] else [c]
def escF (l : Byts) : Byts := l.flatMap esc1
def quoteF (s : Byts) : Byts := 34 :: (escF s ++ [34])
def rigB (s : Byts) : Prop := ∀ c ∈ s, ¬ badC c
theorem esc_cons (c : UInt8) (l : Byts) : escF (c :: l) = esc1 c ++ escF l := rfl
theorem esc_len (l : Byts) : (escF l).length ≤ 2 * l.length := by
  induction l with
  | nil => exact Nat.le_refl _
  | cons c l ih =>
    rw [esc_cons, List.length_append, List.length_cons]
    have : (esc1 c).length ≤ 2 := by unfold esc1; split <;> simp
    omega
theorem quo_esc : ∀ (l : Byts) (i : Nat) (out r : Byts), rigB l → quoF (escF l ++ 34 :: r) i out = if 4096 < out.length + l.length then (0, [], 5) else (i + (escF l).length + 1, out ++ l, 0)
  | [], i, out, r, _ => by
    show quoF (34 :: r) i out = _
    rw [quo_cons, if_neg (by decide), if_pos rfl, List.append_nil]; rfl
  | c :: l, i, out, r, h => by
    have hc := h c (by simp)
    have hl : rigB l := fun x hx => h x (List.mem_cons_of_mem _ hx)
    have h10 : c ≠ 10 := fun e => by subst e; exact hc (.inl (by decide))
    have ih := fun i out => quo_esc l i out r hl
    rw [esc_cons, List.append_assoc]
    by_cases h1 : c = 34 ∨ c = 92
    · have e : esc1 c = [92, c] := if_pos h1
      rw [e]
      show quoF (92 :: (c :: (escF l ++ 34 :: r))) i out = _
      rw [quo_cons, if_neg (by decide), if_neg (by decide), if_neg (by decide), if_pos rfl]
      have hg : (c :: (escF l ++ 34 :: r)).getD 0 0 = c := rfl
      rw [hg, if_pos h1]
      show quoF (escF l ++ 34 :: r) (i + 2) (out ++ [c]) = _
      have e1 : (out ++ [c]).length + l.length = out.length + (c :: l).length := by simp; omega
      have e2 : i + 2 + (escF l).length + 1 = i + ([92, c] ++ escF l).length + 1 := by simp; omega
      rw [ih, e1, e2, List.append_assoc]; rfl
    · have e : esc1 c = [c] := if_neg h1
      rw [e]
      show quoF (c :: (escF l ++ 34 :: r)) i out = _
      rw [quo_cons, if_neg h10, if_neg (fun g => h1 (.inl g)), if_neg hc, if_neg (fun g => h1 (.inr g))]
      have e1 : (out ++ [c]).length + l.length = out.length + (c :: l).length := by simp; omega
      have e2 : i + 1 + (escF l).length + 1 = i + ([c] ++ escF l).length + 1 := by simp; omega
      rw [ih, e1, e2, List.append_assoc]; rfl
theorem quo_inv : ∀ (l : Byts) (i : Nat) (out : Byts), (quoF l i out).2.2 = 0 → ∃ b r, l = escF b ++ 34 :: r ∧ quoF l i out = (i + (escF b).length + 1, out ++ b, 0) ∧ rigB b ∧ out.length + b.length ≤ 4096 := by
  intro l
  induction hn : l.length using Nat.strongRecOn generalizing l with
  | _ n ih =>
    intro i out h
    cases l with
    | nil => exact absurd h (show ¬ (4 : Int) = 0 by decide)
    | cons c r =>
      simp only [List.length_cons] at hn
      rw [quo_cons] at h
      by_cases h1 : c = 10
      · rw [if_pos h1] at h; exact absurd h (show ¬ (4 : Int) = 0 by decide)
      · rw [if_neg h1] at h
        by_cases h2 : c = 34
        · rw [if_pos h2] at h
          by_cases h3 : 4096 < out.length
          · rw [if_pos h3] at h; exact absurd h (show ¬ (5 : Int) = 0 by decide)
          · refine ⟨[], r, by rw [h2]; rfl, ?_, (fun x hx => by cases hx), by show out.length + 0 ≤ 4096; omega⟩
            rw [quo_cons, if_neg h1, if_pos h2, if_neg h3, List.append_nil]; rfl
        · rw [if_neg h2] at h
          by_cases h3 : badC c
          · rw [if_pos h3] at h; exact absurd h (show ¬ (14 : Int) = 0 by decide)
          · rw [if_neg h3] at h
            by_cases h4 : c = 92
            · rw [if_pos h4] at h
              by_cases h5 : r.getD 0 0 = 34 ∨ r.getD 0 0 = 92
              · rw [if_pos h5] at h
                cases r with
                | nil => exact absurd h5 (by decide)
                | cons d r =>
                  have h5 : d = 34 ∨ d = 92 := h5
                  simp only [List.length_cons] at hn
                  obtain ⟨b, r', e1, e2, e3, e4⟩ := ih r.length (by omega) r rfl (i + 2) (out ++ [d]) h
                  rw [List.length_append, List.length_singleton] at e4
                  refine ⟨d :: b, r', ?_, ?_, ?_, by rw [List.length_cons]; omega⟩
                  · rw [esc_cons, show esc1 d = [92, d] from if_pos h5, e1, h4]; rfl
                  · rw [quo_cons, if_neg h1, if_neg h2, if_neg h3, if_pos h4]
                    have hg : (d :: r).getD 0 0 = d := rfl
                    rw [hg, if_pos h5]
                    show quoF r (i + 2) (out ++ [d]) = _
                    rw [e2, esc_cons, show esc1 d = [92, d] from if_pos h5, List.append_assoc, List.length_append]
                    have : i + 2 + (escF b).length + 1 = i + (([92, d] : Byts).length + (escF b).length) + 1 := by show _ = i + (2 + _) + 1; omega
                    rw [this]; rfl
                  · intro x hx
                    rcases List.mem_cons.1 hx with rfl | hx
                    · rcases h5 with rfl | rfl <;> decide
                    · exact e3 x hx
              · rw [if_neg h5] at h; exact absurd h (show ¬ (14 : Int) = 0 by decide)
            · rw [if_neg h4] at h
              obtain ⟨b, r', e1, e2, e3, e4⟩ := ih r.length (by omega) r rfl (i + 1) (out ++ [c]) h
              rw [List.length_append, List.length_singleton] at e4
              have hc : esc1 c = [c] := if_neg (fun g => g.elim h2 h4)
              refine ⟨c :: b, r', ?_, ?_, ?_, by rw [List.length_cons]; omega⟩
              · rw [esc_cons, hc, e1]; rfl
              · rw [quo_cons, if_neg h1, if_neg h2, if_neg h3, if_neg h4, e2, esc_cons, hc, List.append_assoc, List.length_append]
                have : i + 1 + (escF b).length + 1 = i + (([c] : Byts).length + (escF b).length) + 1 := by show _ = i + (1 + _) + 1; omega
                rw [this]; rfl
              · intro x hx
                rcases List.mem_cons.1 hx with rfl | hx
                · exact h3
                · exact e3 x hx
theorem tok_quo {s : Byts} (h : rigB s) (hl : s.length ≤ 4096) (r : Byts) : tokF (quoteF s ++ r) = ((quoteF s).length, 3, s, 0) := by
  have e : quoteF s ++ r = 34 :: (escF s ++ 34 :: r) := by
    show 34 :: ((escF s ++ [34]) ++ r) = _
    rw [List.append_assoc]; rfl
  have hq : (quoteF s ++ r).getD 0 0 = 34 := by rw [e]; rfl
  rw [tok_quote hq, e]
  show ((quoF (escF s ++ 34 :: r) 1 []).1, (3 : Int), (quoF (escF s ++ 34 :: r) 1 []).2.1, (quoF (escF s ++ 34 :: r) 1 []).2.2) = _
  rw [quo_esc s 1 [] r h, if_neg (by rw [List.length_nil]; omega)]
  have : (quoteF s).length = 1 + (escF s).length + 1 := by
    show (escF s ++ [34]).length + 1 = _
    rw [List.length_append, List.length_singleton]; omega
  rw [this]; rfl
/-- what stands in a text for a token -/
def txF (k : Int) (x : Byts) : Byts := if k = 3 then quoteF x else x
/-- it is read as this token, where a blank or nothing stands behind it -/
structure Alone (k : Int) (x : Byts) : Prop where
  t : ∀ r : Byts, (r = [] ∨ r.getD 0 0 = 32) → tokF (txF k x ++ r) = ((txF k x).length, k, x, 0)
  b : 0 < (txF k x).length ∧ tokB ((txF k x).getD 0 0)
  l : x.length ≤ 4096
  q : k = 3 → rigB x
  k : k ≠ 5
theorem run_blank {f : UInt8 → Bool} (h : f 32 = false) (a r : Byts) (ha : a.all f = true) (hr : r = [] ∨ r.getD 0 0 = 32) : runN f (a ++ r) = a.length := by
  rcases hr with rfl | hr
  · rw [List.append_nil, run_all ha]
  · cases r with
    | nil => rw [List.append_nil, run_all ha]
    | cons c r =>
      have : c = 32 := hr
      subst this
      exact run_app ha h
theorem getD_app {a r : Byts} (h : 0 < a.length) : (a ++ r).getD 0 0 = a.getD 0 0 := by
  cases a with
  | nil => cases h
  | cons c a => rfl
theorem worM_of (s : Byts) : worM s = if isLow (s.getD 0 0) = true then runN isInn s else 0 := rfl
theorem numN_of (s : Byts) : numN s = if s.getD (runN isDig s) 0 = 47 ∧ runN isDig s < s.length ∧ 0 < runN isDig (s.drop (runN isDig s + 1)) then (runN isDig s + 1 + runN isDig (s.drop (runN isDig s + 1)), runN isDig s) else (runN isDig s, runN isDig s) := rfl
theorem symN_of (s : Byts) : symN s = if twoS.any (fun x => decide (s.take 2 = x)) then 2 else if s.length ≠ 0 ∧ s.getD 0 0 ∈ oneS then 1 else 0 := rfl
theorem tok_alone (s : Byts) (h0 : 0 < s.length) (hb : tokB (s.getD 0 0)) (he : (tokF s).2.2.2 = 0) : Alone (tokF s).2.1 (tokF s).2.2.1 ∧ s.take (tokF s).1 = txF (tokF s).2.1 (tokF s).2.2.1 ∧ (tokF s).1 = (txF (tokF s).2.1 (tokF s).2.2.1).length := by
  by_cases hq : s.getD 0 0 = 34
  · rw [tok_quote hq] at he ⊢
    dsimp only at he ⊢
    obtain ⟨b, r, e1, e2, e3, e4⟩ := quo_inv _ _ _ he
    rw [e2]
    dsimp only
    rw [List.nil_append]
    rw [List.length_nil, Nat.zero_add] at e4
    have hx : txF 3 b = quoteF b := if_pos rfl
    have hlen : (quoteF b).length = 1 + (escF b).length + 1 := by
      show (escF b ++ [34]).length + 1 = _
      rw [List.length_append, List.length_singleton]; omega
    have hs : s = quoteF b ++ r := by
      cases s with
      | nil => cases h0
      | cons c t =>
        have : c = 34 := hq
        have e1 : t = escF b ++ 34 :: r := e1
        rw [this, e1]
        show 34 :: _ = 34 :: ((escF b ++ [34]) ++ r)
        rw [List.append_assoc]; rfl
    refine ⟨⟨fun r' _ => by rw [hx]; exact tok_quo e3 e4 r', by rw [hx]; exact ⟨Nat.zero_lt_succ _, (show tokB 34 from ⟨by decide, by decide, by decide⟩)⟩, e4, fun _ => e3, by decide⟩, ?_, by rw [hx, hlen]⟩
    rw [hx, ← hlen, hs, List.take_left' rfl]
  · rw [tok_model h0 hq] at he ⊢
    by_cases h1 : 0 < worM s
    · rw [if_pos h1] at he ⊢
      by_cases h2 : 40 < worM s
      · rw [if_pos h2] at he; exact absurd he (show ¬ (5 : Int) = 0 by decide)
      · rw [if_neg h2]
        have hw : isLow (s.getD 0 0) = true := by
          unfold worM at h1
          refine Classical.byContradiction fun c => ?_
          rw [if_neg c] at h1; cases h1
        have hn : worM s = runN isInn s := by unfold worM; rw [if_pos hw]
        have hle := run_le7 isInn s
        have ha := run_all7 isInn s
        rw [← hn] at hle ha
        have hl : (s.take (worM s)).length = worM s := by rw [List.length_take]; omega
        have hg : (s.take (worM s)).getD 0 0 = s.getD 0 0 := by
          conv => rhs; rw [← List.take_append_drop (worM s) s]
          rw [getD_app (by omega)]
        have hx : txF 1 (s.take (worM s)) = s.take (worM s) := if_neg (by decide)
        dsimp only
        refine ⟨⟨fun r hr => ?_, ?_, by omega, fun h => absurd h (by decide), by decide⟩, by rw [hx], by rw [hx, hl]⟩
        · rw [hx]
          have hg2 : (s.take (worM s) ++ r).getD 0 0 = s.getD 0 0 := by rw [getD_app (by omega), hg]
          have hwm : worM (s.take (worM s) ++ r) = worM s := by
            have := run_blank (f := isInn) (by decide) (s.take (worM s)) r ha hr
            rw [hl] at this
            rw [worM_of, hg2, if_pos hw, this]
          rw [tok_model (by rw [List.length_append]; omega) (by rw [hg2]; exact hq), hwm, if_pos h1, if_neg h2, hl, List.take_left' hl]
        · rw [hx, hg, hl]; exact ⟨h1, hb⟩
    · rw [if_neg h1] at he ⊢
      have hw : ¬ isLow (s.getD 0 0) = true := fun c => h1 (by
        unfold worM; rw [if_pos c]; exact (run_pos7 isInn s).2 ⟨h0, low_inn c⟩)
      by_cases h2 : 0 < (nuM s).1
      · rw [if_pos h2] at he ⊢
        have hr0 : 0 < runN isDig s := by
          unfold nuM at h2
          rcases Nat.eq_zero_or_pos (runN isDig s) with g | g
          · rw [if_pos g] at h2; cases h2
          · exact g
        have hn : nuM s = numN s := by unfold nuM; rw [if_neg (by omega)]
        rw [hn] at he ⊢ h2
        by_cases h3 : 400 < (numN s).1
        · rw [if_pos h3] at he; exact absurd he (show ¬ (5 : Int) = 0 by decide)
        · rw [if_neg h3] at he ⊢
          by_cases h4 : canN (s.take (numN s).1) (numN s).2 = true
          · rw [if_pos h4]
            have hle := num_le7 s
            have hl : (s.take (numN s).1).length = (numN s).1 := by rw [List.length_take]; omega
            have hg : (s.take (numN s).1).getD 0 0 = s.getD 0 0 := by
              conv => rhs; rw [← List.take_append_drop (numN s).1 s]
              rw [getD_app (by omega)]
            have hx : txF 2 (s.take (numN s).1) = s.take (numN s).1 := if_neg (by decide)
            have hnn : ∀ r : Byts, (r = [] ∨ r.getD 0 0 = 32) → numN (s.take (numN s).1 ++ r) = numN s := fun r hr => by
              have hk := run_le7 isDig s
              have ha := run_all7 isDig s
              have hb := run_all7 isDig (s.drop (runN isDig s + 1))
              have hm := run_le7 isDig (s.drop (runN isDig s + 1))
              rw [List.length_drop] at hm
              have hlt : (s.take (runN isDig s)).length = runN isDig s := by rw [List.length_take]; omega
              by_cases hc : s.getD (runN isDig s) 0 = 47 ∧ runN isDig s < s.length ∧ 0 < runN isDig (s.drop (runN isDig s + 1))
              · have e0 : numN s = (runN isDig s + 1 + runN isDig (s.drop (runN isDig s + 1)), runN isDig s) := by unfold numN; dsimp only; rw [if_pos hc]
                have e : s.take (numN s).1 = s.take (runN isDig s) ++ 47 :: (s.drop (runN isDig s + 1)).take (runN isDig (s.drop (runN isDig s + 1))) := by
                  rw [e0]
                  dsimp only
                  rw [List.take_add, List.take_add_one, List.append_assoc]
                  have : s[runN isDig s]? = some 47 := by
                    have := hc.1
                    rw [List.getD_eq_getElem?_getD, List.getElem?_eq_getElem hc.2.1] at this
                    rw [List.getElem?_eq_getElem hc.2.1]; exact congrArg some this
                  rw [this]; rfl
                have hlb : ((s.drop (runN isDig s + 1)).take (runN isDig (s.drop (runN isDig s + 1)))).length = runN isDig (s.drop (runN isDig s + 1)) := by rw [List.length_take, List.length_drop]; omega
                rw [e, e0]
                generalize hA : s.take (runN isDig s) = A at *
                generalize hB : (s.drop (runN isDig s + 1)).take (runN isDig (s.drop (runN isDig s + 1))) = B at *
                have e1 : runN isDig ((A ++ 47 :: B) ++ r) = A.length := by rw [List.append_assoc]; exact run_app ha (by decide)
                have e2 : ((A ++ 47 :: B) ++ r).drop (A.length + 1) = B ++ r := by rw [List.append_assoc, ← List.drop_drop, List.drop_left' rfl]; rfl
                have e3 := run_blank (f := isDig) (by decide) B r hb hr
                have e4 : ((A ++ 47 :: B) ++ r).getD A.length 0 = 47 := by rw [List.append_assoc, List.getD_eq_getElem?_getD, List.getElem?_append_right (Nat.le_refl _), Nat.sub_self]; rfl
                rw [numN_of, e1, e2, e3, if_pos ⟨e4, by rw [List.length_append, List.length_append, List.length_cons]; omega, by rw [hlb]; exact hc.2.2⟩, hlt, hlb]
              · have e0 : numN s = (runN isDig s, runN isDig s) := by unfold numN; dsimp only; rw [if_neg hc]
                rw [e0]
                dsimp only
                have e1 := run_blank (f := isDig) (by decide) (s.take (runN isDig s)) r ha hr
                rw [hlt] at e1
                have e4 : (s.take (runN isDig s) ++ r).getD (runN isDig s) 0 = r.getD 0 0 := by
                  rw [List.getD_eq_getElem?_getD, List.getElem?_append_right (by omega), hlt, Nat.sub_self, ← List.getD_eq_getElem?_getD]
                have e5 : r.getD 0 0 ≠ 47 := by
                  rcases hr with rfl | hr
                  · decide
                  · rw [hr]; decide
                rw [numN_of, e1, e4, if_neg (fun g => e5 g.1)]
            dsimp only
            refine ⟨⟨fun r hr => ?_, ?_, by omega, fun h => absurd h (by decide), by decide⟩, by rw [hx], by rw [hx, hl]⟩
            · rw [hx]
              have hg2 : (s.take (numN s).1 ++ r).getD 0 0 = s.getD 0 0 := by rw [getD_app (by omega), hg]
              have hnr := hnn r hr
              have hd0 : isDig (s.getD 0 0) = true := ((run_pos7 isDig s).1 hr0).2
              have hwm : worM (s.take (numN s).1 ++ r) = 0 := by
                unfold worM; rw [hg2, if_neg hw]
              have hnm : nuM (s.take (numN s).1 ++ r) = numN s := by
                have : 0 < runN isDig (s.take (numN s).1 ++ r) := (run_pos7 isDig _).2 ⟨by rw [List.length_append]; omega, by rw [hg2]; exact hd0⟩
                unfold nuM; rw [if_neg (by omega), hnr]
              rw [tok_model (by rw [List.length_append]; omega) (by rw [hg2]; exact hq), hwm, if_neg (Nat.lt_irrefl 0), hnm, if_pos h2, if_neg h3, List.take_left' hl, if_pos h4, hl]
            · rw [hx, hg, hl]; exact ⟨h2, hb⟩
          · rw [if_neg h4] at he; exact absurd he (show ¬ (3 : Int) = 0 by decide)
      · rw [if_neg h2] at he ⊢
        by_cases h3 : symN s = 0
        · rw [if_pos h3] at he; exact absurd he (show ¬ (14 : Int) = 0 by decide)
        · rw [if_neg h3]
          have hd0 : ¬ isDig (s.getD 0 0) = true := fun c => h2 (by
            have hr := (run_pos7 isDig s).2 ⟨h0, c⟩
            unfold nuM; rw [if_neg (by omega)]
            unfold numN; dsimp only; split
            · show 0 < runN isDig s + 1 + _; omega
            · exact hr)
          have hle := sym_le7 h3
          have hl : (s.take (symN s)).length = symN s := by rw [List.length_take]; omega
          have hg : (s.take (symN s)).getD 0 0 = s.getD 0 0 := by
            conv => rhs; rw [← List.take_append_drop (symN s) s]
            rw [getD_app (by omega)]
          have hx : txF 4 (s.take (symN s)) = s.take (symN s) := if_neg (by decide)
          have hl2 : symN s ≤ 2 := by unfold symN; split <;> (try split) <;> omega
          dsimp only
          refine ⟨⟨fun r hr => ?_, ?_, by omega, fun h => absurd h (by decide), by decide⟩, by rw [hx], by rw [hx, hl]⟩
          · rw [hx]
            have hg2 : (s.take (symN s) ++ r).getD 0 0 = s.getD 0 0 := by rw [getD_app (by omega), hg]
            have hwm : worM (s.take (symN s) ++ r) = 0 := by unfold worM; rw [hg2, if_neg hw]
            have hnm : nuM (s.take (symN s) ++ r) = (0, 0) := by
              have : runN isDig (s.take (symN s) ++ r) = 0 := by
                rcases Nat.eq_zero_or_pos (runN isDig (s.take (symN s) ++ r)) with g | g
                · exact g
                · have := ((run_pos7 isDig _).1 g).2
                  rw [hg2] at this; exact absurd this hd0
              unfold nuM; rw [if_pos this]
            have hsy : symN (s.take (symN s) ++ r) = symN s := by
              by_cases htw : twoS.any (fun x => decide (s.take 2 = x)) = true
              · have e2 : symN s = 2 := by unfold symN; rw [if_pos htw]
                have e3 : (s.take (symN s) ++ r).take 2 = s.take 2 := by rw [e2] at hl ⊢; exact List.take_left' hl
                rw [symN_of, e3, if_pos htw, e2]
              · have e2 : s.length ≠ 0 ∧ s.getD 0 0 ∈ oneS := by
                  refine Classical.byContradiction fun c => h3 ?_
                  unfold symN; rw [if_neg htw, if_neg c]
                have e1 : symN s = 1 := by unfold symN; rw [if_neg htw, if_pos e2]
                have e3 : twoS.any (fun x => decide ((s.take (symN s) ++ r).take 2 = x)) = false := by
                  rw [e1] at hl ⊢
                  cases s with
                  | nil => cases h0
                  | cons c s =>
                    show twoS.any (fun x => decide ((c :: r).take 2 = x)) = false
                    rw [List.any_eq_false]
                    intro x hxx
                    rw [decide_eq_true_eq]
                    intro hxe
                    have hlx : x.getD 1 0 ≠ 32 ∧ x.length = 2 := by
                      simp only [twoS, List.mem_cons, List.not_mem_nil, or_false] at hxx
                      rcases hxx with rfl | rfl | rfl | rfl <;> exact ⟨by decide, rfl⟩
                    rcases hr with rfl | hr
                    · rw [← hxe] at hlx; exact absurd hlx.2 (by simp)
                    · cases r with
                      | nil => rw [← hxe] at hlx; exact absurd hlx.2 (by simp)
                      | cons d r =>
                        have hr : d = 32 := hr
                        rw [← hxe] at hlx
                        exact hlx.1 hr
                rw [symN_of, e3, if_neg (by decide), hg2, if_pos ⟨by rw [List.length_append]; omega, e2.2⟩, e1]
            rw [tok_model (by rw [List.length_append]; omega) (by rw [hg2]; exact hq), hwm, if_neg (Nat.lt_irrefl 0), hnm, if_neg (Nat.lt_irrefl 0), hsy, if_neg h3, List.take_left' hl, hl]
          · rw [hx, hg, hl]; exact ⟨by omega, hb⟩
end Go.Proofs.YtoholjdojdmbkaaGreatDoor
namespace Go.Proofs.YtoholjdojdmbkaaGreatDoor
theorem quote_sca {s : Byts} (h : rigB s) (hl : s.length ≤ 4096) : ∃ c : Nat, scaF (quoteF s) = ([(3, s, 1, 1), (5, [], 1, c)], 0, 0, 0) := by
  have hlen : (quoteF s).length = 1 + (escF s).length + 1 := by
    show (escF s ++ [34]).length + 1 = _
    rw [List.length_append, List.length_singleton]; omega
  have hel := esc_len s
  have ht := tok_quo h hl []
  rw [List.append_nil] at ht
  have hn : ∀ c ∈ quoteF s, c ≠ 10 := by
    intro c hc e
    subst e
    rcases List.mem_cons.1 hc with e | hc
    · exact absurd e (by decide)
    · rcases List.mem_append.1 hc with hc | hc
      · obtain ⟨d, hd, hc⟩ := List.mem_flatMap.1 hc
        have hb := h d hd
        unfold esc1 at hc
        split at hc
        · simp only [List.mem_cons, List.not_mem_nil, or_false] at hc
          rcases hc with e | e
          · exact absurd e (by decide)
          · exact hb (by rw [← e]; exact .inl (by decide))
        · simp only [List.mem_cons, List.not_mem_nil, or_false] at hc
          exact hb (by rw [← hc]; exact .inl (by decide))
      · exact absurd (List.mem_singleton.1 hc) (by decide)
  rw [scaF_scR (by omega), scR_tok (s := quoteF s) (k := 0) (by omega) (show tokB 34 from ⟨by decide, by decide, by decide⟩)]
  rw [List.drop_zero, ht, if_neg (fun g => g rfl), List.take_length, scR_end (by dsimp only; omega)]
  have hp : ∀ (l : Byts) (p : Nat × Nat), (∀ c ∈ l, c ≠ 10) → (pasN p l).1 = p.1 := by
    intro l
    induction l with
    | nil => intro p _; rfl
    | cons c l ih =>
      intro p hx
      show (pasN (pas1 p c) l).1 = _
      rw [ih _ fun x hx' => hx x (List.mem_cons_of_mem _ hx')]
      unfold pas1
      rw [if_neg (hx c (by simp))]
  dsimp only
  rw [hp _ _ hn]
  exact ⟨_, rfl⟩
/-! ### joined tokens -/
def joinB : List Byts → Byts
  | [] => []
  | [x] => x
  | x :: y :: r => x ++ 32 :: joinB (y :: r)
theorem joinB_cons (x : Byts) (L : List Byts) : joinB (x :: L) = x ++ (if L = [] then [] else 32 :: joinB L) := by
  cases L with
  | nil => show x = x ++ []; rw [List.append_nil]
  | cons y L => rw [if_neg (by simp)]; rfl
abbrev KT := Int × Byts
def ktF (t : Tok) : KT := (t.1, t.2.1)
def kxF (x : KT) : Byts := txF x.1 x.2
theorem join_scR : ∀ (L : List KT) (s : Byts) (k : Nat) (p : Nat × Nat) (out : List Tok), (∀ x ∈ L, Alone x.1 x.2) → s.drop k = joinB (L.map kxF) → k ≤ s.length →
    ∃ T q, scR s k p out = (out ++ T ++ [q], 0, 0, 0) ∧ T.map ktF = L ∧ q.1 = 5 ∧ q.2.1 = []
  | [], s, k, p, out, _, hs, hk => by
    have : s.length ≤ k := by
      have := congrArg List.length hs
      rw [List.length_drop] at this
      have e : (joinB (([] : List KT).map kxF)).length = 0 := rfl
      omega
    exact ⟨[], (5, [], p.1, p.2), by rw [scR_end this, List.append_nil], rfl, rfl, rfl⟩
  | x :: L, s, k, p, out, hA, hs, hk => by
    have ha := hA x (by simp)
    have hL : ∀ y ∈ L, Alone y.1 y.2 := fun y hy => hA y (List.mem_cons_of_mem _ hy)
    rw [List.map_cons, joinB_cons] at hs
    have hb := ha.b
    have hlen := congrArg List.length hs
    rw [List.length_drop, List.length_append] at hlen
    have hkx : 0 < (kxF x).length := hb.1
    have hks : k < s.length := by omega
    have hg : s.getD k 0 = (kxF x).getD 0 0 := by
      have := getD_drop7 s k 0
      rw [Nat.add_zero, hs, getD_app hkx] at this
      exact this.symm
    by_cases hn : L = []
    · subst hn
      rw [if_pos (by rfl), List.append_nil] at hs
      have ht := ha.t [] (.inl rfl)
      rw [List.append_nil] at ht
      have ht : tokF (kxF x) = ((kxF x).length, x.1, x.2, 0) := ht
      rw [List.map_nil] at hlen
      rw [if_pos rfl, List.length_nil] at hlen
      rw [scR_tok hks (by rw [hg]; exact hb.2), hs, ht, if_neg (fun g => g rfl), List.take_length, scR_end (by dsimp only; omega)]
      exact ⟨[(x.1, x.2, p.1, p.2)], _, rfl, rfl, rfl, rfl⟩
    · have hm : L.map kxF ≠ [] := fun c => hn (List.map_eq_nil_iff.1 c)
      rw [if_neg hm] at hs hlen
      rw [List.length_cons] at hlen
      have ht : tokF (kxF x ++ 32 :: joinB (L.map kxF)) = ((kxF x).length, x.1, x.2, 0) := ha.t _ (.inr rfl)
      rw [scR_tok hks (by rw [hg]; exact hb.2), hs, ht, if_neg (fun g => g rfl), List.take_left' rfl]
      dsimp only
      have hd : s.drop (k + (kxF x).length) = 32 :: joinB (L.map kxF) := by rw [← List.drop_drop, hs, List.drop_left' rfl]
      have hd0 : s.getD (k + (kxF x).length) 0 = 32 := by
        have := getD_drop7 s (k + (kxF x).length) 0
        rw [Nat.add_zero, hd] at this
        exact this.symm
      rw [scR_blank (by omega) (.inl hd0)]
      obtain ⟨T, q, e1, e2, e3, e4⟩ := join_scR L s (k + (kxF x).length + 1) _ _ hL (by rw [← List.drop_drop, hd]; rfl) (by omega)
      rw [e1]
      exact ⟨(x.1, x.2, p.1, p.2) :: T, q, by simp, by rw [List.map_cons, e2]; rfl, e3, e4⟩
def sumL (L : List KT) : Nat := (L.map fun x => (kxF x).length).sum
theorem joinB_len : ∀ (L : List KT), (∀ x ∈ L, 0 < (kxF x).length) → (joinB (L.map kxF)).length ≤ 2 * sumL L
  | [], _ => Nat.zero_le _
  | x :: L, h => by
    have ih := joinB_len L fun y hy => h y (List.mem_cons_of_mem _ hy)
    have hx := h x (by simp)
    rw [List.map_cons, joinB_cons, List.length_append]
    have : sumL (x :: L) = (kxF x).length + sumL L := by unfold sumL; simp
    rw [this]
    split
    · rw [List.length_nil]; omega
    · rw [List.length_cons]; omega
/-- the tokens of a text stand alone -/
theorem scR_alone (s : Byts) : ∀ (n k : Nat) (p : Nat × Nat) (out : List Tok), s.length - k ≤ n → (scR s k p out).2.2.2 = 0 →
    ∃ T q, scR s k p out = (out ++ T ++ [q], 0, 0, 0) ∧ (∀ t ∈ T, Alone t.1 t.2.1) ∧ sumL (T.map ktF) ≤ s.length - k ∧ q.1 = 5 ∧ q.2.1 = []
  | n, k, p, out, hn, h0 => by
    by_cases hk : s.length ≤ k
    · exact ⟨[], _, by rw [scR_end hk, List.append_nil], fun t h => absurd h List.not_mem_nil, Nat.zero_le _, rfl, rfl⟩
    · have hk : k < s.length := by omega
      cases n with
      | zero => omega
      | succ n =>
        by_cases h1 : s.getD k 0 = 32 ∨ s.getD k 0 = 10
        · rw [scR_blank hk h1] at h0 ⊢
          obtain ⟨T, q, e1, e2, e3, e4⟩ := scR_alone s n (k + 1) _ out (by omega) h0
          exact ⟨T, q, e1, e2, by omega, e4⟩
        · by_cases h2 : s.getD k 0 = 35
          · rw [scR_note hk h2] at h0 ⊢
            have hr0 := (run_pos7 (fun c => !decide (c = 10)) (s.drop k)).2 ⟨by rw [List.length_drop]; omega, by rw [getD_drop7, Nat.add_zero, h2]; rfl⟩
            obtain ⟨T, q, e1, e2, e3, e4⟩ := scR_alone s n _ _ out (by omega) h0
            exact ⟨T, q, e1, e2, by omega, e4⟩
          · have hb : tokB (s.getD k 0) := ⟨fun c => h1 (.inl c), fun c => h1 (.inr c), h2⟩
            rw [scR_tok hk hb] at h0 ⊢
            by_cases h3 : (tokF (s.drop k)).2.2.2 ≠ 0
            · rw [if_pos h3] at h0; exact absurd h0 h3
            · rw [if_neg h3] at h0 ⊢
              have h3 : (tokF (s.drop k)).2.2.2 = 0 := Classical.not_not.1 h3
              have hf := tok_fit hk hb h3
              obtain ⟨ha, ha2, ha3⟩ := tok_alone (s.drop k) (by rw [List.length_drop]; omega) (by rw [getD_drop7, Nat.add_zero]; exact hb) h3
              obtain ⟨T, q, e1, e2, e3, e4⟩ := scR_alone s n _ _ _ (by omega) h0
              rw [e1]
              refine ⟨((tokF (s.drop k)).2.1, (tokF (s.drop k)).2.2.1, p.1, p.2) :: T, q, by simp, fun t ht => ?_, ?_, e4⟩
              · rcases List.mem_cons.1 ht with rfl | ht
                · exact ha
                · exact e2 t ht
              · rw [List.map_cons]
                have : sumL (ktF ((tokF (s.drop k)).2.1, (tokF (s.drop k)).2.2.1, p.1, p.2) :: T.map ktF) = (tokF (s.drop k)).1 + sumL (T.map ktF) := by
                  rw [ha3]; unfold sumL; simp [kxF, ktF]
                omega
/-- what Join returns -/
def badT (t : Tok) : Bool := decide (t.1 = 3) && t.2.1.any fun c => decide (badC c)
def keptF (l : List Tok) : List Tok := l.filter fun t => !decide (t.1 = 5)
def jonF (l : List Tok) : Byts × Int :=
  if (keptF l).any badT = true then ([], 3)
  else if (scaF (joinB ((keptF l).map fun t => txF t.1 t.2.1))).2.2.2 = 0 ∧ ((scaF (joinB ((keptF l).map fun t => txF t.1 t.2.1))).1.dropLast.map ktF = (keptF l).map ktF) then (joinB ((keptF l).map fun t => txF t.1 t.2.1), 0)
  else ([], 3)
theorem join_law {s : Byts} (hs : s.length ≤ 1000) (h : (scaF s).2.2.2 = 0) : (jonF (scaF s).1).2 = 0 ∧ (scaF (jonF (scaF s).1).1).2.2.2 = 0 ∧ (scaF (jonF (scaF s).1).1).1.map ktF = (scaF s).1.map ktF := by
  rw [scaF_scR (by omega)] at h ⊢
  obtain ⟨T, q, e1, e2, e3, e4, e5⟩ := scR_alone s s.length 0 (1, 1) [] (by omega) h
  rw [e1]
  dsimp only
  rw [List.nil_append]
  have hk : keptF (T ++ [q]) = T := by
    unfold keptF
    rw [List.filter_append, List.filter_eq_self.2 fun t ht => by simpa using (e2 t ht).k]
    simp [e4]
  have hb : T.any badT = false := by
    rw [List.any_eq_false]
    intro t ht hbad
    unfold badT at hbad
    rw [Bool.and_eq_true, decide_eq_true_eq, List.any_eq_true] at hbad
    obtain ⟨h3, c, hc, hcb⟩ := hbad
    exact (e2 t ht).q h3 c hc (of_decide_eq_true hcb)
  have hm : (T.map fun t => txF t.1 t.2.1) = (T.map ktF).map kxF := by rw [List.map_map]; rfl
  have hA : ∀ x ∈ T.map ktF, Alone x.1 x.2 := fun x hx => by
    obtain ⟨t, ht, rfl⟩ := List.mem_map.1 hx
    exact e2 t ht
  have hl := joinB_len (T.map ktF) fun x hx => (hA x hx).b.1
  obtain ⟨T', q', f1, f2, f3, f4⟩ := join_scR (T.map ktF) (joinB ((T.map ktF).map kxF)) 0 (1, 1) [] hA rfl (Nat.zero_le _)
  have hsc : scaF (joinB ((T.map ktF).map kxF)) = (T' ++ [q'], 0, 0, 0) := by
    rw [scaF_scR (by omega), f1, List.nil_append]
  have hj : jonF (T ++ [q]) = (joinB ((T.map ktF).map kxF), 0) := by
    unfold jonF
    rw [hk, hb, if_neg (by decide), hm, hsc, if_pos ⟨rfl, by dsimp only; rw [List.dropLast_concat, f2]⟩]
  rw [hj]
  dsimp only
  rw [hsc]
  refine ⟨rfl, rfl, ?_⟩
  rw [List.map_append, List.map_append, f2]
  have : ktF q' = ktF q := by unfold ktF; rw [f3, f4, e4, e5]
  rw [List.map_singleton, List.map_singleton, this]
/-! ### places -/
def plA (s : Byts) (i : Nat) : Nat × Nat := pasN (1, 1) (s.take i)
theorem plA_next {s : Byts} {i : Nat} (h : i < s.length) : plA s (i + 1) = pas1 (plA s i) (s.getD i 0) := by
  unfold plA
  rw [List.take_add_one, List.getElem?_eq_getElem h]
  unfold pasN
  rw [Option.toList_some, List.foldl_append, List.getD_eq_getElem?_getD, List.getElem?_eq_getElem h]
  rfl
theorem plA_add (s : Byts) (i n : Nat) : plA s (i + n) = pasN (plA s i) ((s.drop i).take n) := by
  unfold plA pasN
  rw [List.take_add, List.foldl_append]
theorem plA_lt {s : Byts} {i : Nat} : ∀ {j : Nat}, i < j → j ≤ s.length → (plA s i).1 < (plA s j).1 ∨ ((plA s i).1 = (plA s j).1 ∧ (plA s i).2 < (plA s j).2)
  | 0, h, _ => by omega
  | j + 1, h, hj => by
    have hn := plA_next (s := s) (i := j) (by omega)
    have h1 : (plA s j).1 < (plA s (j + 1)).1 ∨ ((plA s j).1 = (plA s (j + 1)).1 ∧ (plA s j).2 < (plA s (j + 1)).2) := by
      rw [hn]; unfold pas1
      split
      · exact .inl (Nat.lt_succ_self _)
      · exact .inr ⟨rfl, Nat.lt_succ_self _⟩
    rcases Nat.lt_or_ge i j with g | g
    · have ih := plA_lt (s := s) (i := i) g (by omega)
      omega
    · have : i = j := by omega
      subst this; exact h1
theorem plA_inj {s : Byts} {i j : Nat} (hi : i ≤ s.length) (hj : j ≤ s.length) (h : plA s i = plA s j) : i = j := by
  rcases Nat.lt_trichotomy i j with g | g | g
  · have := plA_lt g hj; rw [h] at this; omega
  · exact g
  · have := plA_lt g hi; rw [h] at this; omega
/-- tokens at their places, from byte i on -/
def PosL (s : Byts) : Nat → List Tok → Prop
  | i, [] => s.length < i
  | i, t :: r => ∃ j, i ≤ j ∧ j ≤ s.length ∧ (t.2.2.1, t.2.2.2) = plA s j ∧ j + (txF t.1 t.2.1).length ≤ s.length ∧ (s.drop j).take (txF t.1 t.2.1).length = txF t.1 t.2.1 ∧ (t.1 = 5 ↔ j = s.length) ∧ (t.1 = 3 → rigB t.2.1 ∧ t.2.1.length ≤ 4096) ∧ PosL s (j + 1) r
theorem PosL.from {s : Byts} {i i' : Nat} (h : i' ≤ i) : ∀ {l : List Tok}, l ≠ [] → PosL s i l → PosL s i' l
  | [], g, _ => absurd rfl g
  | _ :: _, _, ⟨j, h1, h2⟩ => ⟨j, Nat.le_trans h h1, h2⟩
theorem scR_pos (s : Byts) : ∀ (n k : Nat) (out : List Tok), s.length - k ≤ n → k ≤ s.length → (scR s k (plA s k) out).2.2.2 = 0 →
    ∃ T, T ≠ [] ∧ scR s k (plA s k) out = (out ++ T, 0, 0, 0) ∧ PosL s k T
  | n, k, out, hn, hkl, h0 => by
    by_cases hk : s.length ≤ k
    · have : k = s.length := by omega
      subst this
      refine ⟨[(5, [], (plA s s.length).1, (plA s s.length).2)], by simp, by rw [scR_end (Nat.le_refl _)], s.length, Nat.le_refl _, Nat.le_refl _, rfl, Nat.le_refl _, rfl, ⟨fun _ => rfl, fun _ => rfl⟩, fun h => absurd h (show ¬ (5 : Int) = 3 by decide), Nat.lt_succ_self _⟩
    · have hk : k < s.length := by omega
      cases n with
      | zero => omega
      | succ n =>
        by_cases h1 : s.getD k 0 = 32 ∨ s.getD k 0 = 10
        · rw [scR_blank hk h1, ← plA_next hk] at h0 ⊢
          obtain ⟨T, e0, e1, e2⟩ := scR_pos s n (k + 1) out (by omega) (by omega) h0
          exact ⟨T, e0, e1, e2.from (by omega) e0⟩
        · by_cases h2 : s.getD k 0 = 35
          · have hr0 := (run_pos7 (fun c => !decide (c = 10)) (s.drop k)).2 ⟨by rw [List.length_drop]; omega, by rw [getD_drop7, Nat.add_zero, h2]; rfl⟩
            have hrl := run_le7 (fun c => !decide (c = 10)) (s.drop k)
            rw [List.length_drop] at hrl
            rw [scR_note hk h2, ← plA_add] at h0 ⊢
            obtain ⟨T, e0, e1, e2⟩ := scR_pos s n _ out (by omega) (by omega) h0
            exact ⟨T, e0, e1, e2.from (by omega) e0⟩
          · have hb : tokB (s.getD k 0) := ⟨fun c => h1 (.inl c), fun c => h1 (.inr c), h2⟩
            rw [scR_tok hk hb] at h0 ⊢
            by_cases h3 : (tokF (s.drop k)).2.2.2 ≠ 0
            · rw [if_pos h3] at h0; exact absurd h0 h3
            · rw [if_neg h3, ← plA_add] at h0 ⊢
              have h3 : (tokF (s.drop k)).2.2.2 = 0 := Classical.not_not.1 h3
              have hf := tok_fit hk hb h3
              obtain ⟨ha, ha2, ha3⟩ := tok_alone (s.drop k) (by rw [List.length_drop]; omega) (by rw [getD_drop7, Nat.add_zero]; exact hb) h3
              obtain ⟨T, e0, e1, e2⟩ := scR_pos s n _ _ (by omega) hf.2 h0
              rw [e1]
              refine ⟨((tokF (s.drop k)).2.1, (tokF (s.drop k)).2.2.1, (plA s k).1, (plA s k).2) :: T, by simp, by simp, k, Nat.le_refl _, hkl, rfl, by dsimp only; rw [← ha3]; exact hf.2, by dsimp only; rw [← ha3]; exact ha2, ⟨fun c => absurd c ha.k, fun c => by omega⟩, fun c => ⟨ha.q c, ha.l⟩, e2.from (by omega) e0⟩
theorem sca_pos {s : Byts} (hs : s.length ≤ 1000) (h : (scaF s).2.2.2 = 0) : PosL s 0 (scaF s).1 := by
  rw [scaF_scR (by omega)] at h ⊢
  obtain ⟨T, _, e1, e2⟩ := scR_pos s s.length 0 [] (by omega) (Nat.zero_le _) h
  have e1 : scR s 0 (1, 1) [] = ([] ++ T, 0, 0, 0) := e1
  rw [e1]; exact e2
end Go.Proofs.YtoholjdojdmbkaaGreatDoor
