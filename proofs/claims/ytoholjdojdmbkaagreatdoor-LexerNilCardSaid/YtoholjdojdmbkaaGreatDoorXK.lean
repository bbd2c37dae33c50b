/- Parts of one proof, joined: K1, K2, K8, K9, Ka, Kb, Kc. No condition of its own. -/
import Derived.Test.YtoholjdojdmbkaaGreatDoorXE
import Derived.Test.YtoholjdojdmbkaaGreatDoorXJ
namespace Go.Proofs.YtoholjdojdmbkaaGreatDoor
/-- the tokens from byte k on, whose place is p -/
def scR (s : Byts) (k : Nat) (p : Nat × Nat) (out : List Tok) : List Tok × Nat × Nat × Int := scaK (s.length - k + 1) (s.drop k) p out
theorem scR_any {s : Byts} {k f : Nat} (hf : s.length - k < f) (p : Nat × Nat) (out : List Tok) : scaK f (s.drop k) p out = scR s k p out :=
  sca_fuel (s.drop k).length f _ (s.drop k) p out (Nat.le_refl _) (by rw [List.length_drop]; exact hf) (by rw [List.length_drop]; omega)
theorem drop_cons7 {s : Byts} {k : Nat} (hk : k < s.length) : s.drop k = s.getD k 0 :: s.drop (k + 1) := by
  rw [List.drop_eq_getElem_cons hk, List.getD_eq_getElem?_getD, List.getElem?_eq_getElem hk]; rfl
theorem getD_drop7 (s : Byts) (k i : Nat) : (s.drop k).getD i 0 = s.getD (k + i) 0 := by
  rw [List.getD_eq_getElem?_getD, List.getElem?_drop, ← List.getD_eq_getElem?_getD]
theorem scR_stp {s : Byts} {k : Nat} (hk : k < s.length) (p : Nat × Nat) (out : List Tok) : scR s k p out =
    if (stp (s.drop k)).2.2 ≠ 0 then ([], (pasN p ((s.drop k).take (stp (s.drop k)).1)).1, (pasN p ((s.drop k).take (stp (s.drop k)).1)).2, (stp (s.drop k)).2.2)
    else scR s (k + (stp (s.drop k)).1) (pasN p ((s.drop k).take (stp (s.drop k)).1)) (out ++ atP p (stp (s.drop k)).2.1) := by
  have h0 : 0 < (s.drop k).length := by rw [List.length_drop]; omega
  have hst := stp_fit h0
  have e : scR s k p out = scaK (s.length - k + 1) (s.getD k 0 :: s.drop (k + 1)) p out := by unfold scR; rw [drop_cons7 hk]
  rw [e, sca_stp, ← drop_cons7 hk]
  split
  · rfl
  · rename_i h
    have := hst (Classical.byContradiction h)
    rw [List.length_drop] at this
    rw [List.drop_drop]
    exact scR_any (by omega) _ _
theorem scR_end {s : Byts} {k : Nat} (hk : s.length ≤ k) (p : Nat × Nat) (out : List Tok) : scR s k p out = (out ++ [(5, [], p.1, p.2)], 0, 0, 0) := by
  unfold scR; rw [List.drop_of_length_le hk]; cases s.length - k + 1 <;> rfl
theorem scR_blank {s : Byts} {k : Nat} (hk : k < s.length) (h : s.getD k 0 = 32 ∨ s.getD k 0 = 10) (p : Nat × Nat) (out : List Tok) : scR s k p out = scR s (k + 1) (pas1 p (s.getD k 0)) out := by
  have e : stp (s.drop k) = (1, [], 0) := by unfold stp; rw [getD_drop7, Nat.add_zero, if_pos h]
  rw [scR_stp hk, e, if_neg (by decide), drop_cons7 hk]
  show scR s (k + 1) (pas1 p (s.getD k 0)) (out ++ []) = _
  rw [List.append_nil]
theorem scR_note {s : Byts} {k : Nat} (hk : k < s.length) (h : s.getD k 0 = 35) (p : Nat × Nat) (out : List Tok) : scR s k p out = scR s (k + runN (fun c => !decide (c = 10)) (s.drop k)) (pasN p ((s.drop k).take (runN (fun c => !decide (c = 10)) (s.drop k)))) out := by
  have e : stp (s.drop k) = (runN (fun c => !decide (c = 10)) (s.drop k), [], 0) := by unfold stp; rw [getD_drop7, Nat.add_zero, if_neg (by rw [h]; decide), if_pos h]
  rw [scR_stp hk, e, if_neg (fun g => g rfl)]
  show scR s _ _ (out ++ []) = _
  rw [List.append_nil]
/-- a byte at which a token begins -/
def tokB (c : UInt8) : Prop := c ≠ 32 ∧ c ≠ 10 ∧ c ≠ 35
theorem scR_tok {s : Byts} {k : Nat} (hk : k < s.length) (h : tokB (s.getD k 0)) (p : Nat × Nat) (out : List Tok) : scR s k p out =
    if (tokF (s.drop k)).2.2.2 ≠ 0 then ([], (pasN p ((s.drop k).take (tokF (s.drop k)).1)).1, (pasN p ((s.drop k).take (tokF (s.drop k)).1)).2, (tokF (s.drop k)).2.2.2)
    else scR s (k + (tokF (s.drop k)).1) (pasN p ((s.drop k).take (tokF (s.drop k)).1)) (out ++ [((tokF (s.drop k)).2.1, (tokF (s.drop k)).2.2.1, p.1, p.2)]) := by
  have e : stp (s.drop k) = ((tokF (s.drop k)).1, [((tokF (s.drop k)).2.1, (tokF (s.drop k)).2.2.1)], (tokF (s.drop k)).2.2.2) := by
    unfold stp; rw [getD_drop7, Nat.add_zero, if_neg (fun g => g.elim h.1 h.2.1), if_neg h.2.2]
  rw [scR_stp hk, e]
  rfl
theorem tok_fit {s : Byts} {k : Nat} (hk : k < s.length) (h : tokB (s.getD k 0)) (h0 : (tokF (s.drop k)).2.2.2 = 0) : 0 < (tokF (s.drop k)).1 ∧ k + (tokF (s.drop k)).1 ≤ s.length := by
  have e : stp (s.drop k) = ((tokF (s.drop k)).1, [((tokF (s.drop k)).2.1, (tokF (s.drop k)).2.2.1)], (tokF (s.drop k)).2.2.2) := by
    unfold stp; rw [getD_drop7, Nat.add_zero, if_neg (fun g => g.elim h.1 h.2.1), if_neg h.2.2]
  have := stp_fit (s := s.drop k) (by rw [List.length_drop]; omega) (by rw [e]; exact h0)
  rw [e, List.length_drop] at this
  exact ⟨this.2, by have := this.1; omega⟩
theorem scaF_scR {s : Byts} (h : s.length ≤ 65536) : scaF s = scR s 0 (1, 1) [] := by
  unfold scaF scR; rw [if_neg (by omega)]; rfl
/-- the model's word -/
def worM (s : Byts) : Nat := if isLow (s.getD 0 0) = true then runN isInn s else 0
/-- the model's number -/
def nuM (s : Byts) : Nat × Nat := if runN isDig s = 0 then (0, 0) else numN s
theorem isLow_zero : isLow 0 = false := by decide
theorem isDig_zero : isDig 0 = false := by decide
theorem low_inn {c : UInt8} (h : isLow c = true) : isInn c = true := by unfold isInn; rw [h]; rfl
theorem run_pos7 (f : UInt8 → Bool) (l : Byts) : 0 < runN f l ↔ 0 < l.length ∧ f (l.getD 0 0) = true := by
  cases l with
  | nil => unfold runN; simp
  | cons c l =>
    unfold runN
    rw [List.takeWhile_cons]
    by_cases h : f c = true
    · rw [if_pos h]; simp [h]
    · rw [if_neg h]; simp [h]
/-- a token that is no string, as the model finds it -/
theorem tok_model {s : Byts} (h0 : 0 < s.length) (hq : s.getD 0 0 ≠ 34) : tokF s =
    if 0 < worM s then (if 40 < worM s then (0, 1, [], 5) else (worM s, 1, s.take (worM s), 0))
    else if 0 < (nuM s).1 then (if 400 < (nuM s).1 then (0, 2, [], 5) else if canN (s.take (nuM s).1) (nuM s).2 then ((nuM s).1, 2, s.take (nuM s).1, 0) else (0, 2, [], 3))
    else if symN s = 0 then (0, 4, [], 14) else (symN s, 4, s.take (symN s), 0) := by
  have e : tokF s = if s.getD 0 0 = 34 then ((quoF (s.drop 1) 1 []).1, 3, (quoF (s.drop 1) 1 []).2.1, (quoF (s.drop 1) 1 []).2.2)
    else if isLow (s.getD 0 0) then (if 40 < runN isInn s then (0, 1, [], 5) else (runN isInn s, 1, s.take (runN isInn s), 0))
    else if isDig (s.getD 0 0) then (if 400 < (numN s).1 then (0, 2, [], 5) else if canN (s.take (numN s).1) (numN s).2 then ((numN s).1, 2, s.take (numN s).1, 0) else (0, 2, [], 3))
    else if symN s = 0 then (0, 4, [], 14) else (symN s, 4, s.take (symN s), 0) := rfl
  rw [e, if_neg hq]
  by_cases h1 : isLow (s.getD 0 0) = true
  · have hw : worM s = runN isInn s := by unfold worM; rw [if_pos h1]
    have hp := (run_pos7 isInn s).2 ⟨h0, low_inn h1⟩
    rw [if_pos h1, hw, if_pos hp]
  · have hw : worM s = 0 := by unfold worM; rw [if_neg h1]
    rw [if_neg h1, hw, if_neg (Nat.lt_irrefl 0)]
    by_cases h2 : isDig (s.getD 0 0) = true
    · have hp := (run_pos7 isDig s).2 ⟨h0, h2⟩
      have hn : nuM s = numN s := by unfold nuM; rw [if_neg (by omega)]
      have hnp : 0 < (numN s).1 := by
        unfold numN; dsimp only; split
        · show 0 < runN isDig s + 1 + _; omega
        · exact hp
      rw [if_pos h2, hn, if_pos hnp]
    · have hp : runN isDig s = 0 := by
        have := run_pos7 isDig s
        rcases Nat.eq_zero_or_pos (runN isDig s) with g | g
        · exact g
        · exact absurd (this.1 g).2 h2
      have hn : nuM s = (0, 0) := by unfold nuM; rw [if_pos hp]
      rw [if_neg h2, hn, if_neg (Nat.lt_irrefl 0)]
theorem tok_quote {s : Byts} (hq : s.getD 0 0 = 34) : tokF s = ((quoF (s.drop 1) 1 []).1, 3, (quoF (s.drop 1) 1 []).2.1, (quoF (s.drop 1) 1 []).2.2) := by
  have e : tokF s = if s.getD 0 0 = 34 then ((quoF (s.drop 1) 1 []).1, 3, (quoF (s.drop 1) 1 []).2.1, (quoF (s.drop 1) 1 []).2.2) else _ := rfl
  rw [e, if_pos hq]
end Go.Proofs.YtoholjdojdmbkaaGreatDoor
namespace Go.Proofs.YtoholjdojdmbkaaGreatDoor
open Go Go.RowKit Go.Dw
def exG : Byts := [103, 97, 112, 32, 45, 62, 32, 51, 47, 52, 32, 35, 32, 101, 110, 100]
def exGL : List Tok := [(1, [103, 97, 112], 1, 1), (4, [45, 62], 1, 5), (2, [51, 47, 52], 1, 8), (5, [], 1, 17)]
def exDL : List Tok := [(2, [49], 1, 1), (4, [46, 46], 1, 2), (2, [50], 1, 4), (5, [], 1, 5)]
theorem exG_eq : scaF exG = (exGL, 0, 0, 0) := by decide +kernel
theorem exT_eq : scaF [50, 47, 52] = ([], 1, 1, 3) := by decide +kernel
theorem exD_eq : scaF [49, 46, 46, 50] = (exDL, 0, 0, 0) := by decide +kernel
theorem exX_eq : scaF [97, 10, 32, 34, 120] = ([], 2, 2, 4) := by decide +kernel
def exR : Byts := [45, 53, 47, 55, 32, 45, 48]
theorem exR_eq : (numR (newR exR)).2 = [45, 53, 47, 55] ∧ (numR (numR (newR exR)).1).1.e = 3 ∧ (numR (numR (newR exR)).1).1.ln = 1 ∧ (numR (numR (newR exR)).1).1.co = 7 := by decide +kernel
theorem Ok.kle2 {w0 w : World} {s : List Ch} {i j : Nat} {k h : Hp} (hok : Ok w0 s w) (hij : j ≠ i) (hj : sget s j = some (.hp k)) (hi : sget s i = some (.hp h)) : k.le ((Hp.whole w).minus h) :=
  Hp.le_minus (hok.mem j _ hj).whole (hok.disj j i _ _ hij hj hi)
theorem scan_at {s : Byts} {L : List Tok} {a b : Nat} {e : Int} (h : scaF s = (L, a, b, e)) (w : World) (hT : TabS (Hp.whole w)) : CallsE Tryz.prog 14 #[.string (bs s)] w (Ret w fun v cs => ∃ o : Dw.Os, v = .tuple #[o.v, .int .i64 a, .int .i64 b, .int .i64 e] ∧ cs = [.hp o.h] ∧ OwnO fT 32 4 o L) := by
  have := Scan_spec s w hT
  rwa [h] at this
section
variable {s : List Ch} {ty : Nat} {xo yo : Operand} {q : TV → Prop}
theorem qTokYes {a b : Tok} (he : a = b) (h : q (.v (.bool true))) : NeedQ Tryz.prog s (do eqGuard .eql 32 xo yo (encT a) (encT b); binOp .eql 32 (encT a) (encT b)) q := qTokEq (by rw [decide_eq_true he]; exact h)
theorem qEqYes {a b : Byts} (he : a = b) (h : q (.v (.bool true))) : NeedQ Tryz.prog s (do eqGuard .eql ty xo yo (.string (bs a)) (.string (bs b)); binOp .eql ty (.string (bs a)) (.string (bs b))) q := qEqL (by rw [decide_eq_true he]; exact h)
end
set_option maxRecDepth 20000 in
set_option maxHeartbeats 1000000 in
theorem known35_aux (w : World) (hT : TabS (Hp.whole w)) {r0 r1 r2 : RS}
    (kG : ∀ (w : World), TabS (Hp.whole w) → CallsE Tryz.prog 14 #[.string (bs [103, 97, 112, 32, 45, 62, 32, 51, 47, 52, 32, 35, 32, 101, 110, 100])] w (Ret w fun v cs => ∃ a c h, v = .tuple #[.slice a 4 c, .int .i64 0, .int .i64 0, .int .i64 0] ∧ cs = [.hp h] ∧ Sl (encF fT) 4 h a 4 c exGL))
    (kT : ∀ (w : World), TabS (Hp.whole w) → CallsE Tryz.prog 14 #[.string (bs [50, 47, 52])] w (Ret w fun v cs => ∃ a n c, v = .tuple #[.slice a n c, .int .i64 1, .int .i64 1, .int .i64 3] ∧ cs = []))
    (kD : ∀ (w : World), TabS (Hp.whole w) → CallsE Tryz.prog 14 #[.string (bs [49, 46, 46, 50])] w (Ret w fun v cs => ∃ a c, v = .tuple #[.slice a 4 c, .int .i64 0, .int .i64 0, .int .i64 0] ∧ cs = []))
    (kX : ∀ (w : World), TabS (Hp.whole w) → CallsE Tryz.prog 14 #[.string (bs [97, 10, 32, 34, 120])] w (Ret w fun v cs => ∃ a n c, v = .tuple #[.slice a n c, .int .i64 2, .int .i64 2, .int .i64 4] ∧ cs = []))
    (kR : ∀ (w : World), TabS (Hp.whole w) → CallsE Tryz.prog 17 #[.string (bs [45, 53, 47, 55, 32, 45, 48])] w (Ret w fun v cs => ∃ b h k, v = .pointer (some ⟨b, 0, none⟩) ∧ cs = [.hp h, .hp k] ∧ Rdr k h b r0))
    (k1 : ∀ {k h : Hp} {b : Nat} (w : World), h.In w → k.le ((Hp.whole w).minus h) → Rdr k h b r0 → CallsE Tryz.prog 29 #[.pointer (some ⟨b, 0, none⟩)] w (RetM w h fun v h' cs => cs = [] ∧ v = .string (bs [45, 53, 47, 55]) ∧ Rdr k h' b r1))
    (k2 : ∀ {k h : Hp} {b : Nat} (w : World), h.In w → k.le ((Hp.whole w).minus h) → Rdr k h b r1 → CallsE Tryz.prog 29 #[.pointer (some ⟨b, 0, none⟩)] w (RetM w h fun _ h' cs => cs = [] ∧ Rdr k h' b r2))
    (kE : ∀ {k h : Hp} {b : Nat} (w : World), h.In w → Rdr k h b r2 → CallsE Tryz.prog 19 #[.pointer (some ⟨b, 0, none⟩)] w (RetV w (.tuple #[.int .i64 1, .int .i64 7, .int .i64 3]))) :
    CallsE Tryz.prog 12 #[] w (RetV w (.bool true)) := by
  refine enter (X := cx 126) (cxg _) (args := []) [.tmp 0] Tryz.func12 rfl rfl rfl rfl rfl ?_
  refine call (fun w' hm => kG w' (hT.mono (hm 0 _ rfl).whole)) ?_
  rintro _ _ ⟨a1, c1, h1, rfl, rfl, hS1⟩
  refine hideQ (fun _ kz => kz _ _ ?_)
  refine normS [.hp (Hp.whole w), .hp h1] rfl ?_
  refine call (fun w' hm => kT w' (hT.mono (hm 0 _ rfl).whole)) ?_
  rintro _ _ ⟨a2, n2, c2, rfl, rfl⟩
  refine hideQ (fun _ kz => kz _ _ ?_)
  refine normS [.hp (Hp.whole w), .hp h1] rfl ?_
  refine call (fun w' hm => kD w' (hT.mono (hm 0 _ rfl).whole)) ?_
  rintro _ _ ⟨a3, c3, rfl, rfl⟩
  refine hideQ (fun _ kz => kz _ _ ?_)
  refine normS [.hp (Hp.whole w), .hp h1] rfl ?_
  refine call (fun w' hm => kX w' (hT.mono (hm 0 _ rfl).whole)) ?_
  rintro _ _ ⟨a4, n4, c4, rfl, rfl⟩
  refine hideQ (fun _ kz => kz _ _ ?_)
  refine normS [.hp (Hp.whole w), .hp h1] rfl ?_
  refine call (fun w' hm => kR w' (hT.mono (hm 0 _ rfl).whole)) ?_
  rintro _ _ ⟨b, h, k, rfl, rfl, hR⟩
  refine hideQ (fun _ kz => kz _ _ ?_)
  refine normS [.hp (Hp.whole w), .hp h1, .hp h, .hp k] rfl ?_
  refine callMO (i := 2) rfl (fun w0 w' hok => k1 w' (hok.mem 2 _ rfl) (Ok.kle2 (j := 3) (i := 2) hok (by decide) rfl rfl) hR) ?_
  rintro _ h5 _ ⟨rfl, rfl, hR2⟩
  refine hideQ (fun _ kz => kz _ _ ?_)
  refine normS [.hp (Hp.whole w), .hp h1, .hp h5, .hp k] rfl ?_
  refine w1k (by rfl) fun K hK => ?_
  refine hK _ _ ?_
  refine w1k (by rfl) fun K hK => ?_
  refine callMO (i := 2) rfl (fun w0 w' hok => k2 w' (hok.mem 2 _ rfl) (Ok.kle2 (j := 3) (i := 2) hok (by decide) rfl rfl) hR2) ?_
  rintro v7 h6 _ ⟨rfl, hR3⟩
  refine hK _ _ ?_
  refine wnil ?_
  refine normS [.hp (Hp.whole w), .hp h1, .hp h6, .hp k] rfl ?_
  refine callV _ (fun w' hm => kE w' (hm 2 _ rfl) hR3) ?_
  refine hideQ (fun _ kz => kz _ _ ?_)
  show wops _ _ _ _ _ _
  refine w1k (by rfl) fun K hK => ?_
  refine hK _ _ ?_
  refine w1k (by rfl) fun K hK => ?_
  refine hK _ _ ?_
  refine w1k (by rfl) fun K hK => ?_
  refine hK _ _ ?_
  refine wGYk (by rfl) (by rfl) (by rfl) fun K hK => ?_
  refine hK _ _ ?_
  refine wGYk (by rfl) (by rfl) (by rfl) fun K hK => ?_
  refine hK _ _ ?_
  refine wGYk (by rfl) (by rfl) (by rfl) fun K hK => ?_
  refine hK _ _ ?_
  refine w1k (by rfl) fun K hK => ?_
  refine hK _ _ ?_
  refine w1k (by rfl) fun K hK => ?_
  refine hK _ _ ?_
  refine wGYk (by rfl) (by rfl) (by rfl) fun K hK => ?_
  refine hK _ _ ?_
  refine wGYk (by rfl) (by rfl) (by rfl) fun K hK => ?_
  refine idx (cxg _) (e := 32) rfl hS1 1 rfl (by decide) (fun b9 o9 cs hcs hR hcell => ?_)
  subst hR
  refine hK _ _ ?_
  refine wGYk (by rfl) (by rfl) (by rfl) fun K hK => ?_
  refine ldn (cxg _) (i := 1) rfl hcell rfl ?_
  refine hK _ _ ?_
  refine wGYk (by rfl) (by rfl) (by rfl) fun K hK => ?_
  refine hK _ _ ?_
  refine wGYk (by rfl) (by rfl) (by rfl) fun K hK => ?_
  refine qTokYes (a := (4, [45, 62], 1, 5)) (b := (4, [45, 62], 1, 5)) rfl ?_
  refine hK _ _ ?_
  refine w1k (by rfl) fun K hK => ?_
  refine hK _ _ ?_
  refine w1k (by rfl) fun K hK => ?_
  refine hK _ _ ?_
  refine wGYk (by rfl) (by rfl) (by rfl) fun K hK => ?_
  refine hK _ _ ?_
  refine wGYk (by rfl) (by rfl) (by rfl) fun K hK => ?_
  refine idx (cxg _) (e := 32) rfl hS1 2 rfl (by decide) (fun b9 o9 cs hcs hR hcell => ?_)
  subst hR
  refine hK _ _ ?_
  refine wGYk (by rfl) (by rfl) (by rfl) fun K hK => ?_
  refine hK _ _ ?_
  refine wGYk (by rfl) (by rfl) (by rfl) fun K hK => ?_
  refine ld1 (cxg _) (i := 1) rfl (hcell 1 _ rfl) rfl ?_
  refine hK _ _ ?_
  refine wGYk (by rfl) (by rfl) (by rfl) fun K hK => ?_
  refine qEqYes (a := [51, 47, 52]) (b := [51, 47, 52]) rfl ?_
  refine hK _ _ ?_
  refine w1k (by rfl) fun K hK => ?_
  refine hK _ _ ?_
  refine w1k (by rfl) fun K hK => ?_
  refine hK _ _ ?_
  refine wGYk (by rfl) (by rfl) (by rfl) fun K hK => ?_
  refine hK _ _ ?_
  refine wGYk (by rfl) (by rfl) (by rfl) fun K hK => ?_
  refine idx (cxg _) (e := 32) rfl hS1 3 rfl (by decide) (fun b9 o9 cs hcs hR hcell => ?_)
  subst hR
  refine hK _ _ ?_
  refine wGYk (by rfl) (by rfl) (by rfl) fun K hK => ?_
  refine ldn (cxg _) (i := 1) rfl hcell rfl ?_
  refine hK _ _ ?_
  refine wGYk (by rfl) (by rfl) (by rfl) fun K hK => ?_
  refine hK _ _ ?_
  refine wGYk (by rfl) (by rfl) (by rfl) fun K hK => ?_
  refine qTokYes (a := (5, [], 1, 17)) (b := (5, [], 1, 17)) rfl ?_
  refine hK _ _ ?_
  refine w1k (by rfl) fun K hK => ?_
  refine hK _ _ ?_
  refine w1k (by rfl) fun K hK => ?_
  refine hK _ _ ?_
  refine wGYk (by rfl) (by rfl) (by rfl) fun K hK => ?_
  refine hK _ _ ?_
  refine wGYk (by rfl) (by rfl) (by rfl) fun K hK => ?_
  refine hK _ _ ?_
  refine w1k (by rfl) fun K hK => ?_
  refine hK _ _ ?_
  refine w1k (by rfl) fun K hK => ?_
  refine hK _ _ ?_
  refine wGYk (by rfl) (by rfl) (by rfl) fun K hK => ?_
  refine hK _ _ ?_
  refine wGYk (by rfl) (by rfl) (by rfl) fun K hK => ?_
  refine hK _ _ ?_
  refine w1k (by rfl) fun K hK => ?_
  refine hK _ _ ?_
  refine w1k (by rfl) fun K hK => ?_
  refine hK _ _ ?_
  refine wGYk (by rfl) (by rfl) (by rfl) fun K hK => ?_
  refine hK _ _ ?_
  refine wGYk (by rfl) (by rfl) (by rfl) fun K hK => ?_
  refine hK _ _ ?_
  refine wGYk (by rfl) (by rfl) (by rfl) fun K hK => ?_
  refine hK _ _ ?_
  refine w1k (by rfl) fun K hK => ?_
  refine hK _ _ ?_
  refine w1k (by rfl) fun K hK => ?_
  refine hK _ _ ?_
  refine wGYk (by rfl) (by rfl) (by rfl) fun K hK => ?_
  refine hK _ _ ?_
  refine wGYk (by rfl) (by rfl) (by rfl) fun K hK => ?_
  refine hK _ _ ?_
  refine w1k (by rfl) fun K hK => ?_
  refine hK _ _ ?_
  refine w1k (by rfl) fun K hK => ?_
  refine hK _ _ ?_
  refine wGYk (by rfl) (by rfl) (by rfl) fun K hK => ?_
  refine hK _ _ ?_
  refine wGYk (by rfl) (by rfl) (by rfl) fun K hK => ?_
  refine hK _ _ ?_
  refine w1k (by rfl) fun K hK => ?_
  refine hK _ _ ?_
  refine w1k (by rfl) fun K hK => ?_
  refine hK _ _ ?_
  refine wGYk (by rfl) (by rfl) (by rfl) fun K hK => ?_
  refine hK _ _ ?_
  refine wGYk (by rfl) (by rfl) (by rfl) fun K hK => ?_
  refine hK _ _ ?_
  refine w1k (by rfl) fun K hK => ?_
  refine hK _ _ ?_
  refine w1k (by rfl) fun K hK => ?_
  refine hK _ _ ?_
  refine wGYk (by rfl) (by rfl) (by rfl) fun K hK => ?_
  refine hK _ _ ?_
  refine wGYk (by rfl) (by rfl) (by rfl) fun K hK => ?_
  refine qEqYes (a := [45, 53, 47, 55]) (b := [45, 53, 47, 55]) rfl ?_
  refine hK _ _ ?_
  refine w1k (by rfl) fun K hK => ?_
  refine hK _ _ ?_
  refine w1k (by rfl) fun K hK => ?_
  refine hK _ _ ?_
  refine wGYk (by rfl) (by rfl) (by rfl) fun K hK => ?_
  refine hK _ _ ?_
  refine wGYk (by rfl) (by rfl) (by rfl) fun K hK => ?_
  refine hK _ _ ?_
  refine w1k (by rfl) fun K hK => ?_
  refine hK _ _ ?_
  refine w1k (by rfl) fun K hK => ?_
  refine hK _ _ ?_
  refine wGYk (by rfl) (by rfl) (by rfl) fun K hK => ?_
  refine hK _ _ ?_
  refine wGYk (by rfl) (by rfl) (by rfl) fun K hK => ?_
  refine hK _ _ ?_
  refine w1k (by rfl) fun K hK => ?_
  refine hK _ _ ?_
  refine w1k (by rfl) fun K hK => ?_
  refine hK _ _ ?_
  refine wGYk (by rfl) (by rfl) (by rfl) fun K hK => ?_
  refine hK _ _ ?_
  refine wGYk (by rfl) (by rfl) (by rfl) fun K hK => ?_
  refine hK _ _ ?_
  refine w1k (by rfl) fun K hK => ?_
  refine hK _ _ ?_
  refine w1k (by rfl) fun K hK => ?_
  refine hK _ _ ?_
  refine wnil ?_
  exact ⟨[], ⟨rfl, rfl⟩, fun w' h => h.pick [0] rfl rfl⟩
theorem scan_at2 {s : Byts} {L : List Tok} {a b : Nat} {e : Int} (h : scaF s = (L, a, b, e)) (w : World) (hT : TabS (Hp.whole w)) : CallsE Tryz.prog 14 #[.string (bs s)] w (Ret w fun v cs => ∃ x c h, v = .tuple #[.slice x L.length c, .int .i64 a, .int .i64 b, .int .i64 e] ∧ cs = [.hp h] ∧ Sl (encF fT) 4 h x L.length c L) := by
  have := scan_at h w hT
  refine ⟨this.1, this.2.mono fun e w' he => ?_⟩
  obtain ⟨v, cs, rfl, h1, ⟨x, n, c, hh⟩, h2, h3, h4⟩ := he
  have hS := OwnO.sl (f := fT) (fun _ => rfl) (by decide) h4
  have hl : n = L.length := hS.len
  subst hl
  exact ⟨v, cs, rfl, h1, x, c, hh, h2, h3, hS⟩
theorem scan_at3 {s : Byts} {L : List Tok} {a b : Nat} {e : Int} (h : scaF s = (L, a, b, e)) (w : World) (hT : TabS (Hp.whole w)) : CallsE Tryz.prog 14 #[.string (bs s)] w (Ret w fun v cs => ∃ x c, v = .tuple #[.slice x L.length c, .int .i64 a, .int .i64 b, .int .i64 e] ∧ cs = []) := by
  have := scan_at2 h w hT
  refine ⟨this.1, this.2.mono fun e w' he => ?_⟩
  obtain ⟨v, cs, rfl, h1, x, c, hh, h2, rfl, h4⟩ := he
  exact ⟨v, [], rfl, h1.pick [0] rfl rfl, x, c, h2, rfl⟩
theorem known35_spec (w : World) (hT : TabS (Hp.whole w)) : CallsE Tryz.prog 12 #[] w (RetV w (.bool true)) :=
  known35_aux w hT (r0 := newR exR) (r1 := (numR (newR exR)).1) (r2 := (numR (numR (newR exR)).1).1)
    (fun w hT => scan_at2 exG_eq w hT)
    (fun w hT => by
      have := scan_at3 exT_eq w hT
      refine ⟨this.1, this.2.mono fun e w' he => ?_⟩
      obtain ⟨v, cs, rfl, h1, x, c, h2, h3⟩ := he
      exact ⟨v, cs, rfl, h1, x, _, c, h2, h3⟩)
    (fun w hT => scan_at3 exD_eq w hT)
    (fun w hT => by
      have := scan_at3 exX_eq w hT
      refine ⟨this.1, this.2.mono fun e w' he => ?_⟩
      obtain ⟨v, cs, rfl, h1, x, c, h2, h3⟩ := he
      exact ⟨v, cs, rfl, h1, x, _, c, h2, h3⟩)
    (fun w hT => New_spec exR w hT)
    (fun w hi hk hR => by have := Number_spec w hi hk hR; rwa [exR_eq.1] at this)
    (fun w hi hk hR => by
      have := Number_spec w hi hk hR
      refine ⟨this.1, this.2.mono fun e w' he => ?_⟩
      obtain ⟨v, h', cs, rfl, h1, h2, h3, h4⟩ := he
      exact ⟨v, h', cs, rfl, h1, h2, h4⟩)
    (fun w hi hR => by
      have := Error_spec w hi hR
      rw [exR_eq.2.1, exR_eq.2.2.1, exR_eq.2.2.2] at this
      exact this)
end Go.Proofs.YtoholjdojdmbkaaGreatDoor
namespace Go.Proofs.YtoholjdojdmbkaaGreatDoor
/-! ### numbers -/
/-- the text of a Number -/
def numT (x : Byts) : Prop := x.length ≤ 400 ∧ ∃ a b : Byts, a.all isDig = true ∧ 0 < a.length ∧ ((x = a ∧ canD a = true) ∨ (x = a ++ 47 :: b ∧ b.all isDig = true ∧ 0 < b.length ∧ canN x a.length = true))
/-- what the model's Int makes of a text -/
def someI (p : Int × Bool) : Option Int := if p.2 = true then some p.1 else none
def valI (s : Byts) : Option Int := if parE s = 0 then someI (intI (sgnB s) (dgV (sgnD s))) else none
/-- what the program's Int makes of it -/
def ratY (s : Byts) : Nat := if (cutF s).2.2 = true then dgV (cutF s).2.1 else 0
def proI (s : Byts) : Option Int := if reaE 400 s = 0 then (if ratY s = 0 ∨ ratY s = 1 then someI (intI (sgnB (cutF s).1) (dgV (sgnD (cutF s).1))) else none) else none
theorem dgV_low {l : Byts} (h0 : 0 < l.length) (h1 : l.getD 0 0 ≠ 48) (hd : l.all isDig = true) : 10 ^ (l.length - 1) ≤ dgV l := by
  cases l with
  | nil => cases h0
  | cons c l =>
    have hc : isDig c = true := List.all_eq_true.1 hd c (by simp)
    have hc1 : c ≠ 48 := h1
    unfold isDig at hc
    rw [Bool.and_eq_true, decide_eq_true_eq, decide_eq_true_eq] at hc
    have hn : c.toNat ≠ 48 := fun e => hc1 (UInt8.toNat_inj.1 e)
    have e := dec_append [c.toNat - 48] (l.map fun c => c.toNat - 48)
    have e1 : decV [c.toNat - 48] = c.toNat - 48 := by show 10 * 0 + (c.toNat - 48) = _; omega
    rw [e1] at e
    show 10 ^ l.length ≤ decV ([c.toNat - 48] ++ l.map fun c => c.toNat - 48)
    rw [e, List.length_map]
    have : 1 * 10 ^ l.length ≤ (c.toNat - 48) * 10 ^ l.length := Nat.mul_le_mul_right _ (by omega)
    omega
theorem canD_first {a : Byts} (h : canD a = true) (h2 : a ≠ [48]) : a.getD 0 0 ≠ 48 := by
  unfold canD at h
  rw [Bool.and_eq_true, Bool.or_eq_true, decide_eq_true_eq, decide_eq_true_eq] at h
  rcases h.2 with g | g
  · match a, g with
    | [c], _ => intro e; exact h2 (by rw [show c = 48 from e])
  · simpa using g
theorem parE_neg {a : Byts} (h : a.all isDig = true) (hc : canD a = true) (h2 : a ≠ [48]) (h3 : a.length ≤ 60000) : parE (45 :: a) = 0 ∧ sgnB (45 :: a) = true ∧ sgnD (45 :: a) = a := by
  have e1 : sgnB (45 :: a) = true := by unfold sgnB; simp
  have e2 : sgnD (45 :: a) = a := by unfold sgnD; rw [e1]; rfl
  refine ⟨?_, e1, e2⟩
  have h0 : 0 < a.length := by
    unfold canD at hc; rw [Bool.and_eq_true, decide_eq_true_eq] at hc; exact hc.1
  unfold parE
  rw [e2, if_neg (by rw [List.length_cons]; omega), if_neg, if_neg (fun g => canD_first hc h2 g.1)]
  rintro (g | g)
  · rw [g] at h0; cases h0
  · rw [any_not h] at g; cases g
theorem no_stroke {a : Byts} (h : a.all isDig = true) : cutF (45 :: a) = (45 :: a, [], false) := by
  have hs : (45 :: a : Byts).all (fun c => !decide (c = 47)) = true := by
    rw [List.all_cons, dig_stroke h]; rfl
  unfold cutF
  rw [run_all hs, if_neg (Nat.lt_irrefl _)]
theorem stroke_neg {a b : Byts} (h : a.all isDig = true) : cutF (45 :: (a ++ 47 :: b)) = (45 :: a, b, true) := by
  have hs : (45 :: a : Byts).all (fun c => !decide (c = 47)) = true := by
    rw [List.all_cons, dig_stroke h]; rfl
  have hr := run_app (b := b) hs (c := 47) (by decide)
  have e : (45 :: (a ++ 47 :: b) : Byts) = (45 :: a) ++ 47 :: b := rfl
  unfold cutF
  rw [e, hr, if_pos (by rw [List.length_append, List.length_cons]; simp), List.take_left' rfl, ← List.drop_drop, List.drop_left' rfl]
  rfl
theorem canD_canN {a : Byts} : canN a a.length = canD a := by unfold canN; rw [if_pos rfl]
theorem parE_stroke (a b : Byts) (h : a.all isDig = true) (h0 : 0 < a.length) (sg : Bool) : parE ((if sg = true then [45] else []) ++ (a ++ 47 :: b)) ≠ 0 := by
  have hx : ∀ l : Byts, sgnD l = a ++ 47 :: b → parE l ≠ 0 := fun l e => by
    unfold parE
    rw [e]
    split
    · decide
    · rw [if_pos (.inr (by rw [List.any_append, List.any_cons]; simp [show isDig 47 = false from by decide]))]; decide
  cases sg
  · refine hx _ ?_
    have : (a ++ 47 :: b).getD 0 0 ≠ 45 := by
      have := (dig_not (all_get h h0)).1
      cases a with
      | nil => cases h0
      | cons c a => exact this
    show sgnD (a ++ 47 :: b) = _
    unfold sgnD sgnB
    rw [decide_eq_false this]; rfl
  · exact hx _ rfl
theorem pro_val {t : Byts} (ht : numT t) {sg : Bool} (h2 : sg = true → t ≠ [48]) : proI ((if sg = true then [45] else []) ++ t) = valI ((if sg = true then [45] else []) ++ t) := by
  obtain ⟨hl, a, b, ha, h0, ⟨rfl, hc⟩ | ⟨rfl, hb, h1, hc⟩⟩ := ht
  · cases sg
    · show proI t = valI t
      obtain ⟨e1, e2⟩ := sgn_dig ha
      have e3 := cut_none ha
      unfold proI valI ratY
      rw [e3]
      rw [if_pos ((reaE_int ha h0 hl).2 (by rw [canD_canN]; exact hc)), if_pos (.inl (if_neg (show ¬ (false = true) by decide))), if_pos ((parE_dig ha h0 (by omega)).2 hc)]
    · show proI (45 :: t) = valI (45 :: t)
      obtain ⟨e0, e1, e2⟩ := parE_neg ha hc (h2 rfl) (by omega)
      unfold proI valI ratY
      rw [no_stroke ha, if_pos e0, e1, e2]
      dsimp only
      by_cases hlen : t.length = 400
      · rw [if_neg (by unfold reaE; rw [if_pos (by rw [List.length_cons]; omega)]; decide)]
        have := dgV_low h0 (canD_first hc (h2 rfl)) ha
        rw [hlen] at this
        have hbig : 9223372036854775808 < 10 ^ (400 - 1) := by decide +kernel
        unfold someI intI
        rw [if_pos rfl, if_neg (Nat.not_le.2 (Nat.lt_of_lt_of_le hbig this))]
        rfl
      · have : reaE 400 (45 :: t) = 0 := by
          unfold reaE
          rw [no_stroke ha, if_neg (by rw [List.length_cons]; omega)]
          dsimp only
          rw [e2, e0]
          have : digF t = true := by unfold digF; rw [ha, Bool.and_true, decide_eq_true_eq]; exact List.length_pos_iff.1 h0
          rw [this]
          rfl
        rw [if_pos this, if_pos (.inl (if_neg (show ¬ (false = true) by decide)))]
  · have hv : valI ((if sg = true then [45] else []) ++ (a ++ 47 :: b)) = none := by
      unfold valI; rw [if_neg (parE_stroke a b ha h0 sg)]
    rw [hv]
    have hb1 : 1 < dgV b := by
      unfold canN at hc
      rw [if_neg (by rw [List.length_append, List.length_cons]; omega), Bool.and_eq_true, Bool.and_eq_true, Bool.and_eq_true, decide_eq_true_eq] at hc
      have : (a ++ 47 :: b).drop (a.length + 1) = b := by rw [← List.drop_drop, List.drop_left' rfl]; rfl
      rw [this] at hc
      exact hc.2.2.1
    have hy : ratY ((if sg = true then [45] else []) ++ (a ++ 47 :: b)) = dgV b := by
      unfold ratY
      cases sg
      · show (if (cutF (a ++ 47 :: b)).2.2 = true then dgV (cutF (a ++ 47 :: b)).2.1 else 0) = _
        rw [cut_some ha]; rfl
      · show (if (cutF (45 :: (a ++ 47 :: b))).2.2 = true then dgV (cutF (45 :: (a ++ 47 :: b))).2.1 else 0) = _
        rw [stroke_neg ha]; rfl
    unfold proI
    rw [hy]
    by_cases hr : reaE 400 ((if sg = true then [45] else []) ++ (a ++ 47 :: b)) = 0
    · rw [if_pos hr, if_neg (by omega)]
    · rw [if_neg hr]
/-! ### the reader -/
def mNextR (r : RS) : RS := if r.e = 0 ∧ 1 < r.ts.length then { r with ts := r.ts.tail } else r
def mFailR (r : RS) (e : Int) : RS := if r.e = 0 then { r with ln := (peekR r).2.2.1, co := (peekR r).2.2.2, e := e } else r
def mKindR (r : RS) (z : Int) : RS × Byts := if (peekR r).1 ≠ z then (mFailR r 14, []) else (mNextR r, (peekR r).2.1)
def mSig (r : RS) : Bool := decide ((peekR r).1 = 4) && decide ((peekR r).2.1 = [45])
def mSgR (r : RS) : RS := if mSig r = true then mNextR r else r
def mNumR (r : RS) : RS × Byts :=
  if mSig r = true ∧ (peekR (mSgR r)).1 = 2 ∧ (peekR (mSgR r)).2.1 = [48] then (mFailR (mSgR r) 3, [])
  else ((mKindR (mSgR r) 2).1, if (mKindR (mSgR r) 2).2 = [] then [] else (if mSig r = true then [45] else []) ++ (mKindR (mSgR r) 2).2)
def tokG (t : Tok) : Prop := (t.1 = 1 → t.2.1 ≠ [45]) ∧ (t.1 = 2 → numT t.2.1)
structure GoodR (r : RS) : Prop where
  l : r.e = 0 → EndL r.ts
  t : ∀ t ∈ r.ts, tokG t
structure SimR (r m : RS) : Prop where
  e : r.e = m.e
  ts : r.ts = m.ts
  p : r.e ≠ 0 → r.ln = m.ln ∧ r.co = m.co
theorem SimR.peek {r m : RS} (h : SimR r m) : peekR r = peekR m := by
  unfold peekR
  rw [← h.e, ← h.ts]
  split
  · rename_i g; rw [(h.p g).1, (h.p g).2]
  · rfl
theorem GoodR.pk {r : RS} (g : GoodR r) (he : r.e = 0) : peekR r ∈ r.ts ∧ tokG (peekR r) := by
  have hp := (g.l he).pos
  have : peekR r = r.ts.headD tok0 := by unfold peekR; rw [if_neg (fun h => h he)]
  rw [this]
  cases hts : r.ts with
  | nil => rw [hts] at hp; cases hp
  | cons t l => exact ⟨by simp, g.t t (by rw [hts]; simp)⟩
theorem GoodR.pk2 {r : RS} (g : GoodR r) : tokG (peekR r) := by
  by_cases he : r.e = 0
  · exact (g.pk he).2
  · have : peekR r = (5, [], r.ln, r.co) := by unfold peekR; rw [if_pos he]
    rw [this]
    exact ⟨fun h => absurd h (show ¬ (5 : Int) = 1 by decide), fun h => absurd h (show ¬ (5 : Int) = 2 by decide)⟩
theorem GoodR.more {r : RS} (g : GoodR r) (he : r.e = 0) : (peekR r).1 ≠ 5 ↔ 1 < r.ts.length := by
  obtain ⟨pre, t, hts, h5, hpre⟩ := g.l he
  have : peekR r = r.ts.headD tok0 := by unfold peekR; rw [if_neg (fun h => h he)]
  rw [this, hts]
  cases pre with
  | nil => exact ⟨fun h => absurd h5 h, fun h => by simp at h⟩
  | cons x pre => exact ⟨fun _ => by simp, fun _ => hpre x (by simp)⟩
theorem SimR.next {r m : RS} (h : SimR r m) (g : GoodR r) : SimR (nextR r) (mNextR m) ∧ GoodR (nextR r) := by
  unfold nextR mNextR
  rw [← h.e, ← h.ts]
  by_cases he : r.e = 0
  · by_cases hm : 1 < r.ts.length
    · have h5 := (g.more he).2 hm
      rw [if_pos ⟨he, h5⟩, if_pos ⟨he, hm⟩]
      have hp : peekR r = r.ts.headD tok0 := by unfold peekR; rw [if_neg (fun h => h he)]
      rw [hp] at h5
      exact ⟨⟨rfl, rfl, fun g => absurd he g⟩, ⟨fun _ => (g.l he).tail h5, fun t ht => g.t t (List.mem_of_mem_tail ht)⟩⟩
    · have h5 := fun c => hm ((g.more he).1 c)
      rw [if_neg (fun c => h5 c.2), if_neg (fun c => hm c.2)]
      exact ⟨h, g⟩
  · rw [if_neg (fun c => he c.1), if_neg (fun c => he c.1)]
    exact ⟨h, g⟩
theorem SimR.fail {r m : RS} (h : SimR r m) (g : GoodR r) (e : Int) : SimR (failR r e) (mFailR m e) ∧ GoodR (failR r e) := by
  unfold failR mFailR
  rw [← h.e, ← h.peek]
  by_cases he : r.e = 0
  · rw [if_neg (fun c => c he), if_pos he]
    by_cases h0 : e = 0
    · rw [if_neg (fun c => c h0)]
      exact ⟨⟨he.trans h0.symm, h.ts, fun c => absurd he c⟩, g⟩
    · rw [if_pos h0]
      exact ⟨⟨rfl, h.ts, fun _ => ⟨rfl, rfl⟩⟩, ⟨fun c => absurd c h0, g.t⟩⟩
  · rw [if_pos he, if_neg he]
    exact ⟨h, g⟩
theorem SimR.kind {r m : RS} (h : SimR r m) (g : GoodR r) (z : Int) : SimR (kindR r z).1 (mKindR m z).1 ∧ GoodR (kindR r z).1 ∧ (kindR r z).2 = (mKindR m z).2 := by
  unfold kindR mKindR
  rw [← h.peek]
  split
  · exact ⟨(h.fail g 14).1, (h.fail g 14).2, rfl⟩
  · exact ⟨(h.next g).1, (h.next g).2, rfl⟩
theorem GoodR.sig {r : RS} (g : GoodR r) : isR r [45] = mSig r := by
  unfold isR mSig
  by_cases h : (peekR r).2.1 = [45]
  · have h1 : ¬ (peekR r).1 = 1 := fun c => g.pk2.1 c h
    rw [decide_eq_false h1, Bool.false_or]
  · rw [decide_eq_false h, Bool.and_false, Bool.and_false]
theorem SimR.sig {r m : RS} (h : SimR r m) : mSig r = mSig m := by unfold mSig; rw [h.peek]
theorem SimR.take {r m : RS} (h : SimR r m) (g : GoodR r) : SimR (takeR r [45]) (mSgR m) ∧ GoodR (takeR r [45]) := by
  unfold takeR mSgR
  rw [g.sig, ← h.sig]
  split
  · exact h.next g
  · exact ⟨h, g⟩
theorem fail_of {r : RS} (h : r.e ≠ 0) (e : Int) : failR r e = r := if_pos h
theorem fail_e (r : RS) {e : Int} (he : e ≠ 0) : (failR r e).e ≠ 0 := by
  by_cases h : r.e ≠ 0
  · rw [fail_of h]; exact h
  · unfold failR; rw [if_neg h, if_pos he]; exact he
theorem fail_fail (r : RS) {e : Int} (he : e ≠ 0) (z : Int) (hz : z ≠ 5) : kindR (failR r e) z = (failR r e, []) := by
  have h1 := fail_e r he
  unfold kindR
  have h2 : (peekR (failR r e)).1 = 5 := by unfold peekR; rw [if_pos h1]
  rw [if_pos (by rw [h2]; exact fun c => hz c.symm), fail_of h1]
theorem SimR.num {r m : RS} (h : SimR r m) (g : GoodR r) : SimR (numR r).1 (mNumR m).1 ∧ GoodR (numR r).1 ∧ (numR r).2 = (mNumR m).2 := by
  obtain ⟨h1, g1⟩ := h.take g
  unfold numR sgR mNumR
  rw [g.sig, h.sig, ← h1.peek]
  split
  · obtain ⟨h2, g2⟩ := h1.fail g1 3
    rw [fail_fail _ (by decide) 2 (by decide)]
    exact ⟨h2, g2, rfl⟩
  · obtain ⟨h2, g2, e2⟩ := h1.kind g1 2
    rw [e2]
    exact ⟨h2, g2, rfl⟩
/-- a number is read, or the reader fails -/
theorem num_fails {r : RS} (g : GoodR r) : ((numR r).1.e ≠ 0 ∧ (numR r).2 = []) ∨ ((numR r).1.e = 0 ∧ r.e = 0 ∧ ∃ t sg, numT t ∧ (sg = true → t ≠ [48]) ∧ (numR r).2 = (if sg = true then [45] else []) ++ t ∧ (numR r).2 ≠ []) := by
  have g1 : GoodR (takeR r [45]) := ((⟨rfl, rfl, fun _ => ⟨rfl, rfl⟩⟩ : SimR r r).take g).2
  have hte : (takeR r [45]).e = r.e := by
    unfold takeR; split
    · unfold nextR; split <;> rfl
    · rfl
  unfold numR sgR
  split
  · rename_i hs
    rw [fail_fail _ (by decide) 2 (by decide)]
    exact .inl ⟨fail_e _ (by decide), rfl⟩
  · rename_i hs
    unfold kindR
    split
    · exact .inl ⟨fail_e _ (by decide), rfl⟩
    · rename_i hk
      have hk : (peekR (takeR r [45])).1 = 2 := Classical.not_not.1 hk
      have he : (takeR r [45]).e = 0 := by
        refine Classical.byContradiction fun c => ?_
        have : (peekR (takeR r [45])).1 = 5 := by unfold peekR; rw [if_pos c]
        rw [hk] at this; cases this
      have hn := g1.pk2.2 hk
      have hne : (peekR (takeR r [45])).2.1 ≠ [] := by
        obtain ⟨_, a, b, _, h0, ⟨e, _⟩ | ⟨e, _⟩⟩ := hn
        · rw [e]; exact List.length_pos_iff.1 h0
        · rw [e]; simp
      refine .inr ⟨?_, by rw [← hte]; exact he, (peekR (takeR r [45])).2.1, isR r [45], hn, fun hsg c => hs ⟨hsg, hk, c⟩, by dsimp only; rw [if_neg hne], ?_⟩
      · show (nextR (takeR r [45])).e = 0
        unfold nextR; split <;> exact he
      · dsimp only; rw [if_neg hne]; exact fun c => hne (List.append_eq_nil_iff.1 c).2
/-! ### calls -/
def intR (r : RS) (lo hi : Int) : RS × Int :=
  if (numR r).1.e ≠ 0 then ((numR r).1, 0)
  else match proI (numR r).2 with
    | none => (failR r 2, 0)
    | some n => if n < lo ∨ hi < n then (failR r 2, 0) else ((numR r).1, n)
def mIntR (r : RS) (lo hi : Int) : RS × Int :=
  if (mNumR r).2 = [] then ((mNumR r).1, 0)
  else match valI (mNumR r).2 with
    | none => (mFailR r 2, 0)
    | some n => if n < lo ∨ hi < n then (mFailR r 2, 0) else ((mNumR r).1, n)
theorem SimR.int {r m : RS} (h : SimR r m) (g : GoodR r) (lo hi : Int) : SimR (intR r lo hi).1 (mIntR m lo hi).1 ∧ GoodR (intR r lo hi).1 ∧ (intR r lo hi).2 = (mIntR m lo hi).2 := by
  obtain ⟨h1, g1, e1⟩ := h.num g
  unfold intR mIntR
  rw [← e1]
  rcases num_fails g with ⟨n1, n2⟩ | ⟨n1, _, t, sg, ht, hs, n2, n3⟩
  · rw [if_pos n1, if_pos n2]
    exact ⟨h1, g1, rfl⟩
  · rw [if_neg (fun c => c n1), if_neg n3, n2, pro_val ht hs]
    split
    · exact ⟨(h.fail g 2).1, (h.fail g 2).2, rfl⟩
    · split
      · exact ⟨(h.fail g 2).1, (h.fail g 2).2, rfl⟩
      · exact ⟨h1, g1, rfl⟩
/-- a call: kind, text, bounds, error -/
abbrev Cal := Nat × Byts × Int × Int × Nat
abbrev Ouc := Tok × Byts × Int × Bool
def calR (r : RS) (c : Cal) : RS × Ouc :=
  match c.1 % 10 with
  | 0 => (nextR r, (peekR r, [], 0, false))
  | 1 => (r, (tok0, [], 0, isR r c.2.1))
  | 2 => (takeR r c.2.1, (tok0, [], 0, isR r c.2.1))
  | 3 => (if isR r c.2.1 = true then nextR r else failR r 14, (tok0, [], 0, false))
  | 4 => ((kindR r 1).1, (tok0, (kindR r 1).2, 0, false))
  | 5 => ((kindR r 3).1, (tok0, (kindR r 3).2, 0, false))
  | 6 => ((numR r).1, (tok0, (numR r).2, 0, false))
  | 7 => ((intR r c.2.2.1 c.2.2.2.1).1, (tok0, [], (intR r c.2.2.1 c.2.2.2.1).2, false))
  | 8 => (if (peekR r).1 ≠ 5 then failR r 14 else r, (tok0, [], 0, false))
  | _ => (failR r ((c.2.2.2.2 % 40 : Nat) : Int), (tok0, [], 0, false))
def mCalR (r : RS) (c : Cal) : RS × Ouc :=
  match c.1 % 10 with
  | 0 => (mNextR r, (peekR r, [], 0, false))
  | 1 => (r, (tok0, [], 0, isR r c.2.1))
  | 2 => (if isR r c.2.1 = true then mNextR r else r, (tok0, [], 0, isR r c.2.1))
  | 3 => (if isR r c.2.1 = true then mNextR r else mFailR r 14, (tok0, [], 0, false))
  | 4 => ((mKindR r 1).1, (tok0, (mKindR r 1).2, 0, false))
  | 5 => ((mKindR r 3).1, (tok0, (mKindR r 3).2, 0, false))
  | 6 => ((mNumR r).1, (tok0, (mNumR r).2, 0, false))
  | 7 => ((mIntR r c.2.2.1 c.2.2.2.1).1, (tok0, [], (mIntR r c.2.2.1 c.2.2.2.1).2, false))
  | 8 => (if (peekR r).1 ≠ 5 then mFailR r 14 else r, (tok0, [], 0, false))
  | _ => (mFailR r ((c.2.2.2.2 % 40 : Nat) : Int), (tok0, [], 0, false))
theorem SimR.is {r m : RS} (h : SimR r m) (s : Byts) : isR r s = isR m s := by unfold isR; rw [h.peek]
theorem SimR.call {r m : RS} (h : SimR r m) (g : GoodR r) (c : Cal) : SimR (calR r c).1 (mCalR m c).1 ∧ GoodR (calR r c).1 ∧ (calR r c).2 = (mCalR m c).2 := by
  unfold calR mCalR takeR
  rw [← h.is, ← h.peek]
  split
  · exact ⟨(h.next g).1, (h.next g).2, rfl⟩
  · exact ⟨h, g, rfl⟩
  · refine ⟨?_, ?_, rfl⟩
    · split
      · exact (h.next g).1
      · exact h
    · split
      · exact (h.next g).2
      · exact g
  · refine ⟨?_, ?_, rfl⟩
    · split
      · exact (h.next g).1
      · exact (h.fail g 14).1
    · split
      · exact (h.next g).2
      · exact (h.fail g 14).2
  · exact ⟨(h.kind g 1).1, (h.kind g 1).2.1, by rw [(h.kind g 1).2.2]⟩
  · exact ⟨(h.kind g 3).1, (h.kind g 3).2.1, by rw [(h.kind g 3).2.2]⟩
  · exact ⟨(h.num g).1, (h.num g).2.1, by rw [(h.num g).2.2]⟩
  · exact ⟨(h.int g _ _).1, (h.int g _ _).2.1, by rw [(h.int g _ _).2.2]⟩
  · refine ⟨?_, ?_, rfl⟩
    · split
      · exact (h.fail g 14).1
      · exact h
    · split
      · exact (h.fail g 14).2
      · exact g
  · exact ⟨(h.fail g _).1, (h.fail g _).2, rfl⟩
end Go.Proofs.YtoholjdojdmbkaaGreatDoor
