/- Parts of one proof, joined: J1, J2, J3, J4, J5, J6, J7. No condition of its own. -/
import Derived.Test.YtoholjdojdmbkaaGreatDoorXI
import Derived.Test.YtoholjdojdmbkaaGreatDoorXD
import Derived.Laws.StructEq
namespace Go.Proofs.YtoholjdojdmbkaaGreatDoor
open Go Go.RowKit Go.Dw
abbrev El := Tok × Int
/-- the tokens one by one, each with its error; fuel: the number of bytes -/
def emi : Nat → Byts → Nat × Nat → List El
  | 0, _, p => [((5, [], p.1, p.2), 0)]
  | f + 1, s, p => match s with
    | [] => [((5, [], p.1, p.2), 0)]
    | c :: r =>
      if c = 32 ∨ c = 10 then emi f r (pas1 p c)
      else if c = 35 then emi f (s.drop (runN (fun c => !decide (c = 10)) s)) (pasN p (s.take (runN (fun c => !decide (c = 10)) s)))
      else
        let t := tokF s
        if t.2.2.2 ≠ 0 then [((t.2.1, t.2.2.1, (pasN p (s.take t.1)).1, (pasN p (s.take t.1)).2), t.2.2.2)]
        else ((t.2.1, t.2.2.1, p.1, p.2), 0) :: emi f (s.drop t.1) (pasN p (s.take t.1))
/-- what Scan makes of them -/
def colF : List El → List Tok → List Tok × Nat × Nat × Int
  | [], out => (out, 0, 0, 0)
  | x :: r, out => if x.2 ≠ 0 then ([], x.1.2.2.1, x.1.2.2.2, x.2) else colF r (out ++ [x.1])
theorem col_emi : ∀ (f : Nat) (s : Byts) (p : Nat × Nat) (out : List Tok), colF (emi f s p) out = scaK f s p out
  | 0, _, p, out => rfl
  | f + 1, [], p, out => rfl
  | f + 1, c :: r, p, out => by
    have e : emi (f + 1) (c :: r) p = if c = 32 ∨ c = 10 then emi f r (pas1 p c)
      else if c = 35 then emi f ((c :: r).drop (runN (fun c => !decide (c = 10)) (c :: r))) (pasN p ((c :: r).take (runN (fun c => !decide (c = 10)) (c :: r))))
      else if (tokF (c :: r)).2.2.2 ≠ 0 then [(((tokF (c :: r)).2.1, (tokF (c :: r)).2.2.1, (pasN p ((c :: r).take (tokF (c :: r)).1)).1, (pasN p ((c :: r).take (tokF (c :: r)).1)).2), (tokF (c :: r)).2.2.2)]
        else (((tokF (c :: r)).2.1, (tokF (c :: r)).2.2.1, p.1, p.2), 0) :: emi f ((c :: r).drop (tokF (c :: r)).1) (pasN p ((c :: r).take (tokF (c :: r)).1)) := rfl
    have e2 : scaK (f + 1) (c :: r) p out = if c = 32 ∨ c = 10 then scaK f r (pas1 p c) out
      else if c = 35 then scaK f ((c :: r).drop (runN (fun c => !decide (c = 10)) (c :: r))) (pasN p ((c :: r).take (runN (fun c => !decide (c = 10)) (c :: r)))) out
      else if (tokF (c :: r)).2.2.2 ≠ 0 then ([], (pasN p ((c :: r).take (tokF (c :: r)).1)).1, (pasN p ((c :: r).take (tokF (c :: r)).1)).2, (tokF (c :: r)).2.2.2)
        else scaK f ((c :: r).drop (tokF (c :: r)).1) (pasN p ((c :: r).take (tokF (c :: r)).1)) (out ++ [((tokF (c :: r)).2.1, (tokF (c :: r)).2.2.1, p.1, p.2)]) := rfl
    rw [e, e2]
    by_cases h1 : c = 32 ∨ c = 10
    · rw [if_pos h1, if_pos h1]; exact col_emi f _ _ _
    · rw [if_neg h1, if_neg h1]
      by_cases h2 : c = 35
      · rw [if_pos h2, if_pos h2]; exact col_emi f _ _ _
      · rw [if_neg h2, if_neg h2]
        by_cases h3 : (tokF (c :: r)).2.2.2 ≠ 0
        · rw [if_pos h3, if_pos h3]
          unfold colF; rw [if_pos h3]
        · rw [if_neg h3, if_neg h3]
          unfold colF; rw [if_neg (fun h => h rfl)]; exact col_emi f _ _ _
theorem emi_blank {f k : Nat} {s : Byts} {p : Nat × Nat} (hk : k < s.length) (h : s.getD k 0 = 32 ∨ s.getD k 0 = 10) : emi (f + 1) (s.drop k) p = emi f (s.drop (k + 1)) (pasN p ((s.drop k).take 1)) := by
  rw [drop_at hk]
  show (if s.getD k 0 = 32 ∨ s.getD k 0 = 10 then emi f (s.drop (k + 1)) (pas1 p (s.getD k 0)) else _) = _
  rw [if_pos h]; rfl
theorem emi_note {f k : Nat} {s : Byts} {p : Nat × Nat} (hk : k < s.length) (h : s.getD k 0 = 35) : emi (f + 1) (s.drop k) p = emi f (s.drop (k + runN (fun c => !decide (c = 10)) (s.drop k))) (pasN p ((s.drop k).take (runN (fun c => !decide (c = 10)) (s.drop k)))) := by
  rw [← List.drop_drop, drop_at hk]
  show (if s.getD k 0 = 32 ∨ s.getD k 0 = 10 then _ else if s.getD k 0 = 35 then _ else _) = _
  rw [if_neg (by rw [h]; decide), if_pos h]
theorem emi_tok {f k : Nat} {s : Byts} {p : Nat × Nat} (hk : k < s.length) (h1 : ¬ s.getD k 0 = 32) (h2 : ¬ s.getD k 0 = 10) (h : ¬ s.getD k 0 = 35) : emi (f + 1) (s.drop k) p =
    if (tokF (s.drop k)).2.2.2 ≠ 0 then [(((tokF (s.drop k)).2.1, (tokF (s.drop k)).2.2.1, (pasN p ((s.drop k).take (tokF (s.drop k)).1)).1, (pasN p ((s.drop k).take (tokF (s.drop k)).1)).2), (tokF (s.drop k)).2.2.2)]
        else (((tokF (s.drop k)).2.1, (tokF (s.drop k)).2.2.1, p.1, p.2), 0) :: emi f (s.drop (k + (tokF (s.drop k)).1)) (pasN p ((s.drop k).take (tokF (s.drop k)).1)) := by
  rw [← List.drop_drop, drop_at hk]
  show (if s.getD k 0 = 32 ∨ s.getD k 0 = 10 then _ else if s.getD k 0 = 35 then _ else _) = _
  rw [if_neg (by simp only [h1, h2, or_self, not_false_eq_true]), if_neg h]
theorem emi_end {f : Nat} {s : Byts} {p : Nat × Nat} {k : Nat} (hk : s.length ≤ k) : emi f (s.drop k) p = [((5, [], p.1, p.2), 0)] := by
  rw [List.drop_eq_nil_of_le hk]; cases f <;> rfl
theorem quo_le : ∀ (l : Byts) (i : Nat) (out : Byts), (quoF l i out).1 ≤ i + l.length := by
  intro l
  induction hn : l.length using Nat.strongRecOn generalizing l with
  | _ n ih =>
    intro i out
    match l, hn with
    | [], _ => exact Nat.zero_le _
    | [c], hn =>
      subst hn
      unfold quoF
      split
      · exact Nat.zero_le _
      · split
        · split
          · exact Nat.zero_le _
          · exact Nat.le_refl _
        · split
          · exact Nat.le_add_right _ _
          · split
            · exact Nat.le_add_right _ _
            · exact Nat.zero_le _
    | c :: e :: r, hn =>
      unfold quoF
      simp only [List.length_cons] at hn
      split
      · exact Nat.zero_le _
      · split
        · split
          · exact Nat.zero_le _
          · show i + 1 ≤ _; omega
        · split
          · exact Nat.le_add_right _ _
          · split
            · split
              · have := ih r.length (by omega) r rfl (i + 2) (out ++ [e]); omega
              · exact Nat.le_add_right _ _
            · have := ih (r.length + 1) (by omega) (e :: r) rfl (i + 1) (out ++ [c]); omega
theorem sym_le (s : Byts) : symN s ≤ s.length := by
  unfold symN
  split
  · rename_i h
    obtain ⟨x, hx, he⟩ := List.any_eq_true.1 h
    have he := of_decide_eq_true he
    have hl : x.length = 2 := by
      simp only [twoS, List.mem_cons, List.not_mem_nil, or_false] at hx
      rcases hx with rfl | rfl | rfl | rfl <;> rfl
    rw [← he, List.length_take] at hl
    omega
  · split
    · rename_i h; omega
    · exact Nat.zero_le _
theorem num_le (s : Byts) : (numN s).1 ≤ s.length := by
  have h1 := run_le isDig s
  have h2 := run_le isDig (s.drop (runN isDig s + 1))
  rw [List.length_drop] at h2
  unfold numN
  dsimp only
  split
  · rename_i h; show runN isDig s + 1 + _ ≤ _; omega
  · exact h1
theorem tok_le (s : Byts) (h0 : 0 < s.length) : (tokF s).1 ≤ s.length := by
  unfold tokF
  dsimp only
  split
  · have := quo_le (s.drop 1) 1 []
    rw [List.length_drop] at this
    show (quoF (s.drop 1) 1 []).1 ≤ _; omega
  · split
    · split
      · exact Nat.zero_le _
      · exact run_le _ _
    · split
      · split
        · exact Nat.zero_le _
        · split
          · exact num_le s
          · exact Nat.zero_le _
      · split
        · exact Nat.zero_le _
        · exact sym_le s
def redF (s : Byts) : Nat × Byts × Int := ((tokF s).1, (tokF s).2.2.1, (tokF s).2.2.2)
theorem cls_lt (c : UInt8) : clsF c < clsL.length := by
  have e : clsL.length = 4 := rfl
  unfold clsF; rw [e]
  split
  · decide
  · split
    · decide
    · split <;> decide
theorem tok_cls (s : Byts) : ((clsL[clsF (s.getD 0 0)]'(cls_lt _)).1 : Int) = (tokF s).2.1 ∧
    ((clsF (s.getD 0 0) = 0 ∧ redF s = wordF s) ∨ (clsF (s.getD 0 0) = 1 ∧ isDig (s.getD 0 0) = true ∧ redF s = numF s) ∨ (clsF (s.getD 0 0) = 2 ∧ redF s = textF s) ∨ (clsF (s.getD 0 0) = 3 ∧ redF s = symF s)) := by
  have e : tokF s = if s.getD 0 0 = 34 then ((quoF (s.drop 1) 1 []).1, 3, (quoF (s.drop 1) 1 []).2.1, (quoF (s.drop 1) 1 []).2.2)
    else if isLow (s.getD 0 0) then (if 40 < runN isInn s then (0, 1, [], 5) else (runN isInn s, 1, s.take (runN isInn s), 0))
    else if isDig (s.getD 0 0) then (if 400 < (numN s).1 then (0, 2, [], 5) else if canN (s.take (numN s).1) (numN s).2 then ((numN s).1, 2, s.take (numN s).1, 0) else (0, 2, [], 3))
    else if symN s = 0 then (0, 4, [], 14) else (symN s, 4, s.take (symN s), 0) := rfl
  unfold redF
  have key : ∀ k (hk : k < clsL.length), clsF (s.getD 0 0) = k → (clsL[clsF (s.getD 0 0)]'(cls_lt _)).1 = clsL[k].1 := fun k hk h => by subst h; rfl
  by_cases h1 : s.getD 0 0 = 34
  · have hc : clsF (s.getD 0 0) = 2 := by rw [h1]; rfl
    rw [key 2 (by decide) hc, e, if_pos h1]
    exact ⟨rfl, .inr (.inr (.inl ⟨hc, rfl⟩))⟩
  · rw [if_neg h1] at e
    by_cases h2 : isLow (s.getD 0 0) = true
    · have hc : clsF (s.getD 0 0) = 0 := by unfold clsF; rw [if_pos h2]
      rw [key 0 (by decide) hc, e, if_pos h2]
      unfold wordF
      split <;> exact ⟨rfl, .inl ⟨hc, rfl⟩⟩
    · rw [if_neg h2] at e
      by_cases h3 : isDig (s.getD 0 0) = true
      · have hc : clsF (s.getD 0 0) = 1 := by unfold clsF; rw [if_neg h2, if_pos h3]
        rw [key 1 (by decide) hc, e, if_pos h3]
        unfold numF
        split
        · exact ⟨rfl, .inr (.inl ⟨hc, h3, rfl⟩)⟩
        · split <;> exact ⟨rfl, .inr (.inl ⟨hc, h3, rfl⟩)⟩
      · rw [if_neg h3] at e
        have hc : clsF (s.getD 0 0) = 3 := by unfold clsF; rw [if_neg h2, if_neg h3, if_neg h1]
        rw [key 3 (by decide) hc, e]
        unfold symF
        split <;> exact ⟨rfl, .inr (.inr (.inr ⟨hc, rfl⟩))⟩
theorem readTok_spec (s : Byts) (h0 : 0 < s.length) (hs : s.length < 400000) (w : World) (hT : TabS (Hp.whole w)) :
    CallsE Tryz.prog (clsL[clsF (s.getD 0 0)]'(cls_lt _)).2.2 #[.string (bs s)] w (Ret w fun v cs => cs = [] ∧ v = trip (redF s)) := by
  have key : ∀ k (hk : k < clsL.length), clsF (s.getD 0 0) = k → (clsL[clsF (s.getD 0 0)]'(cls_lt _)).2.2 = clsL[k].2.2 := fun k hk h => by subst h; rfl
  obtain ⟨_, h⟩ := tok_cls s
  rcases h with ⟨hc, hr⟩ | ⟨hc, hd, hr⟩ | ⟨hc, hr⟩ | ⟨hc, hr⟩ <;> rw [key _ (by decide) hc, hr]
  · have := word_spec s (by omega) w
    refine ⟨this.1, this.2.mono fun e w' he => ?_⟩
    obtain ⟨v, cs, rfl, h1, h2, h3⟩ := he
    exact ⟨v, cs, rfl, h1, h3, h2⟩
  · exact number_spec s (by omega) h0 hd w
  · exact text_spec s (by omega) w
  · exact symbol_spec s w hT
end Go.Proofs.YtoholjdojdmbkaaGreatDoor
namespace Go.Dw
open Go Go.RowKit
theorem Ok.same {w0 w : World} {s : List Ch} {i : Nat} {c d : Ch} (hi : sget s i = some c) (hd : d.h = c.h) (hok : Ok w0 s w) : Ok w0 (sset s i d) w := by
  refine ⟨hok.os, hok.tape, hok.output, hok.size, hok.drawn, fun k x hx => ?_, fun j k x y hjk h1 h2 => ?_⟩
  · rw [sget_put hi] at hx
    split at hx
    · cases hx; rw [hd]; exact hok.mem i c hi
    · exact hok.mem k x hx
  · rw [sget_put hi] at h1 h2
    split at h1 <;> split at h2
    · omega
    · cases h1; rw [hd]; exact hok.disj _ _ _ _ (by omega) hi h2
    · cases h2; rw [hd]; exact hok.disj _ _ _ _ (by omega) h1 hi
    · exact hok.disj _ _ _ _ hjk h1 h2
end Go.Dw
namespace Go.Proofs.YtoholjdojdmbkaaGreatDoor
open Go Go.RowKit Go.Dw
def encT (t : Tok) : Value := .agg #[.int .i64 t.1, .string (bs t.2.1), .int .i64 t.2.2.1, .int .i64 t.2.2.2]
def encE (x : El) : List Value := [encT x.1, .int .i64 x.2]
/-- what the iterator reads -/
structure RdT (b1 b2 : Nat) (s : Byts) (a : Option Addr) (n c : Nat) (h : Hp) : Prop where
  hs : h.cell? ⟨b1, 0, none⟩ = some (.string (bs s))
  hc : h.cell? ⟨b2, 0, none⟩ = some (.slice a n c)
  L : Sl (encF fC) 3 h a n c clsL
  T : TabS h
theorem RdT.mono {b1 b2 : Nat} {s : Byts} {a : Option Addr} {n c : Nat} {h k : Hp} (r : RdT b1 b2 s a n c h) (l : h.le k) : RdT b1 b2 s a n c k := ⟨l.cell r.hs, l.cell r.hc, r.L.mono (encF_mono _) l, r.T.mono l⟩
theorem PlI.at {h : Hp} {b k l c : Nat} {s : Byts} (hP : PlI h b s k l c) : h.cell? ⟨b, 1, none⟩ = some (.int .i64 k) := by
  unfold PlI plcs at hP
  obtain ⟨b', arr, e, _, _, h4⟩ := hP.cell (j := 1) (v := .int .i64 k) rfl
  cases e; exact h4
theorem PlI.new (b : Nat) (s : Byts) : PlI (Ch.box b (plcs s 0 1 1) 115).h b s 0 1 1 := by
  have := OwnO.ofBox (f := fun _ : Unit => plcs s 0 1 1) (sz := 4) (T := 115) (b := b) (fun _ => rfl) [()] rfl rfl (by decide)
  exact this.2
theorem note_spec (c : UInt8) (w : World) : CallsE Tryz.prog 80 #[.int .u8 c.toNat] w (RetV w (.bool (!decide (c = 10)))) := by
  refine enter (X := cx 5) (cxg _) (args := [.int .u8 c.toNat]) [.tmp 2] Tryz.func80 rfl rfl rfl rfl rfl ?_
  have := byte_eq c 10
  exact ⟨[], ⟨by rw [← this]; exact congrArg Value.bool decide_not, rfl⟩, fun w' h => h.pick [0] rfl rfl⟩
set_option maxRecDepth 20000 in
set_option maxHeartbeats 1000000 in
theorem tokens1_spec {b1 b2 : Nat} (s : Byts) (hs : s.length < 100000) (a : Option Addr) (n c : Nat) :
    IterB Tryz.prog 76 [.pointer (some ⟨b1, 0, none⟩), .pointer (some ⟨b2, 0, none⟩)] encE (emi (s.length + 1) s (1, 1)) (RdT b1 b2 s a n c) True := by
  intro w h l J Jx hin hRd hJ0 hY hend
  clear hend
  have hn := hRd.L.len
  have hcl : clsL.length = 4 := rfl
  obtain ⟨xs, hxs⟩ : ∃ xs, xs = emi (s.length + 1) s (1, 1) := ⟨_, rfl⟩
  rw [← hxs] at hY ⊢
  obtain ⟨c0, hc0⟩ : ∃ c0, c0 = (Hp.whole w).minus h := ⟨_, rfl⟩
  refine enterYM (X := cx 108) (cxg _) (args := [.func (.yield l) #[] #[], .pointer (some ⟨b1, 0, none⟩), .pointer (some ⟨b2, 0, none⟩)]) hin [] Tryz.func76 rfl rfl rfl rfl rfl ?_
  rw [← hc0] at hRd hY ⊢
  refine ld1 (cxg _) (i := 0) rfl hRd.hs rfl ?_
  intro b13
  intro b4
  refine NeedL.mk ((Nat × Nat × Nat × Nat) × List El × Hp × Hp) (fun g => [(0, .v (.func (.yield l) #[] #[])), (1, .v (.pointer (some ⟨b1, 0, none⟩))), (2, .v (.pointer (some ⟨b2, 0, none⟩))), (4, .bx 3 0)])
    (fun g => [.hp c0, .hp g.2.2.2, .hp g.2.2.1, .box b4 [.pointer (some ⟨b13, 0, none⟩)] 113])
    (fun g => (g.1.2.1 ≤ s.length ∧ s.length - g.1.2.1 < g.1.1 ∧ g.1.2.2.1 ≤ 2 * g.1.2.1 + 1 ∧ g.1.2.2.2 ≤ 2 * g.1.2.1 + 1) ∧ xs = g.2.1 ++ emi g.1.1 (s.drop g.1.2.1) (g.1.2.2.1, g.1.2.2.2) ∧ PlI g.2.2.1 b13 s g.1.2.1 g.1.2.2.1 g.1.2.2.2 ∧ J g.2.1 g.2.2.2) (fun g => s.length - g.1.2.1)
    ((s.length + 1, 0, 1, 1), [], (Ch.box b13 (plcs s 0 1 1) 115).h, h)
    ⟨⟨Nat.zero_le _, by dsimp only; omega, by dsimp only; omega, by dsimp only; omega⟩, by dsimp only; rw [hxs]; rfl, PlI.new b13 s, hJ0⟩ (Ent.mk (fun _ _ h => Ok.same (i := 2) (c := .box b13 (plcs s 0 1 1) 115) (d := .hp (Ch.box b13 (plcs s 0 1 1) 115).h) rfl rfl h) rfl rfl) ?_
  rintro ⟨⟨f, k, ln, co⟩, pre, hP, h1⟩ ⟨⟨hk, hf, hln, hco⟩, hx, hpl, hJ⟩
  dsimp only at *
  obtain ⟨f', rfl⟩ : ∃ f', f = f' + 1 := ⟨f - 1, by omega⟩
  have hpl0 := hpl
  unfold PlI plcs at hpl0
  have hpass : ∀ (w' : World) (m : Nat), hP.In w' → k + m ≤ s.length → CallsE Tryz.prog 77 #[.pointer (some ⟨b13, 0, none⟩), .int .i64 m] w' (RetM w' hP fun _ h' cs => cs = [] ∧ PlI h' b13 s (k + m) (pasN (ln, co) ((s.drop k).take m)).1 (pasN (ln, co) ((s.drop k).take m)).2) := fun w' m hi hm => pass_spec w' hi hpl hm (by omega) (by omega) (by omega)
  have hbnd : ∀ m, 0 < m → k + m ≤ s.length → (pasN (ln, co) ((s.drop k).take m)).1 ≤ 2 * (k + m) + 1 ∧ (pasN (ln, co) ((s.drop k).take m)).2 ≤ 2 * (k + m) + 1 := fun m h0 hm => by
    have := pasN_le (ln, co) ((s.drop k).take m)
    rw [List.length_take, List.length_drop] at this
    dsimp only at this
    omega
  refine NeedD.by_order (cxg _) (.take 0 <| .take 1 <| .take 2 <| .take 3 <| .take 4 <| .take 5 <| .take 6 <| .done) (by kernel_rfl) ?_
  refine old1 (j := 1) (cxg _) (i := 2) rfl hpl0 rfl rfl ?_
  refine ld1 (cxg _) (i := 0) rfl hRd.hs rfl ?_
  have hz := bs_size s
  refine bsplitd (fun h2 => ?_) (fun h2 => ?_)
  · have hks : k < s.length := by omega
    refine NeedD.by_order (cxg _) (.take 0 <| .take 1 <| .take 2 <| .take 3 <| .take 4 <| .take 5 <| .take 6 <| .done) (by kernel_rfl) ?_
    refine ld1 (cxg _) (i := 0) rfl hRd.hs rfl ?_
    refine old1 (j := 1) (cxg _) (i := 2) rfl hpl0 rfl rfl ?_
    refine qIdxL (cxg _) rfl rfl k rfl hks ?_
    generalize hd : s.getD k 0 = d at *
    have hb1 := hbnd 1 (by decide) (by omega)
    refine bsplitd (fun h3 => ?_) (fun h3 => ?_)
    · refine bsplitd (fun _ => ?_) (fun h4 => absurd h3 h4)
      have hd1 : d = 32 := byte_is rfl h3
      have he := emi_blank (f := f') (p := (ln, co)) hks (.inl (hd.trans hd1))
      refine callM (i := 2) rfl (fun w' hm => hpass w' 1 (hm 2 _ rfl) (by omega)) ?_
      rintro _ hP2 _ ⟨rfl, hQ⟩
      exact ⟨((f', k + 1, _, _), pre, hP2, h1), ⟨⟨by dsimp only; omega, by dsimp only; omega, hb1.1, hb1.2⟩, hx.trans (congrArg (pre ++ ·) he), hQ, hJ⟩, by dsimp only; omega, Ent.mk (fun _ _ h => h) rfl rfl⟩
    · refine bsplitd (fun h4 => ?_) (fun h4 => ?_)
      · have hd1 : d = 10 := byte_is rfl h4
        have he := emi_blank (f := f') (p := (ln, co)) hks (.inr (hd.trans hd1))
        refine callM (i := 2) rfl (fun w' hm => hpass w' 1 (hm 2 _ rfl) (by omega)) ?_
        rintro _ hP2 _ ⟨rfl, hQ⟩
        exact ⟨((f', k + 1, _, _), pre, hP2, h1), ⟨⟨by dsimp only; omega, by dsimp only; omega, hb1.1, hb1.2⟩, hx.trans (congrArg (pre ++ ·) he), hQ, hJ⟩, by dsimp only; omega, Ent.mk (fun _ _ h => h) rfl rfl⟩
      · refine bsplitd (fun h5 => ?_) (fun h5 => ?_)
        · have hd1 : d = 35 := byte_is rfl h5
          have he := emi_note (f := f') (p := (ln, co)) hks (hd.trans hd1)
          have hrl := run_le (fun c => !decide (c = 10)) (s.drop k)
          have hr0 := (run_pos (fun c => !decide (c = 10)) (s.drop k)).2 ⟨by rw [List.length_drop]; omega, by rw [getD_drop, Nat.add_zero, hd, hd1]; rfl⟩
          rw [List.length_drop] at hrl
          refine NeedD.by_order0 (cxg _) (.take 0 <| .take 1 <| .run 2 <| .run 3 <| .run 4 <| .done) (by kernel_rfl) (subL_blank _ 2) ?_
          refine callV _ (fun w' hm => rest_spec w' (hm 2 _ rfl) hpl hk) ?_
          refine ⟨(by repeat first | exact trivial | refine ⟨.inl rfl, ?_⟩ | refine ⟨.inr rfl, ?_⟩), ?_⟩
          refine callV _ (fun w' hm => run_spec 80 (fun c => !decide (c = 10)) (s.drop k) (by rw [List.length_drop]; omega) w' fun w' c => note_spec c w') ?_
          refine ⟨(by repeat first | exact trivial | refine ⟨.inl rfl, ?_⟩ | refine ⟨.inr rfl, ?_⟩), ?_⟩
          have hb2 := hbnd _ hr0 (by omega)
          refine callM (i := 2) rfl (fun w' hm => hpass w' (runN (fun c => !decide (c = 10)) (s.drop k)) (hm 2 _ rfl) (by omega)) ?_
          rintro _ hP2 _ ⟨rfl, hQ⟩
          refine ⟨(by repeat first | exact trivial | refine ⟨.inl rfl, ?_⟩ | refine ⟨.inr rfl, ?_⟩), ?_⟩
          exact ⟨((f', k + runN (fun c => !decide (c = 10)) (s.drop k), _, _), pre, hP2, h1), ⟨⟨by dsimp only; omega, by dsimp only; omega, hb2.1, hb2.2⟩, hx.trans (congrArg (pre ++ ·) he), hQ, hJ⟩, by dsimp only; omega, Ent.mk (fun _ _ h => h) rfl rfl⟩
        · refine ld1 (cxg _) (i := 0) rfl hRd.hc rfl ?_
          have hd' : (s.drop k).getD 0 0 = s.getD k 0 := by rw [getD_drop, Nat.add_zero]
          obtain ⟨q, hq⟩ : ∃ q, q = clsF (s.getD k 0) := ⟨_, rfl⟩
          have hql : q < clsL.length := by rw [hq]; exact cls_lt _
          have hu0 : 0 < (s.drop k).length := by rw [List.length_drop]; omega
          obtain ⟨nn, kd, tx, ee, htk⟩ : ∃ nn kd tx ee, tokF (s.drop k) = (nn, kd, tx, ee) := ⟨_, _, _, _, rfl⟩
          have hread : ∀ w', TabS (Hp.whole w') → CallsE Tryz.prog clsL[q].2.2 #[.string (bs (s.drop k))] w' (Ret w' fun v cs => cs = [] ∧ v = trip (nn, tx, ee)) := fun w' hT => by
            have h1 := readTok_spec (s.drop k) hu0 (by rw [List.length_drop]; omega) w' hT
            unfold redF at h1
            rw [htk] at h1
            have e : ∀ z (hz : z < clsL.length), z = q → clsL[z].2.2 = clsL[q].2.2 := fun z _ h => by subst h; rfl
            rw [e _ (cls_lt _) (by rw [hd', hq])] at h1
            exact h1
          have hkd : ((clsL[q].1 : Nat) : Int) = kd := by
            have h1 := (tok_cls (s.drop k)).1
            rw [htk] at h1
            have e : ∀ z (hz : z < clsL.length), z = q → clsL[z].1 = clsL[q].1 := fun z _ h => by subst h; rfl
            rw [e _ (cls_lt _) (by rw [hd', hq])] at h1
            exact h1
          have he := emi_tok (f := f') (p := (ln, co)) hks (fun e => h3 (by rw [← hd, e]; rfl)) (fun e => h4 (by rw [← hd, e]; rfl)) (fun e => h5 (by rw [← hd, e]; rfl))
          have hnl := tok_le (s.drop k) hu0
          have hn0 := tok_pos hu0
          rw [htk] at he hnl hn0
          rw [List.length_drop] at hnl
          dsimp only at he hnl hn0
          clear htk
          subst kd
          refine callV (.int .i64 q) (fun w' hm => ?_) ?_
          · have := choose_spec w' ⟨(hm 0 _ rfl).whole.cell hRd.hs, box_cell hm (i := 3) rfl (j := 0) rfl, (hm 2 _ rfl).whole.cell hpl.at⟩ hks (hRd.L.mono (encF_mono _) (hm 0 _ rfl).whole)
            rw [← hq] at this
            exact this
          refine NeedD.by_order (cxg _) (.take 0 <| .take 1 <| .take 2 <| .take 3 <| .take 4 <| .take 5 <| .run 6 <| .run 7 <| .take 8 <| .take 9 <| .take 10 <| .take 11 <| .take 12 <| .take 13 <| .take 14 <| .done) (by kernel_rfl) ?_
          refine ld1 (cxg _) (i := 0) rfl hRd.hc rfl ?_
          refine idx (cxg _) (e := 110) rfl hRd.L q rfl hql (fun b9 o9 cs hcs hR hcell => ?_)
          subst hR
          refine ld1 (cxg _) (i := 0) rfl (hcell 2 _ rfl) rfl ?_
          refine callV _ (fun w' hm => rest_spec w' (hm 2 _ rfl) hpl hk) ?_
          refine ⟨(by repeat first | exact trivial | refine ⟨.inl rfl, ?_⟩ | refine ⟨.inr rfl, ?_⟩), ?_⟩
          refine call (fun w' hm => hread w' (hRd.T.mono (hm 0 _ rfl).whole)) ?_
          rintro _ _ ⟨rfl, rfl⟩
          refine ⟨(by repeat first | exact trivial | refine ⟨.inl rfl, ?_⟩ | refine ⟨.inr rfl, ?_⟩), ?_⟩
          refine NeedD.by_order (cxg _) (.take 0 <| .take 1 <| .take 2 <| .take 3 <| .take 4 <| .take 5 <| .take 6 <| .take 7 <| .take 8 <| .take 9 <| .take 10 <| .take 11 <| .take 12 <| .take 13 <| .take 14 <| .run 15 <| .run 16 <| .done) (by kernel_rfl) ?_
          refine ld1 (cxg _) (i := 0) rfl hRd.hc rfl ?_
          refine idx (cxg _) (e := 110) rfl hRd.L q rfl hql (fun b9 o9 cs hcs hR hcell => ?_)
          subst hR
          refine ld1 (cxg _) (i := 0) rfl (hcell 0 _ rfl) rfl ?_
          refine old1 (j := 2) (cxg _) (i := 2) rfl hpl0 rfl rfl ?_
          refine old1 (j := 3) (cxg _) (i := 2) rfl hpl0 rfl rfl ?_
          intro b10
          refine ⟨(by repeat first | exact trivial | refine ⟨.inl rfl, ?_⟩ | refine ⟨.inr rfl, ?_⟩), ?_⟩
          refine bsplitd (fun h8 => ?_) (fun h8 => ?_)
          · have h8' : ee ≠ 0 := h8
            rw [if_pos h8'] at he
            have hx2 := hx.trans (congrArg (pre ++ ·) he)
            refine callM (i := 2) rfl (fun w' hm => hpass w' nn (hm 2 _ rfl) (by omega)) ?_
            rintro _ hP2 _ ⟨rfl, hQ⟩
            generalize pasN (ln, co) ((s.drop k).take nn) = pp at *
            have hQ0 := hQ
            unfold PlI plcs at hQ0
            refine NeedD.by_order0 (cxg _) (.take 0 <| .take 1 <| .take 2 <| .take 3 <| .take 4 <| .take 5 <| .take 6 <| .take 7 <| .run 8 <| .run 9 <| .run 10 <| .run 11 <| .done) (by kernel_rfl) (subL_blank _ 4) ?_
            refine old1 (j := 2) (cxg _) (i := 2) rfl hQ0 rfl rfl ?_
            refine old1 (j := 3) (cxg _) (i := 2) rfl hQ0 rfl rfl ?_
            refine ⟨(by repeat first | exact trivial | refine ⟨.inl rfl, ?_⟩ | refine ⟨.inr rfl, ?_⟩), ?_⟩
            refine ⟨(by repeat first | exact trivial | refine ⟨.inl rfl, ?_⟩ | refine ⟨.inr rfl, ?_⟩), ?_⟩
            refine yieldQ (c := c0) (h1 := h1) rfl rfl (R := fun v h2 => (v = .bool true ∧ J xs h2) ∨ (v = .bool false ∧ Jx xs h2)) (fun w1 hi1 hc1 hd1 => by
              have := hY w1 h1 pre _ [] hx2 hJ hi1 hc1 hd1
              rw [← hx2] at this
              exact this) ?_
            rintro v h2 (⟨rfl, hJ2⟩ | ⟨rfl, hJ2⟩)
            · refine bsplitd (fun _ => ?_) (fun h9 => absurd h8 h9)
              exact ⟨h2, [], ⟨rfl, .inl hJ2⟩, fun w' h => h.pick [0, 1] rfl rfl⟩
            · exact ⟨h2, [], ⟨rfl, .inr ⟨xs, List.prefix_refl _, hJ2⟩⟩, fun w' h => h.pick [0, 1] rfl rfl⟩
          · have h8' : ¬ ee ≠ 0 := h8
            rw [if_neg h8'] at he
            have he0 : ee = 0 := Classical.byContradiction h8'
            subst he0
            have hx2 := hx.trans (congrArg (pre ++ ·) he)
            have hn1 := hn0 rfl
            have hb2 := hbnd nn hn1 (by omega)
            refine yieldQ (c := c0) (h1 := h1) rfl rfl (R := fun v h2 => (v = .bool true ∧ J (pre ++ ([((((clsL[q].1 : Nat) : Int), tx, ln, co), (0 : Int))] : List El)) h2) ∨ (v = .bool false ∧ Jx (pre ++ ([((((clsL[q].1 : Nat) : Int), tx, ln, co), (0 : Int))] : List El)) h2)) (fun w1 hi1 hc1 hd1 => hY w1 h1 pre _ _ hx2 hJ hi1 hc1 hd1) ?_
            rintro v h2 (⟨rfl, hJ2⟩ | ⟨rfl, hJ2⟩)
            · refine callM (i := 2) rfl (fun w' hm => hpass w' nn (hm 2 _ rfl) (by omega)) ?_
              rintro _ hP2 _ ⟨rfl, hQ⟩
              exact ⟨((f', k + nn, _, _), pre ++ ([((((clsL[q].1 : Nat) : Int), tx, ln, co), (0 : Int))] : List El), hP2, h2), ⟨⟨by dsimp only; omega, by dsimp only; omega, hb2.1, hb2.2⟩, hx2.trans (by rw [List.append_assoc]; rfl), hQ, hJ2⟩, by dsimp only; omega, Ent.mk (fun _ _ h => h.pick [0, 1, 2, 3] rfl rfl) rfl rfl⟩
            · exact ⟨h2, [], ⟨rfl, .inr ⟨pre ++ ([((((clsL[q].1 : Nat) : Int), tx, ln, co), (0 : Int))] : List El), ⟨_, by rw [hx2, List.append_assoc]; rfl⟩, hJ2⟩⟩, fun w' h => h.pick [0, 1] rfl rfl⟩
  · refine NeedDI.by_order0 (cxg _) (.take 0 <| .take 1 <| .take 2 <| .take 3 <| .take 4 <| .take 5 <| .take 6 <| .take 7 <| .take 8 <| .take 9 <| .run 10 <| .done) (by kernel_rfl) (subL_blank _ 1) ?_
    refine old1 (j := 2) (cxg _) (i := 2) rfl hpl0 rfl rfl ?_
    refine old1 (j := 3) (cxg _) (i := 2) rfl hpl0 rfl rfl ?_
    have he := emi_end (f := f' + 1) (p := (ln, co)) (s := s) (k := k) (by omega)
    have hx2 := hx.trans (congrArg (pre ++ ·) he)
    refine yieldQ (c := c0) (h1 := h1) rfl rfl (R := fun v h2 => (v = .bool true ∧ J xs h2) ∨ (v = .bool false ∧ Jx xs h2)) (fun w1 hi1 hc1 hd1 => by
      have := hY w1 h1 pre _ [] hx2 hJ hi1 hc1 hd1
      rw [← hx2] at this
      exact this) ?_
    rintro v h2 (⟨rfl, hJ2⟩ | ⟨rfl, hJ2⟩)
    · refine ⟨(by repeat first | exact trivial | refine ⟨.inl rfl, ?_⟩ | refine ⟨.inr rfl, ?_⟩), ?_⟩
      exact ⟨h2, [], ⟨rfl, .inl hJ2⟩, fun w' h => h.pick [0, 1] rfl rfl⟩
    · refine ⟨(by repeat first | exact trivial | refine ⟨.inl rfl, ?_⟩ | refine ⟨.inr rfl, ?_⟩), ?_⟩
      exact ⟨h2, [], ⟨rfl, .inr ⟨xs, List.prefix_refl _, hJ2⟩⟩, fun w' h => h.pick [0, 1] rfl rfl⟩
end Go.Proofs.YtoholjdojdmbkaaGreatDoor
namespace Go.Proofs.YtoholjdojdmbkaaGreatDoor
open Go Go.RowKit Go.Dw
def fT (t : Tok) : List Value := [.int .i64 t.1, .string (bs t.2.1), .int .i64 t.2.2.1, .int .i64 t.2.2.2]
theorem tokens_spec (s : Byts) (w : World) : CallsE Tryz.prog 35 #[.string (bs s)] w (Ret w fun v cs => ∃ b1 b2 b3, v = .func (.func 76) #[] #[.pointer (some ⟨b1, 0, none⟩), .pointer (some ⟨b2, 0, none⟩)] ∧
    cs = [.box b1 [.string (bs s)] 9, .box b3 (clsL.flatMap fC) 110, .box b2 [.slice (some ⟨b3, 0, none⟩) 4 4] 111]) := by
  refine enter (X := cx 10) (cxg _) (args := [.string (bs s)]) [.tmp 2] Tryz.func35 rfl rfl rfl rfl rfl ?_
  intro b1
  intro b8
  intro b3
  exact ⟨_, ⟨b1, b3, b8, rfl, rfl⟩, fun w' h => h.pick [0, 1, 2, 3] rfl rfl⟩
theorem col_ok : ∀ (pre post : List El) (out : List Tok), (∀ x ∈ pre, x.2 = 0) → colF (pre ++ post) out = colF post (out ++ pre.map Prod.fst)
  | [], post, out, _ => by simp
  | x :: pre, post, out, h => by
    have h0 := h x (by simp)
    rw [List.cons_append, colF, if_neg (by rw [h0]; decide), col_ok pre post _ fun y hy => h y (by simp [hy])]
    simp
theorem col_bad {pre : List El} {x : El} (h : ∀ y ∈ pre, y.2 = 0) (hx : x.2 ≠ 0) (post : List El) : colF ((pre ++ [x]) ++ post) [] = ([], x.1.2.2.1, x.1.2.2.2, x.2) := by
  rw [List.append_assoc, col_ok pre _ _ h, List.singleton_append, colF, if_pos hx]
theorem emi_len : ∀ (f : Nat) (s : Byts) (p : Nat × Nat), (emi f s p).length ≤ f + 1
  | 0, _, p => Nat.le_refl _
  | f + 1, [], p => by show 1 ≤ f + 1 + 1; omega
  | f + 1, c :: r, p => by
    have e : emi (f + 1) (c :: r) p = if c = 32 ∨ c = 10 then emi f r (pas1 p c)
      else if c = 35 then emi f ((c :: r).drop (runN (fun c => !decide (c = 10)) (c :: r))) (pasN p ((c :: r).take (runN (fun c => !decide (c = 10)) (c :: r))))
      else if (tokF (c :: r)).2.2.2 ≠ 0 then [(((tokF (c :: r)).2.1, (tokF (c :: r)).2.2.1, (pasN p ((c :: r).take (tokF (c :: r)).1)).1, (pasN p ((c :: r).take (tokF (c :: r)).1)).2), (tokF (c :: r)).2.2.2)]
        else (((tokF (c :: r)).2.1, (tokF (c :: r)).2.2.1, p.1, p.2), 0) :: emi f ((c :: r).drop (tokF (c :: r)).1) (pasN p ((c :: r).take (tokF (c :: r)).1)) := rfl
    rw [e]
    split
    · have := emi_len f r (pas1 p c); omega
    · split
      · have := emi_len f ((c :: r).drop (runN (fun c => !decide (c = 10)) (c :: r))) (pasN p ((c :: r).take (runN (fun c => !decide (c = 10)) (c :: r)))); omega
      · split
        · show 1 ≤ f + 1 + 1; omega
        · have := emi_len f ((c :: r).drop (tokF (c :: r)).1) (pasN p ((c :: r).take (tokF (c :: r)).1))
          rw [List.length_cons]; omega
set_option maxRecDepth 20000 in
theorem Scan_spec (s : Byts) (w : World) (hT : TabS (Hp.whole w)) : CallsE Tryz.prog 14 #[.string (bs s)] w (Ret w fun v cs => ∃ o : Dw.Os, v = .tuple #[o.v, .int .i64 (scaF s).2.1, .int .i64 (scaF s).2.2.1, .int .i64 (scaF s).2.2.2] ∧ cs = [.hp o.h] ∧ OwnO fT 32 4 o (scaF s).1) := by
  have hz := bs_size s
  refine enterY (X := cx 27) (cxg _) (args := [.string (bs s)]) [.cell 2 26, .cell 3 3, .cell 4 3, .cell 5 27] Tryz.func14 rfl rfl rfl rfl rfl ?_
  intro b2 b3 b4 b5
  refine bsplitd (fun h1 => ?_) (fun h1 => ?_)
  · have e : scaF s = ([], 1, 1, 5) := by unfold scaF; rw [if_pos (by omega)]
    rw [e]
    exact ⟨[.hp Hp.emp], ⟨Os.nil, rfl, rfl, OwnO.nil _ _ _⟩, fun w' h => Ok.emp (s := [.hp (Hp.whole w)]) (h.pick [0] rfl rfl)⟩
  have hsl : s.length ≤ 65536 := by omega
  have e : scaF s = colF (emi (s.length + 1) s (1, 1)) [] := by unfold scaF; rw [if_neg (by omega), col_emi]
  rw [e]
  have hxl := emi_len (s.length + 1) s (1, 1)
  refine call (fun w' hm => tokens_spec s w') ?_
  rintro _ _ ⟨b11, b12, b13, rfl, rfl⟩
  refine NeedRF.sat fun hsat => ?_
  obtain ⟨l1, hl1⟩ : ∃ l1 : List Ch, l1 = [.hp (Hp.whole w), .box b11 [.string (bs s)] 9, .box b13 (clsL.flatMap fC) 110, .box b12 [.slice (some ⟨b13, 0, none⟩) 4 4] 111] := ⟨_, rfl⟩
  have hdj : DjL l1 := by rw [hl1]; exact hsat.djL [0, 5, 6, 7] rfl rfl
  have le0 : (Hp.whole w).le (joinL l1) := joinL_le (i := 0) (d := .hp (Hp.whole w)) hdj (by rw [hl1]; rfl)
  have le1 := joinL_le (i := 1) (d := .box b11 [.string (bs s)] 9) hdj (by rw [hl1]; rfl)
  have le2 := joinL_le (i := 2) (d := .box b13 (clsL.flatMap fC) 110) hdj (by rw [hl1]; rfl)
  have le3 := joinL_le (i := 3) (d := .box b12 [.slice (some ⟨b13, 0, none⟩) 4 4] 111) hdj (by rw [hl1]; rfl)
  have hcl : Sl (encF fC) 3 (Ch.box b13 (clsL.flatMap fC) 110).h (some ⟨b13, 0, none⟩) 4 4 clsL := OwnO.sl (f := fC) (fun _ => rfl) (by decide) (OwnO.ofBox (f := fC) (sz := 3) (T := 110) (b := b13) (fun _ => rfl) clsL rfl rfl (by decide))
  obtain ⟨xs, hxs⟩ : ∃ xs, xs = emi (s.length + 1) s (1, 1) := ⟨_, rfl⟩
  have hit := tokens1_spec (b1 := b11) (b2 := b12) s (by omega) (some ⟨b13, 0, none⟩) 4 4
  rw [← hxs] at hit hxl ⊢
  refine rangeFB (cxg _) (ps := [13, 14]) rfl hit (fun _ => rfl) (by decide) (fun _ _ h l => h.mono l)
    (joinL l1) [(2, .bx 2 0), (3, .bx 3 0), (4, .bx 4 0), (5, .bx 5 0)] (Dw.Os × Int × Int × Int) (fun g => [.box b2 [g.1.v] 26, .box b3 [.int .i64 g.2.1] 3, .box b4 [.int .i64 g.2.2.1] 3, .box b5 [.int .i64 g.2.2.2] 27, .hp g.1.h])
    (fun g pre => g.2 = (0, 0, 0) ∧ OwnO fT 32 4 g.1 (pre.map Prod.fst) ∧ ∀ x ∈ pre, x.2 = 0) (fun e g pre => e = .ret ∧ OwnO fT 32 4 g.1 [] ∧ ∀ post, colF (pre ++ post) [] = ([], g.2.1.toNat, g.2.2.1.toNat, g.2.2.2) ∧ 0 ≤ g.2.1 ∧ 0 ≤ g.2.2.1) (fun _ => True)
    ⟨le1.cell (by simp [Ch.h, Hp.cell?, Hp.one]), le3.cell (by simp [Ch.h, Hp.cell?, Hp.one]), hcl.mono (encF_mono _) le2, hT.mono le0⟩ trivial (fun _ _ _ _ => trivial) (Os.nil, 0, 0, 0) ⟨rfl, OwnO.nil _ _ _, by simp⟩
    (fun hc => absurd trivial hc)
    (fun w0 w h => by rw [hl1]; exact Ok.joinP _ _ (Ok.pick [0, 5, 6, 7, 1, 2, 3, 4, 8] rfl rfl h.emp)) rfl rfl (fun _ => rfl) ?_ ?_ ?_
  · rintro ⟨g, z1, z2, z3⟩ pre x post c1 hl hx ⟨hz, hR, hall⟩ _
    dsimp only at hz hR
    cases hz
    have hpl : (pre.map Prod.fst).length + 1 ≤ 70000 := by
      have := congrArg List.length hx
      rw [List.length_append, List.length_cons] at this
      rw [List.length_map]; omega
    intro b6
    refine ⟨[(2, .bx 2 0), (3, .bx 3 0), (4, .bx 4 0), (5, .bx 5 0), (6, .bx 7 0), (7, .v (.int .i64 x.2))], [.box b2 [g.v] 26, .box b3 [.int .i64 0] 3, .box b4 [.int .i64 0] 3, .box b5 [.int .i64 0] 27, .hp g.h, .box b6 (fT x.1) 32], Ent.mk (fun _ _ h => h) rfl rfl, fun hl' => ?_⟩
    refine bsplitd (fun hb => ?_) (fun hb => ?_)
    · refine NeedDI.by_order0 (cxg _) (.take 0 <| .take 1 <| .take 2 <| .take 3 <| .take 4 <| .run 5 <| .run 6 <| .run 7 <| .run 8 <| .done) (by kernel_rfl) (s0 := [.hp Hp.emp, .hp Hp.emp, .hp Hp.emp, .hp Hp.emp, .hp Hp.emp, .hp Hp.emp, .hp Hp.emp, .box b6 (fT x.1) 32]) ((by repeat first | exact trivial | refine ⟨.inl rfl, ?_⟩ | refine ⟨.inr rfl, ?_⟩)) ?_
      refine ⟨(by repeat first | exact trivial | refine ⟨.inl rfl, ?_⟩ | refine ⟨.inr rfl, ?_⟩), ?_⟩
      refine ⟨(by repeat first | exact trivial | refine ⟨.inl rfl, ?_⟩ | refine ⟨.inr rfl, ?_⟩), ?_⟩
      refine ⟨(by repeat first | exact trivial | refine ⟨.inl rfl, ?_⟩ | refine ⟨.inr rfl, ?_⟩), ?_⟩
      refine ⟨(⟨none, 0, 0, g.h⟩, (x.1.2.2.1 : Nat), (x.1.2.2.2 : Nat), x.2), ⟨rfl, OwnL.nil _ _ _ _, fun post => ⟨?_, Int.natCast_nonneg _, Int.natCast_nonneg _⟩⟩, fun _ _ h => h.pick [0, 1, 2, 3, 4, 5, 6] rfl rfl⟩
      exact col_bad hall hb post
    · have hx0 : x.2 = 0 := Classical.byContradiction hb
      intro b8
      refine appO (f := fT) (cxg _) (e := 32) rfl (i := 6) rfl hR (j := 8) x.1 rfl rfl rfl rfl (by omega) (fun o' ho' => ?_)
      refine ⟨(o', 0, 0, 0), ⟨rfl, ?_, ?_⟩, fun _ _ h => h.pick [0, 1, 2, 3, 4, 5, 6] rfl rfl⟩
      · rw [List.map_append]; exact ho'
      · intro y hy
        rcases List.mem_append.1 hy with hy | hy
        · exact hall y hy
        · rw [List.mem_singleton.1 hy]; exact hx0
  · rintro ⟨g, z1, z2, z3⟩ D ⟨hz, hR, hall⟩
    dsimp only at hz hR
    cases hz
    have hc := col_ok xs [] [] hall
    rw [List.append_nil, List.nil_append] at hc
    rw [hc]
    exact ⟨1, rfl, [.hp g.h], ⟨g, rfl, rfl, hR⟩, fun w' h => (h.pick [0, 6] rfl rfl).less le0⟩
  · rintro e ⟨g, z1, z2, z3⟩ D pre ⟨post, hpre⟩ ⟨rfl, hR, hc⟩
    dsimp only at hR hc
    have hc := hc post
    rw [hpre] at hc
    rw [hc.1]
    obtain ⟨k1, rfl⟩ := Int.eq_ofNat_of_zero_le hc.2.1
    obtain ⟨k2, rfl⟩ := Int.eq_ofNat_of_zero_le hc.2.2
    exact ⟨1, rfl, [.hp g.h], ⟨g, rfl, rfl, hR⟩, fun w' h => (h.pick [0, 6] rfl rfl).less le0⟩
end Go.Proofs.YtoholjdojdmbkaaGreatDoor
namespace Go.Proofs.YtoholjdojdmbkaaGreatDoor
open Go Go.RowKit Go.Dw
/-- what a reader holds -/
structure RS where
  ts : List Tok
  ln : Nat
  co : Nat
  e : Int
def EndL (ts : List Tok) : Prop := ∃ pre t, ts = pre ++ [t] ∧ t.1 = 5 ∧ ∀ x ∈ pre, x.1 ≠ 5
def rcs (a : Option Addr) (n c : Nat) (r : RS) : List Value := [.slice a n c, .int .i64 r.ln, .int .i64 r.co, .int .i64 r.e]
/-- a reader in heaplet h, its tokens in k -/
def Rdr (k h : Hp) (b : Nat) (r : RS) : Prop := ∃ a n c, Own 78 4 h (some ⟨b, 0, none⟩) 1 1 (rcs a n c r) ∧ Sl (encF fT) 4 k a n c r.ts ∧ (r.e = 0 → EndL r.ts) ∧ ∀ t ∈ r.ts, t.2.1.length < 900000
theorem Rdr.mono {k k' h : Hp} {b : Nat} {r : RS} (l : k.le k') : Rdr k h b r → Rdr k' h b r
  | ⟨a, n, c, h1, h2, h3⟩ => ⟨a, n, c, h1, h2.mono (encF_mono _) l, h3⟩
def tok0 : Tok := (0, [], 0, 0)
def peekR (r : RS) : Tok := if r.e ≠ 0 then (5, [], r.ln, r.co) else r.ts.headD tok0
def nextR (r : RS) : RS := if r.e = 0 ∧ (peekR r).1 ≠ 5 then { r with ts := r.ts.tail } else r
def failR (r : RS) (e : Int) : RS := if r.e ≠ 0 then r else if e ≠ 0 then { r with ln := (peekR r).2.2.1, co := (peekR r).2.2.2, e := e } else r
def newR (s : Byts) : RS := ⟨(scaF s).1, (scaF s).2.1, (scaF s).2.2.1, (scaF s).2.2.2⟩
theorem EndL.pos {ts : List Tok} (h : EndL ts) : 0 < ts.length := by
  obtain ⟨pre, t, rfl, _⟩ := h; simp
theorem EndL.tail {ts : List Tok} (h : EndL ts) (h5 : (ts.headD tok0).1 ≠ 5) : EndL ts.tail := by
  obtain ⟨pre, t, rfl, h1, h2⟩ := h
  cases pre with
  | nil => exact absurd h1 h5
  | cons x pre => exact ⟨pre, t, rfl, h1, fun y hy => h2 y (by simp [hy])⟩
section
variable {s : List Ch} {xo yo : Operand} {p : Option Addr} {q : TV → Prop}
theorem run_eqN (w : World) : (Op.equal 37 (.pointer p) (.pointer none)).run Tryz.prog w = .ok p.isNone w := by
  have hun : (underlying 37).run Tryz.prog w = .ok (.pointer 78) w := by simp [underlying, Tryz.underlying37]
  unfold Op.equal Op.maxDepth
  rw [show (10000 : Nat) = 9999 + 1 from rfl]
  unfold Op.equalIn
  simp only [Sem.run_bind, hun, Result.andThen_ok]
  cases p <;> rfl
theorem qEqN (h : q (.v (.bool p.isNone))) : NeedQ Tryz.prog s (do eqGuard .eql 37 xo yo (.pointer p) (.pointer none); binOp .eql 37 (.pointer p) (.pointer none)) q := by
  refine ⟨_, fun w _ => ?_, h⟩
  have hg : (eqGuard .eql 37 xo yo (.pointer p) (.pointer none)).run Tryz.prog w = .ok () w := by simp [eqGuard]
  rw [Sem.run_bind, hg]
  simp only [Result.andThen_ok, binOp, Sem.run_bind]
  rw [run_eqN]; rfl
theorem qNeN (h : q (.v (.bool (!p.isNone)))) : NeedQ Tryz.prog s (do eqGuard .neq 37 xo yo (.pointer p) (.pointer none); binOp .neq 37 (.pointer p) (.pointer none)) q := by
  refine ⟨_, fun w _ => ?_, h⟩
  have hg : (eqGuard .neq 37 xo yo (.pointer p) (.pointer none)).run Tryz.prog w = .ok () w := by simp [eqGuard]
  rw [Sem.run_bind, hg]
  simp only [Result.andThen_ok, binOp, Sem.run_bind]
  rw [run_eqN]; rfl
end
theorem Peek_spec {k h : Hp} {b : Nat} {r : RS} (w : World) (hin : h.In w) (hk : k.le (Hp.whole w)) (hR : Rdr k h b r) :
    CallsE Tryz.prog 21 #[.pointer (some ⟨b, 0, none⟩)] w (RetV w (encT (peekR r))) := by
  obtain ⟨a, n, c, hO, hS, hE, hB⟩ := hR
  have hS' := hS.mono (encF_mono _) hk
  have hn := hS.len
  have hO2 : Own 78 4 (Hp.whole w) (some ⟨b, 0, none⟩) 1 1 (rcs a n c r) := by
    refine ⟨hO.1, ?_⟩
    rcases hO.2 with ⟨h0, _⟩ | ⟨b', arr, e1, hb, rest⟩
    · cases h0
    · exact .inr ⟨b', arr, e1, hin.whole _ _ hb, rest⟩
  unfold rcs at hO2
  refine enter (X := cx 28) (cxg _) (args := [.pointer (some ⟨b, 0, none⟩)]) [.cell 2 32] Tryz.func21 rfl rfl rfl rfl rfl ?_
  intro b2
  refine qEqN ?_
  refine old1 (j := 3) (cxg _) (i := 0) rfl hO2 rfl rfl ?_
  refine bsplitd (fun h2 => ?_) (fun h2 => ?_)
  · refine NeedD.by_order (cxg _) (.take 0 <| .take 1 <| .take 2 <| .take 3 <| .take 4 <| .take 5 <| .take 6 <| .take 7 <| .take 8 <| .run 9 <| .done) (by kernel_rfl) ?_
    refine old1 (j := 1) (cxg _) (i := 0) rfl hO2 rfl rfl ?_
    refine old1 (j := 2) (cxg _) (i := 0) rfl hO2 rfl rfl ?_
    exact ⟨[], ⟨by unfold peekR; rw [if_pos h2]; rfl, rfl⟩, fun w' h => h.pick [0] rfl rfl⟩
  · have he : r.e = 0 := Classical.byContradiction h2
    have hp := (hE he).pos
    refine old1 (j := 0) (cxg _) (i := 0) rfl hO2 rfl rfl ?_
    refine idx (cxg _) (e := 32) rfl hS' 0 rfl hp (fun b9 o9 cs hcs hR hcell => ?_)
    subst hR
    refine ldn (cxg _) (i := 0) rfl hcell rfl ?_
    exact ⟨[], ⟨by
      unfold peekR; rw [if_neg h2, List.headD_eq_head?_getD, List.head?_eq_getElem?, List.getElem?_eq_getElem hp]; rfl, rfl⟩, fun w' h => h.pick [0] rfl rfl⟩
theorem Next_spec {k h : Hp} {b : Nat} {r : RS} (w : World) (hin : h.In w) (hk : k.le ((Hp.whole w).minus h)) (hR : Rdr k h b r) :
    CallsE Tryz.prog 38 #[.pointer (some ⟨b, 0, none⟩)] w (RetM w h fun v h' cs => cs = [] ∧ v = encT (peekR r) ∧ Rdr k h' b (nextR r)) := by
  have hR0 := hR
  obtain ⟨a, n, c, hO, hS, hE, hB⟩ := hR
  have hn := hS.len
  unfold rcs at hO
  refine enterM (X := cx 29) (cxg _) (args := [.pointer (some ⟨b, 0, none⟩)]) hin [.cell 2 32] Tryz.func38 rfl rfl rfl rfl rfl ?_
  intro b2
  refine callV _ (fun w' hm => Peek_spec w' (hm 1 _ rfl) (hk.trans (hm 0 _ rfl).whole) hR0) ?_
  intro b3
  refine qNeN ?_
  refine old1 (j := 3) (cxg _) (i := 1) rfl hO rfl rfl ?_
  refine bsplitd (fun h2 => ?_) (fun h2 => ?_)
  · have he : r.e = 0 := h2
    have hEE := hE he
    have hp := hEE.pos
    refine bsplitd (fun h3 => ?_) (fun h3 => ?_)
    · have h5 : (peekR r).1 ≠ 5 := h3
      have hx : nextR r = { r with ts := r.ts.tail } := by unfold nextR; rw [if_pos ⟨he, h5⟩]
      rw [hx]
      have h6 : (r.ts.headD tok0).1 ≠ 5 := by unfold peekR at h5; rw [if_neg (fun g => g he)] at h5; exact h5
      refine old1 (j := 0) (cxg _) (i := 1) rfl hO rfl rfl ?_
      refine slS (cxg _) (e := 32) rfl hS 1 n (.inr ⟨_, _, rfl, rfl⟩) (.inl ⟨rfl, rfl⟩) (by omega) (by omega) (fun a25 hs25 => ?_)
      refine ost (j := 0) (cxg _) (i := 1) rfl hO rfl rfl rfl (by decide) rfl fun h2' hO2 => ?_
      have e1 : (r.ts.take n).drop 1 = r.ts.tail := by rw [List.take_of_length_le (by omega), List.drop_one]
      rw [e1] at hs25
      exact ⟨h2', [], ⟨rfl, rfl, ⟨a25, n - 1, c - 1, hO2, hs25, fun _ => hEE.tail h6, fun t ht => hB t (List.mem_of_mem_tail ht)⟩⟩, fun w' h => h.pick [0, 1] rfl rfl⟩
    · have hx : nextR r = r := by unfold nextR; rw [if_neg (fun g => h3 g.2)]
      rw [hx]
      exact ⟨h, [], ⟨rfl, rfl, hR0⟩, fun w' h => h.pick [0, 1] rfl rfl⟩
  · have hx : nextR r = r := by unfold nextR; rw [if_neg (fun g => h2 g.1)]
    rw [hx]
    exact ⟨h, [], ⟨rfl, rfl, hR0⟩, fun w' h => h.pick [0, 1] rfl rfl⟩
theorem Fail_spec {k h : Hp} {b : Nat} {r : RS} {e : Int} (w : World) (hin : h.In w) (hk : k.le ((Hp.whole w).minus h)) (hR : Rdr k h b r) :
    CallsE Tryz.prog 45 #[.pointer (some ⟨b, 0, none⟩), .int .i64 e] w (RetM w h fun _ h' cs => cs = [] ∧ Rdr k h' b (failR r e)) := by
  have hR0 := hR
  obtain ⟨a, n, c, hO, hS, hE, hB⟩ := hR
  have hn := hS.len
  unfold rcs at hO
  refine enterM (X := cx 32) (cxg _) (args := [.pointer (some ⟨b, 0, none⟩), .int .i64 e]) hin [] Tryz.func45 rfl rfl rfl rfl rfl ?_
  refine qEqN ?_
  refine old1 (j := 3) (cxg _) (i := 1) rfl hO rfl rfl ?_
  refine bsplitd (fun h2 => ?_) (fun h2 => ?_)
  · have hx : failR r e = r := by unfold failR; rw [if_pos h2]
    rw [hx]
    exact ⟨h, [], ⟨rfl, hR0⟩, fun w' h => h.pick [0, 1] rfl rfl⟩
  · refine callV _ (fun w' hm => Peek_spec w' (hm 1 _ rfl) (hk.trans (hm 0 _ rfl).whole) hR0) ?_
    intro b4
    refine bsplitd (fun h3 => ?_) (fun h3 => ?_)
    · have hx : failR r e = { r with ln := (peekR r).2.2.1, co := (peekR r).2.2.2, e := e } := by unfold failR; rw [if_neg h2, if_pos h3]
      rw [hx]
      generalize peekR r = p at *
      refine NeedD.by_order0 (cxg _) (.take 0 <| .take 1 <| .take 2 <| .take 3 <| .take 4 <| .take 5 <| .take 6 <| .take 7 <| .take 8 <| .take 9 <| .run 10 <| .run 11 <| .run 12 <| .run 13 <| .run 14 <| .run 15 <| .run 16 <| .done) (by kernel_rfl) (subL_blank _ 1) ?_
      refine ost (j := 1) (cxg _) (i := 1) rfl hO rfl rfl rfl (by decide) rfl fun h5 hO2 => ?_
      refine ⟨(by repeat first | exact trivial | refine ⟨.inl rfl, ?_⟩ | refine ⟨.inr rfl, ?_⟩), ?_⟩
      refine ⟨(by repeat first | exact trivial | refine ⟨.inl rfl, ?_⟩ | refine ⟨.inr rfl, ?_⟩), ?_⟩
      refine ⟨(by repeat first | exact trivial | refine ⟨.inl rfl, ?_⟩ | refine ⟨.inr rfl, ?_⟩), ?_⟩
      refine ost (j := 2) (cxg _) (i := 1) rfl hO2 rfl rfl rfl (by decide) rfl fun h6 hO3 => ?_
      refine ⟨(by repeat first | exact trivial | refine ⟨.inl rfl, ?_⟩ | refine ⟨.inr rfl, ?_⟩), ?_⟩
      refine ost (j := 3) (cxg _) (i := 1) rfl hO3 rfl rfl rfl (by decide) rfl fun h7 hO4 => ?_
      exact ⟨h7, [], ⟨rfl, ⟨a, n, c, hO4, hS, fun g => absurd g h3, hB⟩⟩, fun w' h => h.pick [0, 1] rfl rfl⟩
    · have hx : failR r e = r := by unfold failR; rw [if_neg h2, if_neg h3]
      rw [hx]
      exact ⟨h, [], ⟨rfl, hR0⟩, fun w' h => h.pick [0, 1] rfl rfl⟩
end Go.Proofs.YtoholjdojdmbkaaGreatDoor
namespace Go.Dw
open Go Go.RowKit
theorem Ok.kle {w0 w : World} {s : List Ch} {k c0 h : Hp} (hok : Ok w0 s w) (h0 : sget s 0 = some (.hp c0)) (hi : sget s 1 = some (.hp h)) (hk : k.le c0) : k.le ((Hp.whole w).minus h) :=
  hk.trans (Hp.le_minus (hok.mem 0 _ h0).whole (hok.disj 0 1 _ _ (by decide) h0 hi))
end Go.Dw
namespace Go.Proofs.YtoholjdojdmbkaaGreatDoor
open Go Go.RowKit Go.Dw
def isR (r : RS) (s : Byts) : Bool := (decide ((peekR r).1 = 1) || decide ((peekR r).1 = 4)) && decide ((peekR r).2.1 = s)
def takeR (r : RS) (s : Byts) : RS := if isR r s = true then nextR r else r
def kindR (r : RS) (z : Int) : RS × Byts := if (peekR r).1 ≠ z then (failR r 14, []) else (nextR r, (peekR r).2.1)
def sgR (r : RS) : RS := if isR r [45] = true ∧ (peekR (takeR r [45])).1 = 2 ∧ (peekR (takeR r [45])).2.1 = [48] then failR (takeR r [45]) 3 else takeR r [45]
def numR (r : RS) : RS × Byts := ((kindR (sgR r) 2).1, if (kindR (sgR r) 2).2 = [] then [] else (if isR r [45] = true then [45] else []) ++ (kindR (sgR r) 2).2)
theorem Rdr.peekB {k h : Hp} {b : Nat} {r : RS} (hR : Rdr k h b r) : (peekR r).2.1.length < 900000 := by
  obtain ⟨a, n, c, _, _, hE, hB⟩ := hR
  unfold peekR
  split
  · exact Nat.zero_lt_succ _
  · rename_i h2
    have hp := (hE (Classical.byContradiction h2)).pos
    cases hts : r.ts with
    | nil => rw [hts] at hp; cases hp
    | cons t ts => exact hB t (by rw [hts]; simp)
section
variable {k h : Hp} {b : Nat} {r : RS}
theorem Is_spec {s : Byts} (w : World) (hin : h.In w) (hk : k.le (Hp.whole w)) (hR : Rdr k h b r) :
    CallsE Tryz.prog 39 #[.pointer (some ⟨b, 0, none⟩), .string (bs s)] w (RetV w (.bool (isR r s))) := by
  refine enter (X := cx 22) (cxg _) (args := [.pointer (some ⟨b, 0, none⟩), .string (bs s)]) [.tmp 4] Tryz.func39 rfl rfl rfl rfl rfl ?_
  have hpk : ∀ w', Mem [.hp (Hp.whole w)] w' → CallsE Tryz.prog 21 #[.pointer (some ⟨b, 0, none⟩)] w' (RetV w' (encT (peekR r))) := fun w' hm => by
    have hw := (hm 0 _ rfl).whole
    exact Peek_spec w' (fun x o e => hm 0 _ rfl _ _ (hin.whole _ _ e)) (hk.trans hw) hR
  refine callV _ (fun w' hm => hpk w' hm) ?_
  unfold isR
  generalize peekR r = p
  intro b5
  refine bsplitd (fun h1 => ?_) (fun h1 => ?_)
  · refine qEqL ?_
    exact ⟨[], ⟨by rw [decide_eq_true h1]; rfl, rfl⟩, fun w' h => h.pick [0] rfl rfl⟩
  · refine bsplitd (fun h2 => ?_) (fun h2 => ?_)
    · refine qEqL ?_
      exact ⟨[], ⟨by rw [decide_eq_true h2, Bool.or_true]; rfl, rfl⟩, fun w' h => h.pick [0] rfl rfl⟩
    · exact ⟨[], ⟨by rw [decide_eq_false h1, decide_eq_false h2]; rfl, rfl⟩, fun w' h => h.pick [0] rfl rfl⟩
theorem Error_spec (w : World) (hin : h.In w) (hR : Rdr k h b r) :
    CallsE Tryz.prog 19 #[.pointer (some ⟨b, 0, none⟩)] w (RetV w (.tuple #[.int .i64 (if r.e = 0 then (0 : Int) else r.ln), .int .i64 (if r.e = 0 then (0 : Int) else r.co), .int .i64 r.e])) := by
  obtain ⟨a, n, c, hO, hS, hE, hB⟩ := hR
  have hO2 : Own 78 4 (Hp.whole w) (some ⟨b, 0, none⟩) 1 1 (rcs a n c r) := by
    refine ⟨hO.1, ?_⟩
    rcases hO.2 with ⟨h0, _⟩ | ⟨b', arr, e1, hb, rest⟩
    · cases h0
    · exact .inr ⟨b', arr, e1, hin.whole _ _ hb, rest⟩
  unfold rcs at hO2
  refine enter (X := cx 26) (cxg _) (args := [.pointer (some ⟨b, 0, none⟩)]) [.tmp 2, .tmp 3, .tmp 4] Tryz.func19 rfl rfl rfl rfl rfl ?_
  refine qEqN ?_
  refine old1 (j := 3) (cxg _) (i := 0) rfl hO2 rfl rfl ?_
  refine bsplitd (fun h2 => ?_) (fun h2 => ?_)
  · have h2' : r.e = 0 := h2
    exact ⟨[], ⟨by rw [h2']; rfl, rfl⟩, fun w' h => h.pick [0] rfl rfl⟩
  · have h2' : ¬ r.e = 0 := h2
    refine NeedD.by_order (cxg _) (.take 0 <| .take 1 <| .take 2 <| .take 3 <| .take 4 <| .take 5 <| .take 6 <| .take 7 <| .take 8 <| .take 9 <| .take 10 <| .take 11 <| .take 12 <| .take 13 <| .take 14 <| .done) (by kernel_rfl) ?_
    refine old1 (j := 1) (cxg _) (i := 0) rfl hO2 rfl rfl ?_
    refine old1 (j := 2) (cxg _) (i := 0) rfl hO2 rfl rfl ?_
    refine old1 (j := 3) (cxg _) (i := 0) rfl hO2 rfl rfl ?_
    exact ⟨[], ⟨by rw [if_neg h2', if_neg h2'], rfl⟩, fun w' h => h.pick [0] rfl rfl⟩
theorem Take_spec {s : Byts} (w : World) (hin : h.In w) (hk : k.le ((Hp.whole w).minus h)) (hR : Rdr k h b r) :
    CallsE Tryz.prog 40 #[.pointer (some ⟨b, 0, none⟩), .string (bs s)] w (RetM w h fun v h' cs => cs = [] ∧ v = .bool (isR r s) ∧ Rdr k h' b (takeR r s)) := by
  refine enterM (X := cx 13) (cxg _) (args := [.pointer (some ⟨b, 0, none⟩), .string (bs s)]) hin [.tmp 4] Tryz.func40 rfl rfl rfl rfl rfl ?_
  refine callV _ (fun w' hm => Is_spec w' (hm 1 _ rfl) (hk.trans (hm 0 _ rfl).whole) hR) ?_
  refine bsplit (fun h1 => ?_) (fun h1 => ?_)
  · refine callMO (i := 1) rfl (fun w0 w' hok => Next_spec w' (hok.mem 1 _ rfl) (hok.kle rfl rfl hk) hR) ?_
    rintro _ h2 _ ⟨rfl, rfl, hR2⟩
    exact ⟨h2, [], ⟨rfl, by rw [h1], by unfold takeR; rw [if_pos h1]; exact hR2⟩, fun w' h => h.pick [0, 1] rfl rfl⟩
  · exact ⟨h, [], ⟨rfl, by rw [h1], by unfold takeR; rw [if_neg (by rw [h1]; decide)]; exact hR⟩, fun w' h => h.pick [0, 1] rfl rfl⟩
theorem Expect_spec {s : Byts} (w : World) (hin : h.In w) (hk : k.le ((Hp.whole w).minus h)) (hR : Rdr k h b r) :
    CallsE Tryz.prog 41 #[.pointer (some ⟨b, 0, none⟩), .string (bs s)] w (RetM w h fun _ h' cs => cs = [] ∧ Rdr k h' b (if isR r s = true then nextR r else failR r 14)) := by
  refine enterM (X := cx 10) (cxg _) (args := [.pointer (some ⟨b, 0, none⟩), .string (bs s)]) hin [] Tryz.func41 rfl rfl rfl rfl rfl ?_
  refine callMO (i := 1) rfl (fun w0 w' hok => Take_spec w' (hok.mem 1 _ rfl) (hok.kle rfl rfl hk) hR) ?_
  rintro _ h2 _ ⟨rfl, rfl, hR2⟩
  unfold takeR at hR2
  refine bsplit (fun h1 => ?_) (fun h1 => ?_)
  · have h1' : isR r s = false := by simpa using h1
    rw [if_neg (by rw [h1']; decide)] at hR2
    refine callMO (i := 1) rfl (fun w0 w' hok => Fail_spec w' (hok.mem 1 _ rfl) (hok.kle rfl rfl hk) hR2) ?_
    rintro _ h3 _ ⟨rfl, hR3⟩
    exact ⟨h3, [], ⟨rfl, by rw [if_neg (by rw [h1']; decide)]; exact hR3⟩, fun w' h => h.pick [0, 1] rfl rfl⟩
  · have h1' : isR r s = true := by simpa using h1
    rw [if_pos h1'] at hR2
    exact ⟨h2, [], ⟨rfl, by rw [if_pos h1']; exact hR2⟩, fun w' h => h.pick [0, 1] rfl rfl⟩
theorem kind_spec {z : Int} (w : World) (hin : h.In w) (hk : k.le ((Hp.whole w).minus h)) (hR : Rdr k h b r) :
    CallsE Tryz.prog 59 #[.pointer (some ⟨b, 0, none⟩), .int .i64 z] w (RetM w h fun v h' cs => cs = [] ∧ v = .string (bs (kindR r z).2) ∧ Rdr k h' b (kindR r z).1) := by
  refine enterM (X := cx 15) (cxg _) (args := [.pointer (some ⟨b, 0, none⟩), .int .i64 z]) hin [.tmp 4] Tryz.func59 rfl rfl rfl rfl rfl ?_
  refine callV _ (fun w' hm => Peek_spec w' (hm 1 _ rfl) (hk.trans (hm 0 _ rfl).whole) hR) ?_
  refine bsplitd (fun h1 => ?_) (fun h1 => ?_)
  · have e : kindR r z = (failR r 14, []) := by unfold kindR; rw [if_pos h1]
    rw [e]
    refine callMO (i := 1) rfl (fun w0 w' hok => Fail_spec w' (hok.mem 1 _ rfl) (hok.kle rfl rfl hk) hR) ?_
    rintro _ h3 _ ⟨rfl, hR3⟩
    exact ⟨h3, [], ⟨rfl, rfl, hR3⟩, fun w' h => h.pick [0, 1] rfl rfl⟩
  · have e : kindR r z = (nextR r, (peekR r).2.1) := by unfold kindR; rw [if_neg h1]
    rw [e]
    refine callMO (i := 1) rfl (fun w0 w' hok => Next_spec w' (hok.mem 1 _ rfl) (hok.kle rfl rfl hk) hR) ?_
    rintro _ h2 _ ⟨rfl, rfl, hR2⟩
    exact ⟨h2, [], ⟨rfl, rfl, hR2⟩, fun w' h => h.pick [0, 1] rfl rfl⟩
theorem Name_spec (w : World) (hin : h.In w) (hk : k.le ((Hp.whole w).minus h)) (hR : Rdr k h b r) :
    CallsE Tryz.prog 42 #[.pointer (some ⟨b, 0, none⟩)] w (RetM w h fun v h' cs => cs = [] ∧ v = .string (bs (kindR r 1).2) ∧ Rdr k h' b (kindR r 1).1) := by
  refine enterM (X := cx 5) (cxg _) (args := [.pointer (some ⟨b, 0, none⟩)]) hin [.tmp 2] Tryz.func42 rfl rfl rfl rfl rfl ?_
  refine callMO (i := 1) rfl (fun w0 w' hok => kind_spec w' (hok.mem 1 _ rfl) (hok.kle rfl rfl hk) hR) ?_
  rintro _ h2 _ ⟨rfl, rfl, hR2⟩
  exact ⟨h2, [], ⟨rfl, rfl, hR2⟩, fun w' h => h.pick [0, 1] rfl rfl⟩
theorem Text_spec (w : World) (hin : h.In w) (hk : k.le ((Hp.whole w).minus h)) (hR : Rdr k h b r) :
    CallsE Tryz.prog 43 #[.pointer (some ⟨b, 0, none⟩)] w (RetM w h fun v h' cs => cs = [] ∧ v = .string (bs (kindR r 3).2) ∧ Rdr k h' b (kindR r 3).1) := by
  refine enterM (X := cx 5) (cxg _) (args := [.pointer (some ⟨b, 0, none⟩)]) hin [.tmp 2] Tryz.func43 rfl rfl rfl rfl rfl ?_
  refine callMO (i := 1) rfl (fun w0 w' hok => kind_spec w' (hok.mem 1 _ rfl) (hok.kle rfl rfl hk) hR) ?_
  rintro _ h2 _ ⟨rfl, rfl, hR2⟩
  exact ⟨h2, [], ⟨rfl, rfl, hR2⟩, fun w' h => h.pick [0, 1] rfl rfl⟩
theorem Finish_spec (w : World) (hin : h.In w) (hk : k.le ((Hp.whole w).minus h)) (hR : Rdr k h b r) :
    CallsE Tryz.prog 44 #[.pointer (some ⟨b, 0, none⟩)] w (RetM w h fun _ h' cs => cs = [] ∧ Rdr k h' b (if (peekR r).1 ≠ 5 then failR r 14 else r)) := by
  refine enterM (X := cx 8) (cxg _) (args := [.pointer (some ⟨b, 0, none⟩)]) hin [] Tryz.func44 rfl rfl rfl rfl rfl ?_
  refine callV _ (fun w' hm => Peek_spec w' (hm 1 _ rfl) (hk.trans (hm 0 _ rfl).whole) hR) ?_
  refine bsplitd (fun h1 => ?_) (fun h1 => ?_)
  · have h1' : (peekR r).1 ≠ 5 := h1
    rw [if_pos h1']
    refine callMO (i := 1) rfl (fun w0 w' hok => Fail_spec w' (hok.mem 1 _ rfl) (hok.kle rfl rfl hk) hR) ?_
    rintro _ h3 _ ⟨rfl, hR3⟩
    exact ⟨h3, [], ⟨rfl, hR3⟩, fun w' h => h.pick [0, 1] rfl rfl⟩
  · have h1' : ¬ (peekR r).1 ≠ 5 := h1
    rw [if_neg h1']
    exact ⟨h, [], ⟨rfl, hR⟩, fun w' h => h.pick [0, 1] rfl rfl⟩
end
end Go.Proofs.YtoholjdojdmbkaaGreatDoor
namespace Go.Proofs.YtoholjdojdmbkaaGreatDoor
open Go Go.RowKit Go.Dw
theorem Rdr.kindB {k h : Hp} {b : Nat} {r : RS} (hR : Rdr k h b r) (z : Int) : (kindR r z).2.length < 900000 := by
  unfold kindR
  split
  · exact Nat.zero_lt_succ _
  · exact hR.peekB
section
variable {k h : Hp} {b : Nat} {r : RS}
set_option maxRecDepth 10000 in
theorem Number_spec (w : World) (hin : h.In w) (hk : k.le ((Hp.whole w).minus h)) (hR : Rdr k h b r) :
    CallsE Tryz.prog 29 #[.pointer (some ⟨b, 0, none⟩)] w (RetM w h fun v h' cs => cs = [] ∧ v = .string (bs (numR r).2) ∧ Rdr k h' b (numR r).1) := by
  refine enterM (X := cx 31) (cxg _) (args := [.pointer (some ⟨b, 0, none⟩)]) hin [.tmp 2] Tryz.func29 rfl rfl rfl rfl rfl ?_
  unfold numR
  refine callMO (i := 1) rfl (fun w0 w' hok => Take_spec (s := [45]) w' (hok.mem 1 _ rfl) (hok.kle rfl rfl hk) hR) ?_
  rintro _ h2 _ ⟨rfl, rfl, hR2⟩
  refine bsplit (fun h1 => ?_) (fun h1 => ?_)
  · rw [if_pos h1]
    refine callV _ (fun w' hm => Peek_spec w' (hm 1 _ rfl) (hk.trans (hm 0 _ rfl).whole) hR2) ?_
    intro b4
    refine qNeL (a := [45]) (b := []) ?_
    conv => whnf
    refine bsplitd (fun h3 => ?_) (fun h3 => ?_)
    · refine qEqL (b := [48]) ?_
      refine bsplitd (fun h4 => ?_) (fun h4 => ?_)
      · have e : sgR r = failR (takeR r [45]) 3 := by unfold sgR; rw [if_pos ⟨h1, h3, h4⟩]
        rw [e]
        refine callMO (i := 1) rfl (fun w0 w' hok => Fail_spec w' (hok.mem 1 _ rfl) (hok.kle rfl rfl hk) hR2) ?_
        rintro _ h4 _ ⟨rfl, hR4⟩
        refine callMO (i := 1) rfl (fun w0 w' hok => kind_spec w' (hok.mem 1 _ rfl) (hok.kle rfl rfl hk) hR4) ?_
        rintro _ h5 _ ⟨rfl, rfl, hR5⟩
        refine qEqL (b := []) ?_
        refine bsplitd (fun h5 => ?_) (fun h5 => ?_)
        · exact ⟨_, [], ⟨rfl, by rw [if_pos h5]; rfl, hR5⟩, fun w' h => h.pick [0, 1] rfl rfl⟩
        · refine qAdd (ty := 9) (a := [45]) (by have := hR4.kindB 2; simp only [List.length_cons, List.length_nil]; omega) ?_
          exact ⟨_, [], ⟨rfl, by rw [if_neg h5], hR5⟩, fun w' h => h.pick [0, 1] rfl rfl⟩
      · have e : sgR r = takeR r [45] := by unfold sgR; rw [if_neg fun g => h4 g.2.2]
        rw [e]
        refine callMO (i := 1) rfl (fun w0 w' hok => kind_spec w' (hok.mem 1 _ rfl) (hok.kle rfl rfl hk) hR2) ?_
        rintro _ h5 _ ⟨rfl, rfl, hR5⟩
        refine qEqL (b := []) ?_
        refine bsplitd (fun h5 => ?_) (fun h5 => ?_)
        · exact ⟨_, [], ⟨rfl, by rw [if_pos h5]; rfl, hR5⟩, fun w' h => h.pick [0, 1] rfl rfl⟩
        · refine qAdd (ty := 9) (a := [45]) (by have := hR2.kindB 2; simp only [List.length_cons, List.length_nil]; omega) ?_
          exact ⟨_, [], ⟨rfl, by rw [if_neg h5], hR5⟩, fun w' h => h.pick [0, 1] rfl rfl⟩
    · have e : sgR r = takeR r [45] := by unfold sgR; rw [if_neg fun g => h3 g.2.1]
      rw [e]
      refine callMO (i := 1) rfl (fun w0 w' hok => kind_spec w' (hok.mem 1 _ rfl) (hok.kle rfl rfl hk) hR2) ?_
      rintro _ h5 _ ⟨rfl, rfl, hR5⟩
      refine qEqL (b := []) ?_
      refine bsplitd (fun h5 => ?_) (fun h5 => ?_)
      · exact ⟨_, [], ⟨rfl, by rw [if_pos h5]; rfl, hR5⟩, fun w' h => h.pick [0, 1] rfl rfl⟩
      · refine qAdd (ty := 9) (a := [45]) (by have := hR2.kindB 2; simp only [List.length_cons, List.length_nil]; omega) ?_
        exact ⟨_, [], ⟨rfl, by rw [if_neg h5], hR5⟩, fun w' h => h.pick [0, 1] rfl rfl⟩
  · have h1' : ¬ isR r [45] = true := by rw [h1]; decide
    rw [if_neg h1']
    have e : sgR r = takeR r [45] := by unfold sgR; rw [if_neg fun g => h1' g.1]
    rw [e]
    refine callV _ (fun w' hm => Peek_spec w' (hm 1 _ rfl) (hk.trans (hm 0 _ rfl).whole) hR2) ?_
    intro b4
    refine qNeL (a := []) (b := []) ?_
    conv => whnf
    refine callMO (i := 1) rfl (fun w0 w' hok => kind_spec w' (hok.mem 1 _ rfl) (hok.kle rfl rfl hk) hR2) ?_
    rintro _ h5 _ ⟨rfl, rfl, hR5⟩
    refine qEqL (b := []) ?_
    refine bsplitd (fun h5 => ?_) (fun h5 => ?_)
    · exact ⟨_, [], ⟨rfl, by rw [if_pos h5]; rfl, hR5⟩, fun w' h => h.pick [0, 1] rfl rfl⟩
    · refine qAdd (ty := 9) (a := []) (by have := hR2.kindB 2; simp only [List.length_nil]; omega) ?_
      exact ⟨_, [], ⟨rfl, by rw [if_neg h5], hR5⟩, fun w' h => h.pick [0, 1] rfl rfl⟩
end
/-! ### what Scan returns -/
theorem quo_out : ∀ (l : Byts) (i : Nat) (out : Byts), (quoF l i out).2.1.length ≤ out.length + l.length := by
  intro l
  induction hn : l.length using Nat.strongRecOn generalizing l with
  | _ n ih =>
    intro i out
    match l, hn with
    | [], _ => exact Nat.zero_le _
    | [c], hn =>
      subst hn
      unfold quoF
      split
      · exact Nat.zero_le _
      · split
        · split
          · exact Nat.zero_le _
          · exact Nat.le_add_right _ _
        · split
          · exact Nat.zero_le _
          · split <;> exact Nat.zero_le _
    | c :: e :: r, hn =>
      unfold quoF
      simp only [List.length_cons] at hn
      split
      · exact Nat.zero_le _
      · split
        · split
          · exact Nat.zero_le _
          · exact Nat.le_add_right _ _
        · split
          · exact Nat.zero_le _
          · split
            · split
              · have := ih r.length (by omega) r rfl (i + 2) (out ++ [e])
                rw [List.length_append, List.length_singleton] at this; omega
              · exact Nat.zero_le _
            · have := ih (r.length + 1) (by omega) (e :: r) rfl (i + 1) (out ++ [c])
              rw [List.length_append, List.length_singleton] at this; omega
theorem tok_out (s : Byts) : (tokF s).2.2.1.length ≤ s.length := by
  unfold tokF
  dsimp only
  split
  · have := quo_out (s.drop 1) 1 []
    rw [List.length_drop, List.length_nil] at this
    show (quoF (s.drop 1) 1 []).2.1.length ≤ _; omega
  · split
    · split
      · exact Nat.zero_le _
      · exact List.length_take_le' _ _
    · split
      · split
        · exact Nat.zero_le _
        · split
          · exact List.length_take_le' _ _
          · exact Nat.zero_le _
      · split
        · exact Nat.zero_le _
        · exact List.length_take_le' _ _
theorem tok_kind (s : Byts) : (tokF s).2.1 ≠ 5 := by
  obtain ⟨h, h2⟩ := tok_cls s
  have key : ∀ k (hk : k < clsL.length), clsF (s.getD 0 0) = k → (clsL[clsF (s.getD 0 0)]'(cls_lt _)).1 = clsL[k].1 := fun k hk h => by subst h; rfl
  rcases h2 with ⟨hc, _⟩ | ⟨hc, _⟩ | ⟨hc, _⟩ | ⟨hc, _⟩ <;> rw [key _ (by decide) hc] at h <;> rw [← h] <;> decide
theorem emi_shape : ∀ (f : Nat) (s : Byts) (p : Nat × Nat), ∃ pre last, emi f s p = pre ++ [last] ∧ (∀ x ∈ pre, x.2 = 0 ∧ x.1.1 ≠ 5 ∧ x.1.2.1.length ≤ s.length) ∧ (last.2 = 0 → last.1.1 = 5) ∧ last.1.2.1.length ≤ s.length
  | 0, s, p => ⟨[], _, rfl, by simp, fun _ => rfl, Nat.zero_le _⟩
  | f + 1, [], p => ⟨[], _, rfl, by simp, fun _ => rfl, Nat.zero_le _⟩
  | f + 1, c :: r, p => by
    have e : emi (f + 1) (c :: r) p = if c = 32 ∨ c = 10 then emi f r (pas1 p c)
      else if c = 35 then emi f ((c :: r).drop (runN (fun c => !decide (c = 10)) (c :: r))) (pasN p ((c :: r).take (runN (fun c => !decide (c = 10)) (c :: r))))
      else if (tokF (c :: r)).2.2.2 ≠ 0 then [(((tokF (c :: r)).2.1, (tokF (c :: r)).2.2.1, (pasN p ((c :: r).take (tokF (c :: r)).1)).1, (pasN p ((c :: r).take (tokF (c :: r)).1)).2), (tokF (c :: r)).2.2.2)]
        else (((tokF (c :: r)).2.1, (tokF (c :: r)).2.2.1, p.1, p.2), 0) :: emi f ((c :: r).drop (tokF (c :: r)).1) (pasN p ((c :: r).take (tokF (c :: r)).1)) := rfl
    rw [e]
    split
    · obtain ⟨pre, last, h1, h2, h3, h4⟩ := emi_shape f r (pas1 p c)
      exact ⟨pre, last, h1, fun x hx => ⟨(h2 x hx).1, (h2 x hx).2.1, Nat.le_succ_of_le (h2 x hx).2.2⟩, h3, Nat.le_succ_of_le h4⟩
    · split
      · obtain ⟨pre, last, h1, h2, h3, h4⟩ := emi_shape f ((c :: r).drop (runN (fun c => !decide (c = 10)) (c :: r))) (pasN p ((c :: r).take (runN (fun c => !decide (c = 10)) (c :: r))))
        rw [List.length_drop] at h2 h4
        exact ⟨pre, last, h1, fun x hx => ⟨(h2 x hx).1, (h2 x hx).2.1, Nat.le_trans (h2 x hx).2.2 (Nat.sub_le _ _)⟩, h3, Nat.le_trans h4 (Nat.sub_le _ _)⟩
      · split
        · rename_i h
          exact ⟨[], _, rfl, by simp, fun g => absurd g h, tok_out _⟩
        · obtain ⟨pre, last, h1, h2, h3, h4⟩ := emi_shape f ((c :: r).drop (tokF (c :: r)).1) (pasN p ((c :: r).take (tokF (c :: r)).1))
          rw [List.length_drop] at h2 h4
          refine ⟨_ :: pre, last, by rw [h1]; rfl, fun x hx => ?_, h3, Nat.le_trans h4 (Nat.sub_le _ _)⟩
          rcases List.mem_cons.1 hx with rfl | hx
          · exact ⟨rfl, tok_kind _, tok_out _⟩
          · exact ⟨(h2 x hx).1, (h2 x hx).2.1, Nat.le_trans (h2 x hx).2.2 (Nat.sub_le _ _)⟩
theorem sca_shape (s : Byts) : ((scaF s).2.2.2 = 0 → EndL (scaF s).1) ∧ ∀ t ∈ (scaF s).1, t.2.1.length < 900000 := by
  unfold scaF
  split
  · exact ⟨fun h => absurd h (show ¬ (5 : Int) = 0 by decide), fun t ht => absurd ht List.not_mem_nil⟩
  · rename_i hl
    rw [← col_emi]
    obtain ⟨pre, last, h1, h2, h3, h4⟩ := emi_shape (s.length + 1) s (1, 1)
    rw [h1]
    by_cases h : last.2 = 0
    · have := col_ok (pre ++ [last]) [] [] (fun x hx => by
        rcases List.mem_append.1 hx with hx | hx
        · exact (h2 x hx).1
        · rw [List.mem_singleton.1 hx]; exact h)
      rw [List.append_nil, List.nil_append] at this
      rw [this]
      refine ⟨fun _ => ⟨pre.map Prod.fst, last.1, by rw [List.map_append]; rfl, h3 h, fun x hx => ?_⟩, fun t ht => ?_⟩
      · obtain ⟨y, hy, rfl⟩ := List.mem_map.1 hx
        exact (h2 y hy).2.1
      · obtain ⟨y, hy, rfl⟩ := List.mem_map.1 ht
        rcases List.mem_append.1 hy with hy | hy
        · have := (h2 y hy).2.2; omega
        · rw [List.mem_singleton.1 hy]; omega
    · have := col_bad (pre := pre) (x := last) (fun x hx => (h2 x hx).1) h []
      rw [List.append_nil] at this
      rw [this]
      exact ⟨fun g => absurd g h, fun t ht => by cases ht⟩
theorem New_spec (s : Byts) (w : World) (hT : TabS (Hp.whole w)) : CallsE Tryz.prog 17 #[.string (bs s)] w (Ret w fun v cs => ∃ b h k, v = .pointer (some ⟨b, 0, none⟩) ∧ cs = [.hp h, .hp k] ∧ Rdr k h b (newR s)) := by
  refine enter (X := cx 20) (cxg _) (args := [.string (bs s)]) [.tmp 2] Tryz.func17 rfl rfl rfl rfl rfl ?_
  refine call (fun w' hm => Scan_spec s w' (hT.mono (hm 0 _ rfl).whole)) ?_
  rintro _ _ ⟨o, rfl, rfl, hO⟩
  intro b19
  have hb : OwnO (fun _ : Unit => rcs o.a o.n o.c (newR s)) 78 4 ⟨some ⟨b19, 0, none⟩, 1, 1, (Ch.box b19 (rcs o.a o.n o.c (newR s)) 78).h⟩ [()] := OwnO.ofBox (fun _ => rfl) [()] (by simp) rfl (by decide)
  refine ⟨[.hp (Ch.box b19 (rcs o.a o.n o.c (newR s)) 78).h, .hp o.h], ⟨b19, _, _, rfl, rfl, o.a, o.n, o.c, hb.2, OwnO.sl (f := fT) (fun _ => rfl) (by decide) hO, (sca_shape s).1, (sca_shape s).2⟩, fun w' h => ?_⟩
  have h2 : Ok w [.hp (Hp.whole w), .box b19 (rcs o.a o.n o.c (newR s)) 78, .hp o.h] w' := h.pick [0, 2, 1] rfl rfl
  exact Ok.same (i := 1) (c := .box b19 (rcs o.a o.n o.c (newR s)) 78) (d := .hp (Ch.box b19 (rcs o.a o.n o.c (newR s)) 78).h) rfl rfl h2
end Go.Proofs.YtoholjdojdmbkaaGreatDoor
namespace Go.Proofs.YtoholjdojdmbkaaGreatDoor
open Go Go.RowKit Go.Dw
theorem eqTokIn (w : World) (d : Nat) (a b : Tok) : (Op.equalIn (d + 1 + 1) 32 (encT a) (encT b)).run Tryz.prog w = .ok (decide (a = b)) w := by
  obtain ⟨a1, a2, a3, a4⟩ := a
  obtain ⟨b1, b2, b3, b4⟩ := b
  unfold encT
  rw [run_equalIn_struct w _ _ _ _ (by kernel_rfl) (by kernel_rfl)]
  have e : (Tryz.prog.fieldsOf 32).toList = [⟨"Kind", 3, 0, false, "", "", 0⟩, ⟨"Text", 9, 1, false, "", "", 8⟩, ⟨"Line", 3, 2, false, "", "", 24⟩, ⟨"Column", 3, 3, false, "", "", 32⟩] := by kernel_rfl
  have hi : ∀ x y : Int, (Op.equalIn (d + 1) 3 (.int .i64 x) (.int .i64 y)).run Tryz.prog w = .ok (x == y) w := fun x y => run_equalIn_int w d 3 .i64 .i64 x y Tryz.underlying3
  have hs : ∀ x y : ByteArray, (Op.equalIn (d + 1) 9 (.string x) (.string y)).run Tryz.prog w = .ok (decide (x = y)) w := fun x y => by
    rw [run_equalIn_string w d 9 x y Tryz.underlying9, str_eq]
  rw [e]
  simp only [Op.eqFields, ne_eq, String.reduceEq, not_false_eq_true, if_true, Sem.run_bind, part, Tryz.isAgg3, Result.andThen_ok]
  simp [hi, hs]
  have hb : (bs a2 = bs b2) ↔ a2 = b2 := by
    have := bs_dec a2 b2
    rw [decide_eq_decide] at this; exact this
  have hc3 : ((a3 : Int) = b3) ↔ a3 = b3 := by omega
  have hc4 : ((a4 : Int) = b4) ↔ a4 = b4 := by omega
  by_cases h1 : a1 = b1 <;> by_cases h2 : a2 = b2 <;> by_cases h3 : a3 = b3 <;> by_cases h4 : a4 = b4 <;> simp [h1, h2, h3, h4, hb, hc3, hc4]
theorem eqTok (w : World) (a b : Tok) : (Op.equalIn 10000 32 (encT a) (encT b)).run Tryz.prog w = .ok (decide (a = b)) w := eqTokIn w 9998 a b
section
variable {s : List Ch} {xo yo : Operand} {a b : Tok} {q : TV → Prop}
theorem qTokNe (h : q (.v (.bool (decide (a ≠ b))))) : NeedQ Tryz.prog s (do eqGuard .neq 32 xo yo (encT a) (encT b); binOp .neq 32 (encT a) (encT b)) q := by
  refine ⟨_, fun w _ => ?_, h⟩
  unfold encT
  rw [Sem.run_bind, run_eqGuard_agg w _ _ _ _ _ _ Tryz.eqGuardType32]
  simp only [Result.andThen_ok]
  have := eqTok w a b
  unfold encT at this
  rw [run_neq_struct, this]
  by_cases h1 : a = b <;> simp [h1]
theorem qTokEq (h : q (.v (.bool (decide (a = b))))) : NeedQ Tryz.prog s (do eqGuard .eql 32 xo yo (encT a) (encT b); binOp .eql 32 (encT a) (encT b)) q := by
  refine ⟨_, fun w _ => ?_, h⟩
  unfold encT
  rw [Sem.run_bind, run_eqGuard_agg w _ _ _ _ _ _ Tryz.eqGuardType32]
  simp only [Result.andThen_ok]
  have := eqTok w a b
  unfold encT at this
  rw [run_eql_struct, this]
  rfl
end
end Go.Proofs.YtoholjdojdmbkaaGreatDoor
