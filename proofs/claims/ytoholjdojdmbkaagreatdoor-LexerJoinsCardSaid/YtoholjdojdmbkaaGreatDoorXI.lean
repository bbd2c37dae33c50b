/- Parts of one proof, joined: Io, Ip, Iq, Ir, Is. No condition of its own. -/
import Derived.Test.YtoholjdojdmbkaaGreatDoorXH
import Derived.Test.YtoholjdojdmbkaaGreatDoorYIw
import Derived.Test.YtoholjdojdmbkaaGreatDoorYIx
namespace Go.Proofs.YtoholjdojdmbkaaGreatDoor
open Go Go.RowKit Go.Dw
def fS (x : Byts) : List Value := [.string (bs x)]
/-- the table of ASCII blanks -/
def TabS (h : Hp) : Prop := ∀ c : Nat, c < 256 → h.cell? ⟨0, c, none⟩ = some (.int .u8 (if Lib.isSp (UInt8.ofNat c) then 1 else 0))
theorem TabS.mono {h k : Hp} (ht : TabS h) (l : h.le k) : TabS k := fun j hj => l.cell (ht j hj)
def symsT : Byts := [46, 46, 32, 60, 61, 32, 62, 61, 32, 45, 62, 32, 123, 32, 125, 32, 40, 32, 41, 32, 91, 32, 93, 32, 44, 32, 59, 32, 58, 32, 61, 32, 60, 32, 62, 32, 43, 32, 45, 32, 42, 32, 47, 32, 64]
theorem fields_spec (s : Byts) (hs : s.length < 100000) (ha : s.all (fun b => decide (b.toNat < 128)) = true) (hn : (Lib.fields s).length < 100000) (w : World) (hT : TabS (Hp.whole w)) :
    CallsE Tryz.prog 113 #[.string (bs s)] w (Ret w fun v cs => ∃ g a n c, cs = [.hp g] ∧ v = .slice a n c ∧ Sl (encF fS) 1 g a n c (Lib.fields s)) := by
  have he := enters_of (args := #[.string (bs s)]) Tryz.func113 (by kernel_rfl) rfl
  have hasc : ∀ (j : Nat) b, (bs s).data.toList[j]? = some b → b.toNat < 128 := fun j b h => by
    have := List.all_eq_true.1 ha b (List.mem_of_getElem? h)
    simpa using this
  have hcon := Any.strings_Fields_core Tryz.lFi (by kernel_rfl) (bs s) w (by rw [bs_size]; omega) hasc (fun c hc => (Hp.whole_in w).cell (hT c hc))
  change Calls Tryz.prog 113 _ _ _ at hcon
  refine ⟨he, hcon.mono ?_⟩
  rintro e w' ⟨rfl, rfl⟩
  rw [bs_data]
  have hb := OwnO.ofBox (f := fS) (sz := 1) (b := w.heap.size) (T := 9) (fun _ => rfl) (Lib.fields s) rfl rfl (by omega)
  have hsl := OwnO.sl (f := fS) (sz := 1) (fun _ => rfl) (by decide) hb
  refine ⟨_, [.hp (Ch.box w.heap.size ((Lib.fields s).flatMap fS) 9).h], rfl, ?_, _, _, _, _, rfl, rfl, hsl⟩
  have h0 := (Ok.start w).alloc (.box w.heap.size ((Lib.fields s).flatMap fS) 9) (.cells ((Lib.fields s).flatMap fS).toArray 9 (0, 0)) rfl
  have e : (Lib.fields s).map (fun l => Value.string ⟨l.toArray⟩) = (Lib.fields s).flatMap fS := by
    generalize Lib.fields s = F
    induction F with
    | nil => rfl
    | cons x r ih => rw [List.map_cons, ih]; rfl
  rw [← e] at h0 ⊢
  exact h0.boxHp
def symL : List Byts := twoS ++ oneS.map fun c => [c]
theorem fields_syms : Lib.fields symsT = symL := by decide +kernel
def symF (s : Byts) : Nat × Byts × Int := if symN s = 0 then (0, [], 14) else (symN s, s.take (symN s), 0)
theorem find_congr {α : Type} {p q : α → Bool} : ∀ {l : List α}, (∀ x ∈ l, p x = q x) → l.find? p = l.find? q
  | [], _ => rfl
  | x :: l, h => by
    rw [List.find?_cons, List.find?_cons, h x (by simp), find_congr fun y hy => h y (List.mem_cons_of_mem _ hy)]
theorem symF_find (s : Byts) : symF s = match symL.find? (preB s) with | some x => (x.length, x, 0) | none => (0, [], 14) := by
  have h2 : ∀ x ∈ twoS, preB s x = decide (s.take 2 = x) := fun x hx => by
    have hl : x.length = 2 := by
      simp only [twoS, List.mem_cons, List.not_mem_nil, or_false] at hx
      rcases hx with rfl | rfl | rfl | rfl <;> rfl
    unfold preB
    rw [hl]
    by_cases h : s.take 2 = x
    · have : 2 ≤ s.length := by
        have := congrArg List.length h
        rw [List.length_take, hl] at this; omega
      rw [decide_eq_true this, decide_eq_true h]; rfl
    · rw [decide_eq_false h, Bool.and_false]
  have hf2 : twoS.find? (preB s) = twoS.find? fun x => decide (s.take 2 = x) := find_congr h2
  unfold symL
  rw [List.find?_append, hf2]
  unfold symF symN
  cases hc : twoS.find? (fun x => decide (s.take 2 = x)) with
  | some x =>
    have h1 := List.find?_some hc
    have hm := List.mem_of_find?_eq_some hc
    rw [decide_eq_true_eq] at h1
    have hany : (twoS.any fun x => decide (s.take 2 = x)) = true := List.any_eq_true.2 ⟨x, hm, decide_eq_true h1⟩
    have hl : x.length = 2 := by
      simp only [twoS, List.mem_cons, List.not_mem_nil, or_false] at hm
      rcases hm with rfl | rfl | rfl | rfl <;> rfl
    rw [if_pos hany, if_neg (by decide)]
    show (2, s.take 2, (0 : Int)) = (x.length, x, 0)
    rw [h1, hl]
  | none =>
    have hany : ¬ (twoS.any fun x => decide (s.take 2 = x)) = true := fun h => by
      obtain ⟨x, hx, h1⟩ := List.any_eq_true.1 h
      have := List.find?_eq_none.1 hc x hx
      exact this h1
    rw [if_neg hany]
    rw [Option.none_or, List.find?_map]
    have hp1 : (preB s ∘ fun c => [c]) = fun c => (decide (s.getD 0 0 = c) && decide (0 < s.length)) := funext fun c => preB_one s c
    rw [hp1]
    cases hc1 : oneS.find? (fun c => (decide (s.getD 0 0 = c) && decide (0 < s.length))) with
    | some c =>
      have h1 := List.find?_some hc1
      have hm := List.mem_of_find?_eq_some hc1
      rw [Bool.and_eq_true, decide_eq_true_eq, decide_eq_true_eq] at h1
      have hc3 : s.length ≠ 0 ∧ s.getD 0 0 ∈ oneS := ⟨by omega, by rw [h1.1]; exact hm⟩
      rw [if_pos hc3, if_neg (by decide)]
      cases s with
      | nil => simp at h1
      | cons d r => have : d = c := h1.1; subst this; rfl
    | none =>
      have hn : ¬ (s.length ≠ 0 ∧ s.getD 0 0 ∈ oneS) := fun h => by
        have := List.find?_eq_none.1 hc1 _ h.2
        rw [decide_eq_true rfl, decide_eq_true (show 0 < s.length by omega)] at this
        exact this rfl
      simp only [if_neg hn, if_true]; rfl
theorem symbol_spec (s : Byts) (w : World) (hT : TabS (Hp.whole w)) : CallsE Tryz.prog 75 #[.string (bs s)] w (Ret w fun v cs => cs = [] ∧ v = trip (symF s)) := by
  rw [symF_find]
  refine enter (X := cx 20) (cxg _) (args := [.string (bs s)]) [.tmp 2, .tmp 3, .tmp 4] Tryz.func75 rfl rfl rfl rfl rfl ?_
  refine call (fun w' hm => fields_spec symsT (by decide) (by decide) (by rw [fields_syms]; decide) w' (hT.mono (hm 0 _ rfl).whole)) ?_
  rintro _ _ ⟨g, a, n, c, rfl, rfl, hF⟩
  rw [fields_syms] at hF
  have hn := hF.len
  refine NeedL.mk Nat (fun k => [(0, .v (.string (bs s))), (7, .v (.slice a n c)), (8, .v (.int .i64 n)), (9, .v (.int .i64 k))]) (fun _ => [.hp (Hp.whole w), .hp g])
    (fun k => k ≤ symL.length ∧ ∀ x ∈ symL.take k, preB s x = false) (fun k => symL.length - k) 0 ⟨Nat.zero_le _, nofun⟩ (Ent.mk (fun _ _ h => h) rfl rfl) ?_
  rintro k ⟨hk, ha⟩
  dsimp only at *
  have hL : symL.length = 21 := rfl
  refine bsplitd (fun h1 => ?_) (fun h1 => ?_)
  · have hk' : k < symL.length := by omega
    refine idx (cxg _) (e := 9) rfl hF k rfl hk' (fun b9 o9 cs hcs hR hcell2 => ?_)
    subst hR
    refine ld1 (cxg _) (i := 1) rfl (hcell2 0 _ rfl) rfl ?_
    have hfd : preB s symL[k] = true → symL.find? (preB s) = some symL[k] := fun h => by
      have e : symL = symL.take k ++ symL[k] :: symL.drop (k + 1) := by rw [← List.drop_eq_getElem_cons hk', List.take_append_drop]
      have hnone : (symL.take k).find? (preB s) = none := List.find?_eq_none.2 fun x hx => by rw [ha x hx]; decide
      conv => lhs; rw [e]
      rw [List.find?_append, hnone, List.find?_cons, h]; rfl
    have htk := take_snoc symL k hk'
    generalize symL[k] = x at *
    have hxz := bs_size x
    refine callV _ (fun w' hm => hasPrefix_spec s x w') ?_
    refine bsplit (fun h3 => ?_) (fun h3 => ?_)
    · rw [hfd h3]
      exact ⟨[], ⟨rfl, by unfold trip; rw [hxz]⟩, fun w' h => h.pick [0] rfl rfl⟩
    · refine nw (by omega) (by omega) ?_
      exact ⟨k + 1, ⟨by omega, fun y hy => by
        rw [htk] at hy
        rcases List.mem_append.1 hy with h | h
        · exact ha y h
        · rw [List.mem_singleton] at h; rw [h]; exact h3⟩, by omega, Ent.mk (fun _ _ h => h) rfl rfl⟩
  · rw [List.take_of_length_le (by omega)] at ha
    have hnone : symL.find? (preB s) = none := List.find?_eq_none.2 fun x hx => by rw [ha x hx]; decide
    rw [hnone]
    exact ⟨[], ⟨rfl, rfl⟩, fun w' h => h.pick [0] rfl rfl⟩
end Go.Proofs.YtoholjdojdmbkaaGreatDoor
namespace Go.Dw
open Go Go.RowKit
/-- all blocks from B on -/
def aboveH (B : Nat) (w : World) : Hp := fun b => if B ≤ b then w.heap[b]? else none
theorem aboveH_in (B : Nat) (w : World) : (aboveH B w).In w := fun b o h => by
  unfold aboveH at h
  split at h
  · exact h
  · cases h
/-- old memory as it was; what is new in one chunk -/
theorem Ok.above {w0 we w w' : World} {h : Hp} (hok : Ok w0 [.hp (Hp.whole we), .hp h] w) (hb : Below we.heap.size w w') : Ok w0 [.hp (Hp.whole we), .hp (aboveH we.heap.size w')] w' := by
  refine ⟨hb.os.trans hok.os, hb.tape.trans hok.tape, hb.output.trans hok.output, Nat.le_trans hok.size hb.size, Nat.le_refl _, fun i c e => ?_, fun i j c d hij e1 e2 => ?_⟩
  · match i, e with
    | 0, e =>
      simp [sget] at e; subst e
      intro b o hbo
      have h1 : we.heap[b]? = some o := hbo
      have hlt : b < we.heap.size := by
        rcases Nat.lt_or_ge b we.heap.size with g | g
        · exact g
        · rw [Array.getElem?_eq_none g] at h1; cases h1
      have h2 : w.heap[b]? = some o := hok.mem 0 _ rfl b o hbo
      rw [hb.block b hlt]; exact h2
    | 1, e => simp [sget] at e; subst e; exact aboveH_in _ _
  · have key : (Ch.hp (Hp.whole we)).h.dj (Ch.hp (aboveH we.heap.size w')).h := fun b => by
      by_cases g : b < we.heap.size
      · right; show aboveH _ _ b = none; unfold aboveH; rw [if_neg (by omega)]
      · left; show we.heap[b]? = none; exact Array.getElem?_eq_none (by omega)
    match i, j, e1, e2 with
    | 0, 0, _, _ => exact absurd rfl hij
    | 1, 1, _, _ => exact absurd rfl hij
    | 0, 1, e1, e2 => simp [sget] at e1 e2; subst e1; subst e2; exact key
    | 1, 0, e1, e2 => simp [sget] at e1 e2; subst e1; subst e2; exact key.symm
theorem whole_size {we w : World} (h : (Hp.whole we).In w) : we.heap.size ≤ w.heap.size := by
  refine Nat.le_of_not_lt fun g => ?_
  have h1 : we.heap[w.heap.size]? = some (we.heap[w.heap.size]'g) := Array.getElem?_eq_getElem g
  have h2 : w.heap[w.heap.size]? = some _ := h _ _ h1
  rw [Array.getElem?_eq_none (Nat.le_refl _)] at h2; cases h2
end Go.Dw
namespace Go.Proofs.YtoholjdojdmbkaaGreatDoor
open Go Go.RowKit Go.Dw Go.Shelf
def lWB_ren : Go.Shelf.Ren := ⟨fun | 167 => 112 | 240 => 125 | 276 => 151 | n => n, fun | 0 => 0 | 4 => 4 | 5 => 5 | 9 => 9 | 20 => 20 | 37 => 23 | 70 => 135 | 72 => 137 | 75 => 128 | 80 => 56 | 164 => 192 | n => n, fun | n => n⟩
theorem lWB : Go.Proofs.Lays.n167 Tryz.prog lWB_ren where
  mixed := by kernel_rfl
  f167 := Tryz.func112.trans (congrArg some (by kernel_rfl))
  f240 := Tryz.func125.trans (congrArg some (by kernel_rfl))
  f276 := Tryz.func151.trans (congrArg some (by kernel_rfl))
  t0 := Tryz.underlying0
  a0 := Tryz.isAgg0
  z0 := Tryz.sizeOf0
  v0 := Tryz.zeroValue0
  t4 := Tryz.underlying4
  a4 := Tryz.isAgg4
  z4 := Tryz.sizeOf4
  v4 := Tryz.zeroValue4
  t5 := Tryz.underlying5
  a5 := Tryz.isAgg5
  z5 := Tryz.sizeOf5
  v5 := Tryz.zeroValue5
  t9 := Tryz.underlying9
  a9 := Tryz.isAgg9
  z9 := Tryz.sizeOf9
  v9 := Tryz.zeroValue9
  t20 := Tryz.underlying20
  a20 := Tryz.isAgg20
  z20 := Tryz.sizeOf20
  v20 := Tryz.zeroValue20
  t37 := Tryz.underlying23
  a37 := Tryz.isAgg23
  z37 := Tryz.sizeOf23
  v37 := Tryz.zeroValue23
  t70 := Tryz.underlying135
  a70 := Tryz.isAgg135
  z70 := Tryz.sizeOf135
  v70 := Tryz.zeroValue135
  t72 := Tryz.underlying137
  a72 := Tryz.isAgg137
  z72 := Tryz.sizeOf137
  v72 := Tryz.zeroValue137
  t75 := Tryz.underlying128
  a75 := Tryz.isAgg128
  z75 := Tryz.sizeOf128
  v75 := Tryz.zeroValue128
  t164 := Tryz.underlying192
  a164 := Tryz.isAgg192
  z164 := Tryz.sizeOf192
  v164 := Tryz.zeroValue192
theorem exWB : Go.Proofs.Builder.Extra Tryz.prog lWB_ren where
  sizeBuilder := by kernel_rfl
  liesBuilder := by kernel_rfl
  t5 := Tryz.underlying5
  a5 := Tryz.isAgg5
  z5 := Tryz.sizeOf5
  v5 := Tryz.zeroValue5
  infoByte := by kernel_rfl
  cellsByte := by kernel_rfl
  sizeByte := by kernel_rfl
  neB5 := by decide
theorem exSt : Go.Proofs.Builder.Extra Tryz.prog Tryz.lSt_ren where
  sizeBuilder := by kernel_rfl
  liesBuilder := by kernel_rfl
  t5 := Tryz.underlying5
  a5 := Tryz.isAgg5
  z5 := Tryz.sizeOf5
  v5 := Tryz.zeroValue5
  infoByte := by kernel_rfl
  cellsByte := by kernel_rfl
  sizeByte := by kernel_rfl
  neB5 := by decide
/-- heaplet h holds a builder at block b with the bytes l; all its blocks from B on -/
def BIn (B b : Nat) (l : Byts) (h : Hp) : Prop := (∃ o, h b = some o) ∧ (B ≤ b → ∀ w : World, h.In w → Lib.IsBuilder 137 5 B b (Lib.byteCells l) w)
theorem BIn.new (B b : Nat) : BIn B b [] (Ch.box b [.pointer none, .slice none 0 0] 137).h := ⟨⟨_, Hp.one_self _ _⟩, fun hB w hin => by
  have hb : w.heap[b]? = some (.cells #[.pointer none, .slice none 0 0] 137 (0, 0)) := hin b _ (Hp.one_self _ _)
  exact .inl ⟨hB, .slice none 0 0, hb, ⟨rfl, .inl ⟨rfl, rfl⟩⟩, by simp [Value.ownBlock]⟩⟩
theorem BIn.ge {we : World} {b : Nat} {l : Byts} {h : Hp} (hB : BIn we.heap.size b l h) (hd : (Hp.whole we).dj h) : we.heap.size ≤ b := by
  obtain ⟨o, ho⟩ := hB.1
  refine Nat.le_of_not_lt fun g => ?_
  rcases hd b with h1 | h1
  · have h2 : we.heap[b]? = none := h1
    rw [Array.getElem?_eq_getElem g] at h2; cases h2
  · rw [ho] at h1; cases h1
theorem BIn.of {B b : Nat} {l : Byts} {w : World} (h : Lib.BuilderAt 137 5 B b (.pointer (some ⟨b, 0, none⟩)) (Lib.byteCells l) w) : BIn B b l (aboveH B w) := by
  obtain ⟨hB, v, hb, hown, hne⟩ := h
  refine ⟨⟨_, by unfold aboveH; rw [if_pos hB]; exact hb⟩, fun _ w2 hin => .inr ?_⟩
  have up : ∀ k o, B ≤ k → w.heap[k]? = some o → w2.heap[k]? = some o := fun k o hk ho => hin k o (by unfold aboveH; rw [if_pos hk]; exact ho)
  refine ⟨hB, v, up b _ hB hb, ⟨hown.1, ?_⟩, hne⟩
  rcases hown.2 with h0 | ⟨g, cap, cur, e, hg, hh, rest⟩
  · exact .inl h0
  · exact .inr ⟨g, cap, cur, e, hg, up g _ hg hh, rest⟩
theorem byteCells_snoc (l : Byts) (c : UInt8) : Lib.byteCells l ++ [.int .u8 c.toNat] = Lib.byteCells (l ++ [c]) := by
  unfold Lib.byteCells; simp
theorem bWrite {we : World} {h : Hp} {b : Nat} {l : Byts} (c : UInt8) (hB : BIn we.heap.size b l h) (hBb : we.heap.size ≤ b) (hl : l.length < 1000000) {q : TV → List Ch → Prop} (k : ∀ h', BIn we.heap.size b (l ++ [c]) h' → q (.v .nilIface) [.hp (Hp.whole we), .hp h']) :
    NeedF Tryz.prog [.hp (Hp.whole we), .hp h] 112 [.pointer (some ⟨b, 0, none⟩), .int .u8 c.toNat] q := by
  refine ⟨fun w0 w hok => ⟨enters_of Tryz.func112 (by kernel_rfl) rfl _, ?_⟩⟩
  have hcon := Any.Builder_WriteByte lWB exWB we.heap.size b (Lib.byteCells l) (c.toNat : Int) w (hB.2 hBb w (hok.mem 1 _ rfl)) (by rw [Lib.byteCells_length]; omega) (whole_size (hok.mem 0 _ rfl))
  change Calls Tryz.prog 112 _ _ _ at hcon
  refine hcon.mono ?_
  rintro e w' ⟨rfl, hb, hbel⟩
  refine ⟨_, _, rfl, hok.above hbel, Keep.set (i := 1) (c := .hp h) rfl (fun b cs T e => by cases e), k _ ?_⟩
  rw [byteCells_snoc] at hb
  exact BIn.of hb
theorem bLen_spec {B b : Nat} {l : Byts} {h : Hp} (hB : BIn B b l h) (hBb : B ≤ b) (w : World) (hin : h.In w) : CallsE Tryz.prog 99 #[.pointer (some ⟨b, 0, none⟩)] w (RetV w (.int .i64 l.length)) := by
  have hcon := Any.Builder_Len Tryz.lLe B b (Lib.byteCells l) w (hB.2 hBb w hin)
  change Calls Tryz.prog 99 _ _ _ at hcon
  refine callsLib (enters_of Tryz.func99 (by kernel_rfl) rfl _) hcon ?_
  rintro e w' ⟨rfl, rfl⟩
  exact ⟨by rw [Lib.byteCells_length], Below.refl _ _, Nat.le_refl _⟩
theorem bString {we : World} {h : Hp} {b : Nat} {l : Byts} (hB : BIn we.heap.size b l h) (hBb : we.heap.size ≤ b) {q : TV → List Ch → Prop} (k : ∀ h', q (.v (.string (bs l))) [.hp (Hp.whole we), .hp h']) :
    NeedF Tryz.prog [.hp (Hp.whole we), .hp h] 100 [.pointer (some ⟨b, 0, none⟩)] q := by
  refine ⟨fun w0 w hok => ⟨enters_of Tryz.func100 (by kernel_rfl) rfl _, ?_⟩⟩
  have hcon := Any.Builder_String_any Tryz.lSt exSt we.heap.size b l w (hB.2 hBb w (hok.mem 1 _ rfl)) (whole_size (hok.mem 0 _ rfl))
  change Calls Tryz.prog 100 _ _ _ at hcon
  refine hcon.mono ?_
  rintro e w' ⟨rfl, hbel⟩
  exact ⟨_, _, rfl, hok.above hbel, Keep.set (i := 1) (c := .hp h) rfl (fun b cs T e => by cases e), k _⟩
/-! ### strings in a text -/
def badC (c : UInt8) : Prop := c.toNat < 32 ∨ 126 < c.toNat
instance (c : UInt8) : Decidable (badC c) := inferInstanceAs (Decidable (_ ∨ _))
theorem quo_cons (c : UInt8) (r : Byts) (i : Nat) (out : Byts) : quoF (c :: r) i out = if c = 10 then (0, [], 4) else if c = 34 then (if 4096 < out.length then (0, [], 5) else (i + 1, out, 0)) else if badC c then (i, [], 14) else
    if c = 92 then (if r.getD 0 0 = 34 ∨ r.getD 0 0 = 92 then quoF (r.drop 1) (i + 2) (out ++ [r.getD 0 0]) else (i, [], 14)) else quoF r (i + 1) (out ++ [c]) := by
  cases r with
  | nil =>
    unfold quoF badC
    simp
  | cons e r =>
    conv => lhs; unfold quoF
    rfl
end Go.Proofs.YtoholjdojdmbkaaGreatDoor
namespace Go.Dw
open Go Go.RowKit
section
variable {X : Ctx} {all r : List Oper} {o : Oper} {Q : Tm → List Ch → Prop} {t : Tm} {s : List Ch}
/-- one operation of a region, not guarded -/
theorem w1p (hg : o.guard = none) (h : wop X s t o fun tv s' => putk X.n t o.dst tv fun t' => wops X all r Q t' s') : wops X all (o :: r) Q t s := by
  unfold wops wguard
  rw [hg]
  exact h
/-- guarded by a slot that is known -/
theorem wGY {j d : Nat} {b : Bool} (hg : o.guard = some (j, b)) (hj : gslot all j = some d) (ha : aget t d = some (.v (.bool b))) (h : wop X s ((d, .v (.bool b)) :: t) o fun tv s' => putk X.n ((d, .v (.bool b)) :: t) o.dst tv fun t' => wops X all r Q t' s') : wops X all (o :: r) Q t s := by
  unfold wops wguard
  rw [hg]
  dsimp only
  rw [hj]
  dsimp only
  rw [ha]
  cases b <;> exact h
/-- guarded by a slot with a test -/
theorem wGS {j d : Nat} {w b : Bool} (hg : o.guard = some (j, w)) (hj : gslot all j = some d) (ha : aget t d = some (.v (.bool b))) (hy : b = w → wop X s ((d, .v (.bool w)) :: t) o fun tv s' => putk X.n ((d, .v (.bool w)) :: t) o.dst tv fun t' => wops X all r Q t' s')
    (hn : b = !w → putk X.n ((d, .v (.bool !w)) :: t) o.dst (.v undef) fun t' => wops X all r Q t' s) : wops X all (o :: r) Q t s := by
  unfold wops wguard
  rw [hg]
  dsimp only
  rw [hj]
  dsimp only
  rw [ha]
  cases b <;> cases w
  · exact hy rfl
  · exact hn rfl
  · exact hn rfl
  · exact hy rfl
/-- guarded by a slot that is known, not wanted -/
theorem wGN {j d : Nat} {w : Bool} (hg : o.guard = some (j, w)) (hj : gslot all j = some d) (ha : aget t d = some (.v (.bool !w))) (hn : putk X.n ((d, .v (.bool !w)) :: t) o.dst (.v undef) fun t' => wops X all r Q t' s) : wops X all (o :: r) Q t s := by
  unfold wops wguard
  rw [hg]
  dsimp only
  rw [hj]
  dsimp only
  rw [ha]
  cases w <;> exact hn
theorem w1k (hg : o.guard = none) (h : ∀ K : Tm → List Ch → Prop, (∀ t s, wops X all r Q t s → K t s) → wop X s t o fun tv s' => putk X.n t o.dst tv fun t' => K t' s') : wops X all (o :: r) Q t s := w1p hg (h _ fun _ _ h => h)
theorem wGYk {j d : Nat} {b : Bool} (hg : o.guard = some (j, b)) (hj : gslot all j = some d) (ha : aget t d = some (.v (.bool b))) (h : ∀ K : Tm → List Ch → Prop, (∀ t s, wops X all r Q t s → K t s) → wop X s ((d, .v (.bool b)) :: t) o fun tv s' => putk X.n ((d, .v (.bool b)) :: t) o.dst tv fun t' => K t' s') : wops X all (o :: r) Q t s := wGY hg hj ha (h _ fun _ _ h => h)
theorem wGSk {j d : Nat} {w b : Bool} (hg : o.guard = some (j, w)) (hj : gslot all j = some d) (ha : aget t d = some (.v (.bool b))) (hy : b = w → ∀ K : Tm → List Ch → Prop, (∀ t s, wops X all r Q t s → K t s) → wop X s ((d, .v (.bool w)) :: t) o fun tv s' => putk X.n ((d, .v (.bool w)) :: t) o.dst tv fun t' => K t' s')
    (hn : b = !w → ∀ K : Tm → List Ch → Prop, (∀ t s, wops X all r Q t s → K t s) → putk X.n ((d, .v (.bool !w)) :: t) o.dst (.v undef) fun t' => K t' s) : wops X all (o :: r) Q t s := wGS hg hj ha (fun e => hy e _ fun _ _ h => h) (fun e => hn e _ fun _ _ h => h)
theorem wGNk {j d : Nat} {w : Bool} (hg : o.guard = some (j, w)) (hj : gslot all j = some d) (ha : aget t d = some (.v (.bool !w))) (hn : ∀ K : Tm → List Ch → Prop, (∀ t s, wops X all r Q t s → K t s) → putk X.n ((d, .v (.bool !w)) :: t) o.dst (.v undef) fun t' => K t' s) : wops X all (o :: r) Q t s := wGN hg hj ha (hn _ fun _ _ h => h)
theorem wGUk {j d : Nat} {w : Bool} {x : Array Value} (hg : o.guard = some (j, w)) (hj : gslot all j = some d) (ha : aget t d = some (.v (.tuple x))) (hn : ∀ K : Tm → List Ch → Prop, (∀ t s, wops X all r Q t s → K t s) → putk X.n t o.dst (.v undef) fun t' => K t' s) : wops X all (o :: r) Q t s := by
  unfold wops wguard
  rw [hg]
  dsimp only
  rw [hj]
  dsimp only
  rw [ha]
  exact hn _ fun _ _ h => h
theorem wcond {c : Operand} {x y : Code} {Q : Ex → Tm → List Ch → Prop} {b : Bool} (ha : opv t c = some (.v (.bool b))) (h1 : b = true → WP X x Q t s) (h2 : b = false → WP X y Q t s) : WP X (.cond c x y) Q t s := by
  show tvk s t c _
  unfold tvk
  rw [ha]
  exact bsplit h1 h2
theorem wnil (h : Q t s) : wops X all [] Q t s := h
end
end Go.Dw
namespace Go.Proofs.YtoholjdojdmbkaaGreatDoor
open Go Go.RowKit Go.Dw
theorem hidWP {X : Ctx} {c : Code} {Q : Ex → Tm → List Ch → Prop} {t : Tm} {s : List Ch} (h : ∀ q' : Ex → Tm → List Ch → Prop, (∀ e t s, Q e t s → q' e t s) → WP X c q' t s) : WP X c Q t s := h Q fun _ _ _ h => h
def textF (s : Byts) : Nat × Byts × Int := quoF (s.drop 1) 1 []
theorem drop_at {s : Byts} {n : Nat} (h : n < s.length) : s.drop n = s.getD n 0 :: s.drop (n + 1) := by
  rw [List.drop_eq_getElem_cons h, List.getD_eq_getElem?_getD, List.getElem?_eq_getElem h]; rfl
theorem byte_ne {c : UInt8} {k : UInt8} {z : Int} (hz : z = (k.toNat : Int)) (h : ¬ (c.toNat : Int) = z) : c ≠ k := fun e => h (by rw [e, hz])
theorem byte_is {c : UInt8} {k : UInt8} {z : Int} (hz : z = (k.toNat : Int)) (h : (c.toNat : Int) = z) : c = k := UInt8.toNat_inj.1 (by omega)
set_option maxRecDepth 20000 in
set_option maxHeartbeats 1000000 in
theorem text_spec (s : Byts) (hs : s.length < 500000) (w : World) : CallsE Tryz.prog 73 #[.string (bs s)] w (Ret w fun v cs => cs = [] ∧ v = trip (textF s)) := by
  have hz := bs_size s
  refine enter (X := cx 72) (cxg _) (args := [.string (bs s)]) [.tmp 2, .tmp 3, .tmp 4] Tryz.func73 rfl rfl rfl rfl rfl ?_
  intro b5
  refine NeedL.mkS (Nat × Byts × Hp) (fun g => [(0, .v (.string (bs s))), (2, .v (.int .i64 g.1)), (5, .v (.pointer (some ⟨b5, 0, none⟩)))]) (fun g => [.hp (Hp.whole w), .hp g.2.2])
    (fun g => 1 ≤ g.1 ∧ g.2.1.length < g.1 ∧ quoF (s.drop g.1) g.1 g.2.1 = textF s ∧ g.1 ≤ s.length + 1 ∧ BIn w.heap.size b5 g.2.1 g.2.2) (fun g => s.length + 1 - g.1) (1, [], (Ch.box b5 [.pointer none, .slice none 0 0] 137).h) ⟨Nat.le_refl _, Nat.zero_lt_one, rfl, by dsimp only; omega, BIn.new _ _⟩ (Ent.mk (fun _ _ h => h.boxHp) rfl rfl) ?_
  rintro ⟨n, out, h⟩ ⟨hn1, hol, hq, hnl, hB⟩ hsat
  dsimp only at *
  have hBb := hB.ge (hsat.dj 0 1 rfl rfl (by decide))
  clear hsat
  refine hidWP (fun q' hq' => ?_)
  refine bsplitd (fun h1 => ?_) (fun h1 => ?_)
  · have hn : n < s.length := by omega
    rw [drop_at hn, quo_cons, getD_drop, Nat.add_zero, List.drop_drop] at hq
    generalize hd : s.getD (n + 1) 0 = d at *
    refine qIdxL (cxg _) rfl rfl n rfl hn ?_
    generalize hc : s.getD n 0 = c at *
    conv => whnf
    refine bsplitd (fun h3 => ?_) (fun h3 => ?_)
    · have h3 : c ≠ 10 := byte_ne (k := 10) rfl h3
      rw [if_neg h3] at hq
      refine qIdxL (cxg _) rfl rfl n rfl hn ?_
      rw [hc]
      refine bsplitd (fun h5 => ?_) (fun h5 => ?_)
      · have h5 : c = 34 := byte_is (k := 34) rfl h5
        rw [if_pos h5] at hq
        refine callV _ (fun w' hm => bLen_spec hB hBb w' (hm 1 _ rfl)) ?_
        conv => whnf
        refine bsplitd (fun h6 => ?_) (fun h6 => ?_)
        · rw [if_pos (show 4096 < out.length by clear hq; omega)] at hq
          exact hq' _ _ _ ⟨[], ⟨rfl, by rw [← hq]; rfl⟩, fun w' h => h.pick [0] rfl rfl⟩
        · rw [if_neg (show ¬ 4096 < out.length by clear hq; omega)] at hq
          refine bsplitd (fun _ => ?_) (fun h7 => absurd h5 (byte_ne (k := 34) rfl h7))
          refine nw (by omega) (by omega) ?_
          refine bString hB hBb fun h' => ?_
          exact hq' _ _ _ ⟨[], ⟨rfl, by rw [← hq]; rfl⟩, fun w' h => h.pick [0] rfl rfl⟩
      · have h5 : c ≠ 34 := byte_ne (k := 34) rfl h5
        rw [if_neg h5] at hq
        refine bsplitd (fun h19 => absurd (byte_is (k := 34) rfl h19) h5) (fun _ => ?_)
        refine bsplitd (fun h20 => ?_) (fun h20 => ?_)
        · rw [if_pos (.inl (by omega))] at hq
          exact hq' _ _ _ ⟨[], ⟨rfl, by rw [← hq]; rfl⟩, fun w' h => h.pick [0] rfl rfl⟩
        · refine bsplitd (fun h21 => ?_) (fun h21 => ?_)
          · rw [if_pos (.inr (by omega))] at hq
            exact hq' _ _ _ ⟨[], ⟨rfl, by rw [← hq]; rfl⟩, fun w' h => h.pick [0] rfl rfl⟩
          · rw [if_neg (show ¬ badC c by rintro (g | g) <;> omega)] at hq
            refine bsplitd (fun h22 => ?_) (fun h22 => ?_)
            · have h22 : c = 92 := byte_is (k := 92) rfl h22
              rw [if_pos h22] at hq
              clear h20 h21 h5 h3 h22
              show wops _ _ _ _ _ _
              refine w1k (by rfl) fun K hK => ?_
              refine hK _ _ ?_
              refine w1k (by rfl) fun K hK => ?_
              refine nw (by omega) (by omega) ?_
              refine hK _ _ ?_
              refine w1k (by rfl) fun K hK => ?_
              refine hK _ _ ?_
              refine w1k (by rfl) fun K hK => ?_
              refine hK _ _ ?_
              refine w1k (by rfl) fun K hK => ?_
              refine hK _ _ ?_
              refine w1k (by rfl) fun K hK => ?_
              refine hK _ _ ?_
              refine wGSk (by rfl) (by rfl) (by rfl) (fun h23 K hK => ?_) (fun h23 K hK => ?_)
              · have hn2 : n + 1 < s.length := by
                  have := of_decide_eq_false h23
                  omega
                refine hK _ _ ?_
                refine wGYk (by rfl) (by rfl) (by rfl) fun K hK => ?_
                refine hK _ _ ?_
                refine wGYk (by rfl) (by rfl) (by rfl) fun K hK => ?_
                refine nw (by omega) (by omega) ?_
                refine hK _ _ ?_
                refine wGYk (by rfl) (by rfl) (by rfl) fun K hK => ?_
                refine qIdxL (cxg _) rfl rfl (n + 1) (by omega) hn2 ?_
                rw [hd]
                refine hK _ _ ?_
                refine wGYk (by rfl) (by rfl) (by rfl) fun K hK => ?_
                refine hK _ _ ?_
                refine wGYk (by rfl) (by rfl) (by rfl) fun K hK => ?_
                refine hK _ _ ?_
                refine wGSk (by rfl) (by rfl) (by rfl) (fun h25 K hK => ?_) (fun h25 K hK => ?_)
                · have h25 : d ≠ 34 := byte_ne (k := 34) rfl (of_decide_eq_true h25)
                  refine hK _ _ ?_
                  refine wGYk (by rfl) (by rfl) (by rfl) fun K hK => ?_
                  refine hK _ _ ?_
                  refine wGYk (by rfl) (by rfl) (by rfl) fun K hK => ?_
                  refine nw (by omega) (by omega) ?_
                  refine hK _ _ ?_
                  refine wGYk (by rfl) (by rfl) (by rfl) fun K hK => ?_
                  refine qIdxL (cxg _) rfl rfl (n + 1) (by omega) hn2 ?_
                  rw [hd]
                  refine hK _ _ ?_
                  refine wGYk (by rfl) (by rfl) (by rfl) fun K hK => ?_
                  refine hK _ _ ?_
                  refine wGYk (by rfl) (by rfl) (by rfl) fun K hK => ?_
                  refine hK _ _ ?_
                  refine w1k (by rfl) fun K hK => ?_
                  refine hK _ _ ?_
                  refine wnil ?_
                  refine wcond (by rfl) (fun h27 => ?_) (fun h27 => ?_)
                  · have h27 : d ≠ 92 := byte_ne (k := 92) rfl (of_decide_eq_true h27)
                    rw [if_neg (fun g => g.elim h25 h27)] at hq
                    exact hq' _ _ _ ⟨[], ⟨rfl, by rw [← hq]; rfl⟩, fun w' h => h.pick [0] rfl rfl⟩
                  · have h27 : d = 92 := byte_is (k := 92) rfl (Classical.not_not.1 (of_decide_eq_false h27))
                    rw [if_pos (.inr h27)] at hq
                    refine nw (by omega) (by omega) ?_
                    refine qIdxL (cxg _) rfl rfl (n + 1) (by omega) hn2 ?_
                    rw [hd]
                    refine bWrite d hB hBb (by omega) fun h' hB' => ?_
                    refine nw (by omega) (by omega) ?_
                    exact hq' _ _ _ ⟨(n + 2, out ++ [d], h'), ⟨by dsimp only; omega, by simp; omega, hq, by dsimp only; omega, hB'⟩, by dsimp only; omega, Ent.mk (fun _ _ h => h) rfl rfl⟩
                · have h25 : d = 34 := byte_is (k := 34) rfl (Classical.not_not.1 (of_decide_eq_false h25))
                  refine hK _ _ ?_
                  refine wGNk (by rfl) (by rfl) (by rfl) fun K hK => ?_
                  refine hK _ _ ?_
                  refine wGNk (by rfl) (by rfl) (by rfl) fun K hK => ?_
                  refine hK _ _ ?_
                  refine wGNk (by rfl) (by rfl) (by rfl) fun K hK => ?_
                  refine hK _ _ ?_
                  refine wGNk (by rfl) (by rfl) (by rfl) fun K hK => ?_
                  refine hK _ _ ?_
                  refine wGYk (by rfl) (by rfl) (by rfl) fun K hK => ?_
                  refine hK _ _ ?_
                  refine w1k (by rfl) fun K hK => ?_
                  refine hK _ _ ?_
                  refine wnil ?_
                  rw [if_pos (.inl h25)] at hq
                  refine nw (by omega) (by omega) ?_
                  refine qIdxL (cxg _) rfl rfl (n + 1) (by omega) hn2 ?_
                  rw [hd]
                  refine bWrite d hB hBb (by omega) fun h' hB' => ?_
                  refine nw (by omega) (by omega) ?_
                  exact hq' _ _ _ ⟨(n + 2, out ++ [d], h'), ⟨by dsimp only; omega, by simp; omega, hq, by dsimp only; omega, hB'⟩, by dsimp only; omega, Ent.mk (fun _ _ h => h) rfl rfl⟩
              · have h23 := of_decide_eq_true h23
                refine hK _ _ ?_
                refine wGNk (by rfl) (by rfl) (by rfl) fun K hK => ?_
                refine hK _ _ ?_
                refine wGNk (by rfl) (by rfl) (by rfl) fun K hK => ?_
                refine hK _ _ ?_
                refine wGNk (by rfl) (by rfl) (by rfl) fun K hK => ?_
                refine hK _ _ ?_
                refine wGNk (by rfl) (by rfl) (by rfl) fun K hK => ?_
                refine hK _ _ ?_
                refine wGNk (by rfl) (by rfl) (by rfl) fun K hK => ?_
                refine hK _ _ ?_
                refine wGUk (by rfl) (by rfl) (by rfl) fun K hK => ?_
                refine hK _ _ ?_
                refine wGUk (by rfl) (by rfl) (by rfl) fun K hK => ?_
                refine hK _ _ ?_
                refine wGUk (by rfl) (by rfl) (by rfl) fun K hK => ?_
                refine hK _ _ ?_
                refine wGUk (by rfl) (by rfl) (by rfl) fun K hK => ?_
                refine hK _ _ ?_
                refine wGUk (by rfl) (by rfl) (by rfl) fun K hK => ?_
                refine hK _ _ ?_
                refine wGNk (by rfl) (by rfl) (by rfl) fun K hK => ?_
                refine hK _ _ ?_
                refine w1k (by rfl) fun K hK => ?_
                refine hK _ _ ?_
                refine wnil ?_
                have e : d = 0 := by rw [← hd, List.getD_eq_getElem?_getD, List.getElem?_eq_none (by omega)]; rfl
                rw [e, if_neg (by decide)] at hq
                exact hq' _ _ _ ⟨[], ⟨rfl, by rw [← hq]; rfl⟩, fun w' h => h.pick [0] rfl rfl⟩
            · have h22 : c ≠ 92 := byte_ne (k := 92) rfl h22
              rw [if_neg h22] at hq
              refine qIdxL (cxg _) rfl rfl n rfl hn ?_
              rw [hc]
              refine bWrite c hB hBb (by omega) fun h' hB' => ?_
              refine nw (by omega) (by omega) ?_
              exact hq' _ _ _ ⟨(n + 1, out ++ [c], h'), ⟨by dsimp only; omega, by simp; omega, hq, by dsimp only; omega, hB'⟩, by dsimp only; omega, Ent.mk (fun _ _ h => h) rfl rfl⟩
    · have h3 : c = 10 := Classical.byContradiction fun g => h3 fun e => g (byte_is (k := 10) rfl e)
      rw [if_pos h3] at hq
      exact hq' _ _ _ ⟨[], ⟨rfl, by rw [← hq]; rfl⟩, fun w' h => h.pick [0] rfl rfl⟩
  · rw [List.drop_of_length_le (by omega)] at hq
    exact hq' _ _ _ ⟨[], ⟨rfl, by rw [← hq]; rfl⟩, fun w' h => h.pick [0] rfl rfl⟩
end Go.Proofs.YtoholjdojdmbkaaGreatDoor
namespace Go.Proofs.YtoholjdojdmbkaaGreatDoor
open Go Go.RowKit Go.Dw
def plcs (s : Byts) (k l c : Nat) : List Value := [.string (bs s), .int .i64 k, .int .i64 l, .int .i64 c]
/-- a place in a heaplet -/
def PlI (h : Hp) (b : Nat) (s : Byts) (k l c : Nat) : Prop := Own 115 4 h (some ⟨b, 0, none⟩) 1 1 (plcs s k l c)
theorem pasN_snoc (p : Nat × Nat) (l : Byts) (c : UInt8) : pasN p (l ++ [c]) = pas1 (pasN p l) c := by
  unfold pasN; rw [List.foldl_append]; rfl
theorem pasN_le (p : Nat × Nat) : ∀ l : Byts, (pasN p l).1 ≤ p.1 + l.length ∧ (pasN p l).2 ≤ p.2 + l.length + 1 := by
  intro l
  induction l generalizing p with
  | nil => exact ⟨Nat.le_refl _, by show p.2 ≤ p.2 + 0 + 1; omega⟩
  | cons c r ih =>
    have h := ih (pas1 p c)
    have h1 : (pas1 p c).1 ≤ p.1 + 1 ∧ (pas1 p c).2 ≤ p.2 + 1 + 1 ∧ ((pas1 p c).2 = p.2 + 1 ∨ (pas1 p c).2 = 1) := by
      unfold pas1; split <;> simp
    show (pasN (pas1 p c) r).1 ≤ p.1 + (r.length + 1) ∧ (pasN (pas1 p c) r).2 ≤ p.2 + (r.length + 1) + 1
    rcases h1.2.2 with g | g <;> rw [g] at h <;> omega
theorem take_snocD (s : Byts) (a k : Nat) (h : a + k < s.length) : (s.drop a).take (k + 1) = (s.drop a).take k ++ [s.getD (a + k) 0] := by
  have := take_snoc (s.drop a) k (by rw [List.length_drop]; omega)
  rw [this, List.getElem_drop, List.getD_eq_getElem?_getD, List.getElem?_eq_getElem h]; rfl
theorem pass_spec {s : Byts} {b a l c n : Nat} {h : Hp} (w : World) (hin : h.In w) (hP : PlI h b s a l c) (hn : a + n ≤ s.length) (hs : s.length < 1000000) (hl : l < 10000000) (hc : c < 10000000) :
    CallsE Tryz.prog 77 #[.pointer (some ⟨b, 0, none⟩), .int .i64 n] w (RetM w h fun _ h' cs => cs = [] ∧ PlI h' b s (a + n) (pasN (l, c) ((s.drop a).take n)).1 (pasN (l, c) ((s.drop a).take n)).2) := by
  refine enterM (X := cx 43) (cxg _) (args := [.pointer (some ⟨b, 0, none⟩), .int .i64 n]) hin [] Tryz.func77 rfl rfl rfl rfl rfl ?_
  refine NeedL.mk (Nat × Hp) (fun g => [(0, .v (.pointer (some ⟨b, 0, none⟩))), (4, .v (.int .i64 n)), (5, .v (.int .i64 g.1))]) (fun g => [.hp ((Hp.whole w).minus h), .hp g.2])
    (fun g => g.1 ≤ n ∧ PlI g.2 b s (a + g.1) (pasN (l, c) ((s.drop a).take g.1)).1 (pasN (l, c) ((s.drop a).take g.1)).2) (fun g => n - g.1) (0, h) ⟨Nat.zero_le _, hP⟩ (Ent.mk (fun _ _ h => h) rfl rfl) ?_
  rintro ⟨k, hh⟩ ⟨hk, hQ⟩
  dsimp only at *
  have hb := pasN_le (l, c) ((s.drop a).take k)
  rw [List.length_take] at hb
  dsimp only at hb
  refine bsplitd (fun h1 => ?_) (fun h1 => ?_)
  · have hk' : k < n := by omega
    have hsn := pasN_snoc (l, c) ((s.drop a).take k) (s.getD (a + k) 0)
    rw [← take_snocD s a k (by omega)] at hsn
    generalize hL : (pasN (l, c) ((s.drop a).take k)).1 = L at *
    generalize hC : (pasN (l, c) ((s.drop a).take k)).2 = C at *
    have hpp : pasN (l, c) ((s.drop a).take k) = (L, C) := by rw [← hL, ← hC]
    rw [hpp] at hsn
    unfold PlI plcs at hQ
    refine old1 (j := 3) (cxg _) (i := 1) rfl hQ rfl rfl ?_
    refine nw (by omega) (by omega) ?_
    refine ost (j := 3) (cxg _) (i := 1) rfl hQ rfl rfl rfl (by decide) rfl fun h2 hQ2 => ?_
    have hQ3 : Own 115 4 h2 (some ⟨b, 0, none⟩) 1 1 [.string (bs s), .int .i64 ((a + k : Nat) : Int), .int .i64 L, .int .i64 ((C : Int) + 1)] := hQ2
    refine NeedD.by_order (cxg _) (.take 0 <| .take 1 <| .take 2 <| .take 3 <| .take 4 <| .take 5 <| .take 6 <| .take 7 <| .take 8 <| .take 9 <| .done) (by kernel_rfl) ?_
    refine old1 (j := 0) (cxg _) (i := 1) rfl hQ3 rfl rfl ?_
    refine old1 (j := 1) (cxg _) (i := 1) rfl hQ3 rfl rfl ?_
    refine qIdxL (cxg _) rfl rfl (a + k) rfl (by omega) ?_
    generalize s.getD (a + k) 0 = d at *
    refine bsplitd (fun h3 => ?_) (fun h3 => ?_)
    · have hd : d = 10 := UInt8.toNat_inj.1 (by show d.toNat = 10; omega)
      have hp1 : pas1 (L, C) d = (L + 1, 1) := by unfold pas1; rw [if_pos hd]
      rw [hp1] at hsn
      refine old1 (j := 2) (cxg _) (i := 1) rfl hQ3 rfl rfl ?_
      refine nw (by omega) (by omega) ?_
      refine ost (j := 2) (cxg _) (i := 1) rfl hQ3 rfl rfl rfl (by decide) rfl fun h3' hQ4 => ?_
      have hQ5 : Own 115 4 h3' (some ⟨b, 0, none⟩) 1 1 [.string (bs s), .int .i64 ((a + k : Nat) : Int), .int .i64 ((L : Int) + 1), .int .i64 ((C : Int) + 1)] := hQ4
      refine ost (j := 3) (cxg _) (i := 1) rfl hQ5 rfl rfl rfl (by decide) rfl fun h4 hQ6 => ?_
      have hQ7 : Own 115 4 h4 (some ⟨b, 0, none⟩) 1 1 [.string (bs s), .int .i64 ((a + k : Nat) : Int), .int .i64 ((L : Int) + 1), .int .i64 1] := hQ6
      refine old1 (j := 1) (cxg _) (i := 1) rfl hQ7 rfl rfl ?_
      refine nw (by omega) (by omega) ?_
      refine ost (j := 1) (cxg _) (i := 1) rfl hQ7 rfl rfl rfl (by decide) rfl fun h5 hQ8 => ?_
      have hQ9 : PlI h5 b s (a + (k + 1)) (L + 1) 1 := by
        have e : ((a + k : Nat) : Int) + 1 = ((a + (k + 1) : Nat) : Int) := by omega
        have e2 : (L : Int) + 1 = ((L + 1 : Nat) : Int) := by omega
        rw [e, e2] at hQ8
        exact hQ8
      refine nw (by omega) (by omega) ?_
      exact ⟨(k + 1, h5), ⟨by dsimp only; omega, by dsimp only; rw [hsn]; exact hQ9⟩, by dsimp only; omega, Ent.mk (fun _ _ h => h) rfl rfl⟩
    · have hd : ¬ d = 10 := fun e => h3 (by rw [e]; rfl)
      have hp1 : pas1 (L, C) d = (L, C + 1) := by unfold pas1; rw [if_neg hd]
      rw [hp1] at hsn
      refine old1 (j := 1) (cxg _) (i := 1) rfl hQ3 rfl rfl ?_
      refine nw (by omega) (by omega) ?_
      refine ost (j := 1) (cxg _) (i := 1) rfl hQ3 rfl rfl rfl (by decide) rfl fun h5 hQ8 => ?_
      have hQ9 : PlI h5 b s (a + (k + 1)) L (C + 1) := by
        have e : ((a + k : Nat) : Int) + 1 = ((a + (k + 1) : Nat) : Int) := by omega
        have e2 : (C : Int) + 1 = ((C + 1 : Nat) : Int) := by omega
        rw [e, e2] at hQ8
        exact hQ8
      refine nw (by omega) (by omega) ?_
      exact ⟨(k + 1, h5), ⟨by dsimp only; omega, by dsimp only; rw [hsn]; exact hQ9⟩, by dsimp only; omega, Ent.mk (fun _ _ h => h) rfl rfl⟩
  · have : k = n := by omega
    subst this
    exact ⟨hh, [], ⟨rfl, hQ⟩, fun w' h => h⟩
theorem rest_spec {s : Byts} {b a l c : Nat} {h : Hp} (w : World) (hin : h.In w) (hP : PlI h b s a l c) (ha : a ≤ s.length) :
    CallsE Tryz.prog 79 #[.pointer (some ⟨b, 0, none⟩)] w (RetV w (.string (bs (s.drop a)))) := by
  have hP2 : Own 115 4 (Hp.whole w) (some ⟨b, 0, none⟩) 1 1 (plcs s a l c) := by
    refine ⟨hP.1, ?_⟩
    rcases hP.2 with ⟨h0, _⟩ | ⟨b', arr, e1, hb, rest⟩
    · cases h0
    · exact .inr ⟨b', arr, e1, hin.whole _ _ hb, rest⟩
  refine enter (X := cx 12) (cxg _) (args := [.pointer (some ⟨b, 0, none⟩)]) [.tmp 2] Tryz.func79 rfl rfl rfl rfl rfl ?_
  refine NeedD.by_order (cxg _) (.take 0 <| .take 1 <| .take 2 <| .take 3 <| .take 4 <| .take 5 <| .take 6 <| .take 7 <| .take 8 <| .take 9 <| .done) (by kernel_rfl) ?_
  unfold plcs at hP2
  refine old1 (j := 0) (cxg _) (i := 0) rfl hP2 rfl rfl ?_
  refine old1 (j := 1) (cxg _) (i := 0) rfl hP2 rfl rfl ?_
  refine qSub (cxg _) rfl rfl a s.length (.inr ⟨_, _, rfl, rfl⟩) (.inl ⟨rfl, rfl⟩) ha (Nat.le_refl _) ?_
  rw [List.take_length]
  exact ⟨[], ⟨rfl, rfl⟩, fun w' h => h.pick [0] rfl rfl⟩
end Go.Proofs.YtoholjdojdmbkaaGreatDoor
namespace Go.Proofs.YtoholjdojdmbkaaGreatDoor
open Go Go.RowKit Go.Dw
def fC (x : Nat × Nat × Nat) : List Value := [.int .i64 x.1, .func (.func x.2.1) #[] #[], .func (.func x.2.2) #[] #[]]
def clsL : List (Nat × Nat × Nat) := [(1, 68, 69), (2, 70, 71), (3, 72, 73), (4, 74, 75)]
def begF (c : UInt8) : List Bool := [isLow c, isDig c, decide (c = 34), true]
def clsF (c : UInt8) : Nat := if isLow c = true then 0 else if isDig c = true then 1 else if c = 34 then 2 else 3
/-- what the closures of the tokens read: the text, the variable of the place, the place's index -/
structure CapT (h : Hp) (b1 b2 bp : Nat) (s : Byts) (a : Nat) : Prop where
  s : h.cell? ⟨b1, 0, none⟩ = some (.string (bs s))
  p : h.cell? ⟨b2, 0, none⟩ = some (.pointer (some ⟨bp, 0, none⟩))
  a : h.cell? ⟨bp, 1, none⟩ = some (.int .i64 a)
theorem CapT.mono {h k : Hp} {b1 b2 bp : Nat} {s : Byts} {a : Nat} (c : CapT h b1 b2 bp s a) (l : h.le k) : CapT k b1 b2 bp s a := ⟨l.cell c.s, l.cell c.p, l.cell c.a⟩
theorem begin_spec {b1 b2 bp : Nat} {s : Byts} {a : Nat} (w : World) (hc : CapT (Hp.whole w) b1 b2 bp s a) (ha : a < s.length) {x : Nat × Nat × Nat} {r : Bool} (hg : ∀ w', CallsE Tryz.prog x.2.1 #[.int .u8 (s.getD a 0).toNat] w' (RetV w' (.bool r))) :
    CallsE Tryz.prog 82 #[.agg #[.int .i64 x.1, .func (.func x.2.1) #[] #[], .func (.func x.2.2) #[] #[]], .pointer (some ⟨b1, 0, none⟩), .pointer (some ⟨b2, 0, none⟩)] w (RetV w (.bool r)) := by
  refine enter (X := cx 14) (cxg _) (args := [.agg #[.int .i64 x.1, .func (.func x.2.1) #[] #[], .func (.func x.2.2) #[] #[]], .pointer (some ⟨b1, 0, none⟩), .pointer (some ⟨b2, 0, none⟩)]) [.tmp 4] Tryz.func82 rfl rfl rfl rfl rfl ?_
  intro b3
  refine NeedD.by_order (cxg _) (.take 0 <| .take 1 <| .take 2 <| .take 3 <| .take 4 <| .take 5 <| .take 6 <| .take 7 <| .run 8 <| .take 9 <| .done) (by kernel_rfl) ?_
  refine ld1 (cxg _) (i := 0) rfl hc.s rfl ?_
  refine ld1 (cxg _) (i := 0) rfl hc.p rfl ?_
  refine ld1 (cxg _) (i := 0) rfl hc.a rfl ?_
  refine qIdxL (cxg _) rfl rfl a rfl ha ?_
  refine callV _ (fun w' hm => hg w') ?_
  refine ⟨(by repeat first | exact trivial | refine ⟨.inl rfl, ?_⟩ | refine ⟨.inr rfl, ?_⟩), ?_⟩
  exact ⟨[], ⟨rfl, rfl⟩, fun w' h => h.pick [0] rfl rfl⟩
theorem begins_at (c : UInt8) (k : Nat) (hk : k < clsL.length) (hk2 : k < (begF c).length) (w : World) : CallsE Tryz.prog clsL[k].2.1 #[.int .u8 c.toNat] w (RetV w (.bool (begF c)[k])) := by
  match k, hk, hk2 with
  | 0, _, _ => exact letter_spec c w
  | 1, _, _ => exact digit_cspec c w
  | 2, _, _ => exact quote_spec c w
  | 3, _, _ => exact other_spec c w
theorem clsF_at (c : UInt8) {k : Nat} (hk : k < (begF c).length) (h : (begF c)[k] = true) (ho : ∀ i (hi : i < (begF c).length), i < k → (begF c)[i] = false) : clsF c = k := by
  have hl : (begF c).length = 4 := rfl
  unfold clsF
  match k, hk, h, ho with
  | 0, _, h, _ => rw [if_pos (show isLow c = true from h)]
  | 1, _, h, ho =>
    have h0 : isLow c = false := ho 0 (show 0 < 4 by decide) (by decide)
    rw [h0, if_neg (by decide), if_pos (show isDig c = true from h)]
  | 2, _, h, ho =>
    have h0 : isLow c = false := ho 0 (show 0 < 4 by decide) (by decide)
    have h1 : isDig c = false := ho 1 (show 1 < 4 by decide) (by decide)
    have h2 : c = 34 := of_decide_eq_true h
    rw [h0, h1, if_neg (by decide), if_neg (by decide), if_pos h2]
  | 3, _, _, ho =>
    have h0 : isLow c = false := ho 0 (show 0 < 4 by decide) (by decide)
    have h1 : isDig c = false := ho 1 (show 1 < 4 by decide) (by decide)
    have h2 : ¬ c = 34 := of_decide_eq_false (ho 2 (show 2 < 4 by decide) (by decide))
    rw [h0, h1, if_neg (by decide), if_neg (by decide), if_neg h2]
theorem choose_spec {b1 b2 bp : Nat} {s : Byts} {a : Nat} {a1 : Option Addr} {n1 c1 : Nat} (w : World) (hc : CapT (Hp.whole w) b1 b2 bp s a) (ha : a < s.length) (hL : Sl (encF fC) 3 (Hp.whole w) a1 n1 c1 clsL) :
    CallsE Tryz.prog 81 #[.slice a1 n1 c1, .func (.func 82) ⟨[]⟩ ⟨[.pointer (some ⟨b1, 0, none⟩), .pointer (some ⟨b2, 0, none⟩)]⟩] w (RetV w (.int .i64 (clsF (s.getD a 0)))) := by
  have hn := hL.len
  have hl4 : clsL.length = 4 := rfl
  generalize hcc : s.getD a 0 = c
  have hl5 : (begF c).length = 4 := rfl
  refine enter (X := cx 19) (cxg _) (args := [.slice a1 n1 c1, .func (.func 82) ⟨[]⟩ ⟨[.pointer (some ⟨b1, 0, none⟩), .pointer (some ⟨b2, 0, none⟩)]⟩]) [.tmp 4] Tryz.func81 rfl rfl rfl rfl rfl ?_
  refine NeedL.mk Nat (fun k => [(0, .v (.slice a1 n1 c1)), (1, .v (.func (.func 82) ⟨[]⟩ ⟨[.pointer (some ⟨b1, 0, none⟩), .pointer (some ⟨b2, 0, none⟩)]⟩)), (7, .v (.int .i64 n1)), (8, .v (.int .i64 k))]) (fun _ => [.hp (Hp.whole w)])
    (fun k => k < 4 ∧ ∀ i (hi : i < (begF c).length), i < k → (begF c)[i] = false) (fun k => 4 - k) 0 ⟨by decide, fun i _ h => by omega⟩ (Ent.mk (fun _ _ h => h) rfl rfl) ?_
  rintro k ⟨hk, ho⟩
  dsimp only at *
  refine bsplitd (fun h1 => ?_) (fun h1 => ?_)
  · have hk1 : k < clsL.length := by omega
    have hk2 : k < (begF c).length := by omega
    refine idx (cxg _) (e := 110) rfl hL k rfl hk1 (fun b9 o9 cs hcs hR hcell2 => ?_)
    subst hR
    refine ldn (cxg _) (i := 0) rfl hcell2 rfl ?_
    refine callV (.bool (begF c)[k]) (fun w' hm => ?_) ?_
    · have hb := begin_spec (x := clsL[k]) (r := (begF c)[k]) w' (hc.mono (hm 0 _ rfl).whole) ha (by rw [hcc]; exact begins_at c k hk1 hk2)
      exact hb
    refine bsplit (fun h3 => ?_) (fun h3 => ?_)
    · exact ⟨[], ⟨by rw [clsF_at c hk2 h3 ho], rfl⟩, fun w' h => h.pick [0] rfl rfl⟩
    · have hk3 : k ≠ 3 := fun e => by subst e; cases h3
      refine nw (by omega) (by omega) ?_
      exact ⟨k + 1, ⟨by omega, fun i hi h => by
        rcases Nat.lt_or_ge i k with g | g
        · exact ho i hi g
        · have : i = k := by omega
          subst this; exact h3⟩, by omega, Ent.mk (fun _ _ h => h) rfl rfl⟩
  · omega
end Go.Proofs.YtoholjdojdmbkaaGreatDoor
