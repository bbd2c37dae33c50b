/- Contract of the model of layer 50: priority. Its premises are its own. -/
import Derived.Test.YtnlkffccobdbjaaGreatYXf
namespace Go.Proofs.YtnlkffccobdbjaaGreat
open Go Go.RowKit Go.Dw
def prD (TT : List Tk) (rule : Int) (x y : Int) : Int := if rule = 1 then tlV TT y.toNat - tlV TT x.toNat else if rule = 2 then duA TT y.toNat - duA TT x.toNat else 0
def prM (TT : List Tk) (rule : Int) : List Int := srtI (fun x y : Int => decide (prD TT rule x y < 0)) (natL (List.range TT.length))
theorem insR_head {α : Type} {lt : α → α → Bool} {x : α} : ∀ {R : List α}, (∀ y ∈ R, lt x y = false) → insR lt x R = x :: R
  | [], _ => rfl
  | y :: r, h => by unfold insR; rw [h y (by simp)]; rfl
theorem srtR_rev {α : Type} {lt : α → α → Bool} : ∀ (L R : List α), (∀ x ∈ L, ∀ y ∈ R, lt x y = false) → L.Pairwise (fun a b => lt b a = false) → L.foldl (fun R x => insR lt x R) R = L.reverse ++ R
  | [], R, _, _ => rfl
  | x :: L, R, h, hp => by
    rw [List.pairwise_cons] at hp
    rw [List.foldl_cons, insR_head (h x (by simp)), srtR_rev L (x :: R) (fun z hz y hy => ?_) hp.2, List.reverse_cons, List.append_assoc]
    · rfl
    · rcases List.mem_cons.1 hy with rfl | hy
      · exact hp.1 z hz
      · exact h z (by simp [hz]) y hy
theorem srtI_id {α : Type} {lt : α → α → Bool} {L : List α} (hp : L.Pairwise (fun a b => lt b a = false)) : srtI lt L = L := by
  unfold srtI srtR
  rw [srtR_rev L [] (fun x _ y hy => by cases hy) hp, List.append_nil, List.reverse_reverse]
/-- what schedule.Priority gives is what the model gives -/
theorem prM_eq (TT : List Tk) {rule : Int} (h : ¬ (rule < 1 ∨ rule > 3)) : prL TT (tailsF TT) rule = prM TT rule := by
  unfold prL prM
  by_cases h3 : rule = 3
  · subst h3
    have hw : (natL (List.range TT.length)).Pairwise (fun a b : Int => a < b) := by
      unfold natL
      rw [List.pairwise_map]
      exact List.Pairwise.imp (fun {a b} h => by omega) List.pairwise_lt_range
    rw [srtI_id (hw.imp fun {a b} h => decide_eq_false (by unfold prC; rw [if_neg (by decide), if_neg (by decide)]; omega)),
      srtI_id (hw.imp fun {a b} h => decide_eq_false (by unfold prD; rw [if_neg (by decide), if_neg (by decide)]; decide))]
  · have e : (fun x y : Int => decide (prC TT (tailsF TT) rule x y < 0)) = fun x y : Int => decide (prD TT rule x y < 0) := by
      funext x y
      unfold prC prD tlV
      by_cases h1 : rule = 1
      · rw [if_pos h1, if_pos h1]
      · rw [if_neg h1, if_neg h1, if_pos (by omega), if_pos (by omega)]
    rw [e]
section
variable {a a' : Option Addr} {n c n' c' : Nat} {TT : List Tk}
theorem prio50_spec {f0 f2 : Nat} (rule : Int) (i j : Nat) (w : World) (h0 : Bx (Hp.whole w) f0 [.int .i64 rule]) (h2 : Bx (Hp.whole w) f2 [.slice a n c, .slice a' n' c'])
    (hT : Sl encT 4 (Hp.whole w) a n c TT) (hF : Fit TT) (hO : TT.length ≤ (ordF TT).length) (hi : i < TT.length) (hj : j < TT.length) :
    CallsE Tryz.prog 79 #[.int .i64 i, .int .i64 j, .pointer (some ⟨f0, 0, none⟩), .pointer (some ⟨f2, 0, none⟩)] w (RetV w (.int .i64 (prD TT rule i j))) := by
  obtain ⟨x, hx⟩ : ∃ x, x = tlV TT i := ⟨_, rfl⟩
  obtain ⟨y, hy⟩ : ∃ y, y = tlV TT j := ⟨_, rfl⟩
  obtain ⟨s, hsd⟩ : ∃ s, s = TT[i] := ⟨_, rfl⟩
  obtain ⟨t, ht⟩ : ∃ t, t = TT[j] := ⟨_, rfl⟩
  have bx := tlv_rng hF hi
  have byy := tlv_rng hF hj
  have bs := hF.du s (by rw [hsd]; exact List.getElem_mem hi)
  have bt := hF.du t (by rw [ht]; exact List.getElem_mem hj)
  have hp : prD TT rule i j = if rule = 1 then y - x else if rule = 2 then t.du - s.du else 0 := by
    unfold prD
    rw [Int.toNat_natCast, Int.toNat_natCast, du_get hi, du_get hj, ← hx, ← hy, ← hsd, ← ht]
  rw [← hx] at bx
  rw [← hy] at byy
  refine enter (X := cx 32) (cxg _) (args := [.int .i64 i, .int .i64 j, .pointer (some ⟨f0, 0, none⟩), .pointer (some ⟨f2, 0, none⟩)]) [.tmp 6] Tryz.func79 rfl rfl rfl rfl rfl ?_
  refine ld1 (cxg _) (i := 0) rfl (h0 0 _ rfl) rfl ?_
  refine bsplitd (fun g1 => ?_) (fun g1 => ?_)
  · refine NeedD.by_order (cxg _) (.take 0 <| .take 1 <| .take 3 <| .take 4 <| .run 2 <| .run 5 <| .take 6 <| .take 7 <| .done) (by kernel_rfl) ?_
    refine ldn (cxg _) (i := 0) rfl h2 rfl ?_
    refine ldn (cxg _) (i := 0) rfl h2 rfl ?_
    refine callV (.int .i64 y) (fun w' hm => by rw [hy]; exact tail50_spec hF hO j w' hj (hT.mono encT_mono (hm 0 _ rfl))) ?_
    refine ⟨(by repeat first | exact trivial | refine ⟨.inl rfl, ?_⟩ | refine ⟨.inr rfl, ?_⟩), ?_⟩
    refine callV (.int .i64 x) (fun w' hm => by rw [hx]; exact tail50_spec hF hO i w' hi (hT.mono encT_mono (hm 0 _ rfl))) ?_
    refine ⟨(by repeat first | exact trivial | refine ⟨.inl rfl, ?_⟩ | refine ⟨.inr rfl, ?_⟩), ?_⟩
    refine nw (by omega) (by omega) ?_
    exact ⟨[], ⟨by rw [hp, if_pos g1], rfl⟩, fun w' h => h⟩
  · rw [if_neg g1] at hp
    refine bsplitd (fun g2 => ?_) (fun g2 => ?_)
    · refine NeedD.by_order (cxg _) (.take 0 <| .take 1 <| .take 2 <| .take 3 <| .take 4 <| .take 5 <| .take 6 <| .take 7 <| .take 8 <| .take 9 <| .take 10 <| .take 11 <| .take 12 <| .take 13 <| .done) (by kernel_rfl) ?_
      refine ld1 (cxg _) (i := 0) rfl (h2 0 _ rfl) rfl ?_
      refine idx (cxg _) (e := 64) rfl hT j rfl hj (fun b9 o9 cs hcs hR hcell5 => ?_)
      rw [← ht] at hR
      obtain ⟨a3, n3, c3, rfl, hs3⟩ := hR
      refine ld1 (cxg _) (i := 0) rfl (hcell5 1 _ rfl) rfl ?_
      refine ld1 (cxg _) (i := 0) rfl (h2 0 _ rfl) rfl ?_
      refine idx (cxg _) (e := 64) rfl hT i rfl hi (fun b9 o9 cs hcs hR hcell6 => ?_)
      rw [← hsd] at hR
      obtain ⟨a4, n4, c4, rfl, hs4⟩ := hR
      refine ld1 (cxg _) (i := 0) rfl (hcell6 1 _ rfl) rfl ?_
      refine nw (by omega) (by omega) ?_
      exact ⟨[], ⟨by rw [hp, if_pos g2], rfl⟩, fun w' h => h⟩
    · exact ⟨[], ⟨by rw [hp, if_neg g2], rfl⟩, fun w' h => h⟩
set_option maxRecDepth 10000 in
theorem priority50_spec (rule : Int) (w : World) (hT : Sl encT 4 (Hp.whole w) a n c TT) (hF : Fit TT) (hO : TT.length ≤ (ordF TT).length) (hl : TT.length ≤ 12) :
    CallsE Tryz.prog 30 #[sv a n c a' n' c', .int .i64 rule] w (Ret w fun v cs => ∃ o : Dw.Os, v = o.v ∧ cs = [.hp o.h] ∧ OwnO fI 3 1 o (prM TT rule)) := by
  have lT := hT.len
  refine enter (X := cx 22) (cxg _) (args := [.agg #[.slice a n c, .slice a' n' c'], .int .i64 rule]) [.tmp 4] Tryz.func30 rfl rfl rfl rfl rfl ?_
  intro b2
  intro b3
  refine NeedL.mk (Nat × Dw.Os) (fun g => [(2, .bx 1 0), (3, .bx 2 0), (5, .v g.2.v), (9, .v (.int .i64 n)), (10, .v (.int .i64 g.1))]) (fun g => [.hp (Hp.whole w), .box b2 [.slice a n c, .slice a' n' c'] 25, .box b3 [.int .i64 rule] 3, .hp g.2.h])
    (fun g => g.1 ≤ n ∧ OwnO fI 3 1 g.2 (natL (List.range g.1))) (fun g => n - g.1) (0, Os.nil) ⟨Nat.zero_le _, OwnO.nil _ _ _⟩ (Ent.mk (fun _ _ h => h.emp) rfl rfl) ?_
  rintro ⟨k, o⟩ ⟨hk, ho⟩
  dsimp only at *
  refine bsplitd (fun h1 => ?_) (fun h1 => ?_)
  · intro b15
    refine appO (f := fI) (cxg _) (e := 3) rfl (i := 3) rfl ho (j := 4) (k : Int) rfl rfl rfl rfl (by simp [natL]; omega) (fun o2 ho2 => ?_)
    refine nw (by omega) (by omega) ?_
    refine ⟨(k + 1, o2), ⟨by dsimp only; omega, ?_⟩, by dsimp only; omega, Ent.mk (fun _ _ h => h.pick [0, 1, 2, 3] rfl rfl) rfl rfl⟩
    have e : natL (List.range (k + 1)) = natL (List.range k) ++ [(k : Int)] := by unfold natL; rw [List.range_succ, List.map_append]; rfl
    dsimp only
    rw [e]; exact ho2
  · obtain rfl : k = TT.length := by omega
    have hmem : ∀ x ∈ natL (List.range TT.length), ∃ v : Nat, v < TT.length ∧ x = v := fun x hx => by
      obtain ⟨v, hv, rfl⟩ := List.mem_map.1 hx
      exact ⟨v, List.mem_range.1 hv, rfl⟩
    obtain ⟨oa, on, oc, hh⟩ := o
    have kS : ∀ (w0 w' : World), Ok w0 [.hp (Hp.whole w), .box b2 [.slice a n c, .slice a' n' c'] 25, .box b3 [.int .i64 rule] 3, .hp hh] w' →
        CallsE Tryz.prog 74 #[.slice oa on oc, .func (.func 79) ⟨[]⟩ ⟨[.pointer (some ⟨b3, 0, none⟩), .pointer (some ⟨b2, 0, none⟩)]⟩] w'
          (RetM w' hh fun v h' cs => v = .tuple #[] ∧ cs = [] ∧ OwnO fI 3 1 ⟨oa, on, oc, h'⟩ (prM TT rule)) := fun w0 w' hok => by
      have le := fun {i : Nat} {cc : Ch} (hi : sget [.hp (Hp.whole w), .box b2 [.slice a n c, .slice a' n' c'] 25, .box b3 [.int .i64 rule] 3, .hp hh] i = some cc) (hn : i ≠ 3) => Hp.le_minus (hok.mem i cc hi).whole (hok.disj i 3 cc (.hp hh) hn hi rfl)
      have boxL : ∀ {i b T : Nat} {cs : List Value}, sget [.hp (Hp.whole w), .box b2 [.slice a n c, .slice a' n' c'] 25, .box b3 [.int .i64 rule] 3, .hp hh] i = some (.box b cs T) → i ≠ 3 → Bx ((Hp.whole w').minus hh) b cs := fun hi hn j v e => (le hi hn).cell (by rw [Nat.zero_add]; simp [Ch.h, Hp.cell?, Hp.one, e])
      refine sortStableI_spec (o := ⟨oa, on, oc, hh⟩) 79 [.pointer (some ⟨b3, 0, none⟩), .pointer (some ⟨b2, 0, none⟩)] (prD TT rule) w' (hok.mem 3 _ rfl) ho (by simp [natL]; omega) (fun w2 h2 x hx y hy => ?_)
      obtain ⟨i, hi, rfl⟩ := hmem x hx
      obtain ⟨j, hj, rfl⟩ := hmem y hy
      exact prio50_spec rule i j w2 ((boxL (i := 2) rfl (by decide)).mono h2) ((boxL (i := 1) rfl (by decide)).mono h2) (hT.mono encT_mono ((le (i := 0) rfl (by decide)).trans h2)) hF hO hi hj
    refine callM' (i := 3) rfl kS ?_
    rintro _ h2 _ ⟨rfl, rfl, ho2⟩
    exact ⟨[.hp h2], ⟨⟨oa, on, oc, h2⟩, rfl, rfl, ho2⟩, fun w' h => h.pick [0, 3] rfl rfl⟩
end
end Go.Proofs.YtnlkffccobdbjaaGreat
