/- Contracts of the library's small functions at the types of this translation. No condition beyond each theorem's own premises. -/
import Derived.Test.YtdjhgcpmipglfaaDwe
namespace Go.Proofs.Ytdjhgcpmipglfaa
open Go Go.RowKit Go.Dw

/-- a call that hands back v, and makes nothing that is kept -/
abbrev RetV (w : World) (v : Value) : Ending → World → Prop := Ret w fun u cs => u = v ∧ cs = []
theorem callV {P : Program} {s : List Ch} {f : Nat} {args : List Value} {q : TV → List Ch → Prop} (v : Value)
    (h : ∀ w, Mem s w → CallsE P f args.toArray w (RetV w v)) (k : q (.v v) s) : NeedF P s f args q := by
  refine call h ?_
  rintro _ _ ⟨rfl, rfl⟩
  rwa [List.append_nil]

theorem isNaN_spec (x : Int) (w : World) : CallsE Try.prog 122 #[.int .i64 x] w (RetV w (.bool false)) := by
  refine enter (X := cx 6) (cxg _) (args := [.int .i64 x]) [.tmp 2] Try.func122 rfl rfl rfl rfl rfl ?_
  refine ⟨[], ⟨?_, rfl⟩, fun w' h => h⟩
  simp

theorem isNaN'_spec (x : Int) (w : World) : CallsE Try.prog 111 #[.int .i64 x] w (RetV w (.bool false)) := by
  refine enter (X := cx 6) (cxg _) (args := [.int .i64 x]) [.tmp 2] Try.func111 rfl rfl rfl rfl rfl ?_
  refine ⟨[], ⟨?_, rfl⟩, fun w' h => h⟩
  simp

theorem less_spec (x y : Int) (w : World) : CallsE Try.prog 110 #[.int .i64 x, .int .i64 y] w (RetV w (.bool (decide (x < y)))) := by
  refine enter (X := cx 17) (cxg _) (args := [.int .i64 x, .int .i64 y]) [.tmp 4] Try.func110 rfl rfl rfl rfl rfl ?_
  refine call (fun w _ => isNaN_spec x w) ?_
  rintro _ _ ⟨rfl, rfl⟩
  exact ⟨[], ⟨rfl, rfl⟩, fun w' h => h⟩

def cmpI (x y : Int) : Int := if x < y then -1 else if x > y then 1 else 0
theorem compare_spec (x y : Int) (w : World) : CallsE Try.prog 106 #[.int .i64 x, .int .i64 y] w (RetV w (.int .i64 (cmpI x y))) := by
  refine enter (X := cx 20) (cxg _) (args := [.int .i64 x, .int .i64 y]) [.tmp 4] Try.func106 rfl rfl rfl rfl rfl ?_
  refine call (fun w _ => isNaN_spec x w) ?_
  rintro _ _ ⟨rfl, rfl⟩
  refine call (fun w _ => isNaN_spec y w) ?_
  rintro _ _ ⟨rfl, rfl⟩
  refine bsplitd (fun h => ?_) (fun h => ?_)
  · exact ⟨[], ⟨by simp [cmpI, h], rfl⟩, fun w' h => h⟩
  · refine bsplitd (fun h2 => ?_) (fun h2 => ?_)
    · exact ⟨[], ⟨by simp [cmpI, h, h2], rfl⟩, fun w' h => h⟩
    · exact ⟨[], ⟨by simp [cmpI, h, h2], rfl⟩, fun w' h => h⟩

def orI : List Int → Int
  | [] => 0
  | x :: r => if x = 0 then orI r else x
theorem orI_drop (L : List Int) : ∀ k (h : k < L.length), L[k] = 0 → orI (L.drop k) = orI (L.drop (k + 1)) := by
  intro k h h0
  rw [List.drop_eq_getElem_cons h]
  simp [orI, h0]

theorem or_spec {a : Option Addr} {n c : Nat} {L : List Int} (w : World) (hL : Sl (encF fI) 1 (Hp.whole w) a n c L) (hn : n < 1000000000) :
    CallsE Try.prog 105 #[.slice a n c] w (RetV w (.int .i64 (orI L))) := by
  have hlen := hL.len
  refine enter (X := cx 18) (cxg _) (args := [.slice a n c]) [.tmp 2] Try.func105 rfl rfl rfl rfl rfl ?_
  refine NeedL.mk Nat (fun k => [(3, .v (.int .i64 0)), (6, .v (.slice a n c)), (7, .v (.int .i64 n)), (8, .v (.int .i64 k))]) (fun _ => [.hp (Hp.whole w)])
    (fun k => k ≤ n ∧ orI L = orI (L.drop k)) (fun k => n - k) 0 ⟨Nat.zero_le _, rfl⟩ (Ent.mk (fun _ _ h => h) rfl rfl) ?_
  rintro k ⟨hk, ho⟩
  refine bsplitd (fun hlt => ?_) (fun hge => ?_)
  · have hlt' : k < L.length := by omega
    refine idx (cxg _) (e := 3) rfl hL k rfl hlt' (fun b o cs hcs hR hcell => ?_)
    subst hR
    refine ld1 (cxg _) (i := 0) rfl (hcell 0 _ rfl) rfl ?_
    refine bsplitd (fun hb => ?_) (fun hb => ?_)
    · refine ⟨[], ⟨?_, rfl⟩, fun w' h => h⟩
      rw [ho, List.drop_eq_getElem_cons hlt']
      simp [orI, hb]
    · refine nw (by omega) (by omega) ?_
      exact ⟨k + 1, ⟨by omega, by rw [ho, orI_drop L k hlt' (by simpa using hb)]⟩, by omega, Ent.mk (fun _ _ h => h) rfl rfl⟩
  · refine ⟨[], ⟨?_, rfl⟩, fun w' h => h⟩
    rw [ho, List.drop_of_length_le (by omega)]
    rfl

theorem equalInts_spec {a a' : Option Addr} {n c n' c' : Nat} {L L' : List Int} (w : World) (hL : Sl (encF fI) 1 (Hp.whole w) a n c L) (hL' : Sl (encF fI) 1 (Hp.whole w) a' n' c' L') (hn : n < 1000000000) :
    CallsE Try.prog 29 #[.slice a n c, .slice a' n' c'] w (RetV w (.bool (decide (L = L')))) := by
  have hlen := hL.len
  have hlen' := hL'.len
  refine enter (X := cx 26) (cxg _) (args := [.slice a n c, .slice a' n' c']) [.tmp 4] Try.func29 rfl rfl rfl rfl rfl ?_
  refine bsplitd (fun hne => ?_) (fun heq => ?_)
  · refine ⟨[], ⟨?_, rfl⟩, fun w' h => h⟩
    have : L ≠ L' := fun e => hne (by rw [hlen, hlen', e])
    simp [this]
  have hnn : n = n' := by omega
  refine NeedL.mk Nat (fun k => [(0, .v (.slice a n c)), (1, .v (.slice a' n' c')), (12, .v (.int .i64 n)), (13, .v (.int .i64 k))]) (fun _ => [.hp (Hp.whole w)])
    (fun k => k ≤ n ∧ L.take k = L'.take k) (fun k => n - k) 0 ⟨Nat.zero_le _, rfl⟩ (Ent.mk (fun _ _ h => h) rfl rfl) ?_
  rintro k ⟨hk, ho⟩
  refine bsplitd (fun hlt => ?_) (fun hge => ?_)
  · have hlt' : k < L.length := by omega
    have hlt2 : k < L'.length := by omega
    refine NeedD.by_order (cxg _) (.take 0 <| .take 1 <| .take 2 <| .take 3 <| .take 4 <| .take 5 <| .take 6 <| .take 7 <| .take 8 <| .done) (by kernel_rfl) ?_
    refine idx (cxg _) (e := 3) rfl hL k rfl hlt' (fun b o cs hcs hR hcell => ?_)
    subst hR
    refine ld1 (cxg _) (i := 0) rfl (hcell 0 _ rfl) rfl ?_
    refine idx (cxg _) (e := 3) rfl hL' k rfl hlt2 (fun b o cs hcs hR hcell => ?_)
    subst hR
    refine ld1 (cxg _) (i := 0) rfl (hcell 0 _ rfl) rfl ?_
    refine bsplitd (fun hb => ?_) (fun hb => ?_)
    · refine ⟨[], ⟨?_, rfl⟩, fun w' h => h⟩
      have : L ≠ L' := fun e => hb (by simp [e])
      simp [this]
    · refine nw (by omega) (by omega) ?_
      refine ⟨k + 1, ⟨by omega, ?_⟩, by omega, Ent.mk (fun _ _ h => h) rfl rfl⟩
      rw [List.take_succ_eq_append_getElem hlt', List.take_succ_eq_append_getElem hlt2, ho, show L[k] = L'[k] by simpa using hb]
  · refine ⟨[], ⟨?_, rfl⟩, fun w' h => h⟩
    have : L = L' := by
      rw [← List.take_of_length_le (show L.length ≤ k by omega), ← List.take_of_length_le (show L'.length ≤ k by omega), ho]
    simp [this]
end Go.Proofs.Ytdjhgcpmipglfaa
