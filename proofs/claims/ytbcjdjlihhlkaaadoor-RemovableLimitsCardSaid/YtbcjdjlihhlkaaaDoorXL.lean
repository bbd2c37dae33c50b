/- Parts of one proof, joined: S5, S6, S7, S8, S9, Sa, Sb, Sc. No condition of its own. -/
import Derived.Test.YtbcjdjlihhlkaaaDoorXK
import Derived.Test.YtbcjdjlihhlkaaaDoorYSs
import Derived.KernelRfl
namespace Go.Proofs.YtbcjdjlihhlkaaaDoor
open Go Go.RowKit Go.Dw Go.Sort Go.Lib
theorem cmpL_self : ∀ L : List Int, cmpL L L = 0
  | [] => rfl
  | x :: r => by simp [cmpL, cmpI, cmpL_self r]
theorem cmpI_eq0 {x y : Int} : cmpI x y = 0 ↔ x = y := by
  unfold cmpI; constructor
  · intro h; split at h
    · cases h
    · split at h
      · cases h
      · omega
  · rintro rfl; simp
theorem cmpL_cons (x y : Int) (r t : List Int) : cmpL (x :: r) (y :: t) < 0 ↔ x < y ∨ (x = y ∧ cmpL r t < 0) := by
  simp only [cmpL]
  by_cases h : cmpI x y = 0
  · have := cmpI_eq0.1 h
    subst this
    simp [h]
  · rw [if_pos h, cmpI_swap]
    have : x ≠ y := fun e => h (cmpI_eq0.2 e)
    omega
theorem cmpL_trans : ∀ {A B C : List Int}, cmpL A B < 0 → cmpL B C < 0 → cmpL A C < 0
  | [], [], C, h, _ => by simp [cmpL] at h
  | [], y :: B, [], _, h => by simp [cmpL] at h
  | [], y :: B, z :: C, _, _ => by simp [cmpL]
  | x :: A, [], C, h, _ => by simp [cmpL] at h
  | x :: A, y :: B, [], _, h => by simp [cmpL] at h
  | x :: A, y :: B, z :: C, h1, h2 => by
    rw [cmpL_cons] at *
    rcases h1 with h1 | ⟨h1, h1'⟩
    · rcases h2 with h2 | ⟨h2, _⟩ <;> (left; omega)
    · rcases h2 with h2 | ⟨h2, h2'⟩
      · left; omega
      · right; exact ⟨by omega, cmpL_trans h1' h2'⟩
theorem cmpL_tri : ∀ {A B : List Int}, ¬ cmpL A B < 0 → ¬ cmpL B A < 0 → A = B
  | [], [], _, _ => rfl
  | [], y :: B, h, _ => by simp [cmpL] at h
  | x :: A, [], _, h => by simp [cmpL] at h
  | x :: A, y :: B, h1, h2 => by
    rw [cmpL_cons] at *
    have : x = y := by omega
    subst this
    rw [cmpL_tri (fun h => h1 (.inr ⟨rfl, h⟩)) (fun h => h2 (.inr ⟨rfl, h⟩))]
theorem cmpS_lt (a b : Nat) : cmpS a b < 0 ↔ onesF a < onesF b ∨ (onesF a = onesF b ∧ cmpL (nod a) (nod b) < 0) := by
  unfold cmpS
  simp only [orI]
  by_cases h : cmpI (onesF a : Nat) (onesF b : Nat) = 0
  · have := cmpI_eq0.1 h
    rw [if_pos h]
    have e : onesF a = onesF b := by omega
    split
    · rename_i h2; rw [h2]; omega
    · omega
  · rw [if_neg h, cmpI_swap]
    have : ¬ ((onesF a : Nat) : Int) = (onesF b : Nat) := fun e => h (cmpI_eq0.2 e)
    omega
theorem nod_inj {a b : Nat} (ha : a < 18446744073709551616) (hb : b < 18446744073709551616) (h : nod a = nod b) : a = b := by
  apply Nat.eq_of_testBit_eq
  intro i
  by_cases hi : i < 64
  · have hm : ∀ s : Nat, ((i : Int) ∈ nod s ↔ s.testBit i = true) := fun s => by
      unfold nod nodN
      simp only [List.mem_map, List.mem_filter, List.mem_range]
      constructor
      · rintro ⟨j, ⟨_, h2⟩, h3⟩
        have : j = i := by omega
        subst this; exact h2
      · intro h; exact ⟨i, ⟨hi, h⟩, rfl⟩
    have := (hm a).symm.trans ((iff_of_eq (by rw [h])).trans (hm b))
    rw [Bool.eq_iff_iff]; exact this
  · have big : ∀ s : Nat, s < 18446744073709551616 → s.testBit i = false := fun s hs => Nat.testBit_lt_two_pow (Nat.lt_of_lt_of_le hs (Nat.pow_le_pow_right (n := 2) (i := 64) (by decide) (by omega)))
    rw [big a ha, big b hb]
abbrev S128 := { x : Nat // x < 128 }
instance : Inhabited S128 := ⟨⟨0, by decide⟩⟩
def encU (x : S128) : Value := .int .u64 (x.1 : Nat)
def cfS (x y : S128) : Int := cmpS x.1 y.1
theorem swoS : SWO (ltOf cfS) where
  irrefl x := by unfold ltOf cfS; rw [decide_eq_false_iff_not, cmpS_lt, cmpL_self]; omega
  trans x y z h1 h2 := by
    unfold ltOf cfS at *
    simp only [decide_eq_true_eq, cmpS_lt] at *
    rcases h1 with h1 | ⟨h1, h1'⟩
    · rcases h2 with h2 | ⟨h2, _⟩ <;> (left; omega)
    · rcases h2 with h2 | ⟨h2, h2'⟩
      · left; omega
      · right; exact ⟨by omega, cmpL_trans h1' h2'⟩
  ntrans x y z h1 h2 := by
    unfold ltOf cfS at *
    simp only [decide_eq_false_iff_not, cmpS_lt] at *
    rintro (h | ⟨h, h'⟩)
    · omega
    · have e1 : onesF x.1 = onesF y.1 := by omega
      have e2 : onesF y.1 = onesF z.1 := by omega
      by_cases ha : cmpL (nod y.1) (nod x.1) < 0
      · exact h2 (.inr ⟨e2, cmpL_trans ha h'⟩)
      · have := cmpL_tri (fun h => h1 (.inr ⟨e1, h⟩)) ha
        rw [this] at h'
        exact h2 (.inr ⟨e2, h'⟩)
theorem totS (x y : S128) (h1 : ltOf cfS x y = false) (h2 : ltOf cfS y x = false) : x = y := by
  unfold ltOf cfS at *
  simp only [decide_eq_false_iff_not, cmpS_lt] at *
  have e : onesF x.1 = onesF y.1 := by omega
  have := cmpL_tri (fun h => h1 (.inr ⟨e, h⟩)) (fun h => h2 (.inr ⟨e.symm, h⟩))
  exact Subtype.ext (nod_inj (by have := x.2; omega) (by have := y.2; omega) this)
/-- the list of sets, sorted -/
def srtL (L : List S128) : List S128 := L.mergeSort fun x y => !(ltOf cfS) y x
def toS (L : List Nat) (h : ∀ t ∈ L, t < 128) : List S128 := L.pmap (fun t h => ⟨t, h⟩) h
def srtS (L : List Nat) (h : ∀ t ∈ L, t < 128) : List Nat := (srtL (toS L h)).map (·.1)
theorem toS_val (L : List Nat) (h : ∀ t ∈ L, t < 128) : (toS L h).map (·.1) = L := by unfold toS; rw [List.map_pmap]; simp
theorem srtS_len (L : List Nat) (h : ∀ t ∈ L, t < 128) : (srtS L h).length = L.length := by
  unfold srtS srtL; rw [List.length_map, List.length_mergeSort]; unfold toS; simp
theorem srtS_lt (L : List Nat) (h : ∀ t ∈ L, t < 128) : ∀ t ∈ srtS L h, t < 128 := fun t ht => by
  unfold srtS at ht
  obtain ⟨x, _, rfl⟩ := List.mem_map.1 ht
  exact x.2
theorem sets1_spec (a b : Nat) (ha : a < 18446744073709551616) (hb : b < 18446744073709551616) (w : World) (hT : Tab (Hp.whole w)) :
    CallsE Tryd.prog 43 #[.int .u64 a, .int .u64 b] w (RetV w (.int .i64 (cmpS a b))) := by
  refine enter (X := cx 8) (cxg _) (args := [.int .u64 a, .int .u64 b]) [.tmp 4] Tryd.func43 rfl rfl rfl rfl rfl ?_
  refine callV _ (fun w' hm => compareS_spec a b ha hb w' (hT.mono (hm 0 _ rfl))) ?_
  exact ⟨[], ⟨rfl, rfl⟩, fun w' h => h⟩
theorem sortS_spec {o : Dw.Os} {L : List Nat} (w : World) (hin : o.h.In w) (ho : OwnO fU 60 1 o L) (h128 : ∀ t ∈ L, t < 128) (hl : L.length < 1000000) (hT : Tab (Hp.whole w)) :
    CallsE Tryd.prog 42 #[o.v, .func (.func 43) #[] #[]] w (RetM w o.h fun v h' cs => v = .tuple #[] ∧ cs = [] ∧ OwnO fU 60 1 ⟨o.a, o.n, o.c, h'⟩ (srtS L h128)) := by
  have eg : ∀ args w, (callFunc 43 args).run Tryd.prog w = .ok (.enter 43 args) w := enters_of Tryd.func43 (by kernel_rfl) rfl
  refine ⟨fun w => enters_of Tryd.func42 (by kernel_rfl) rfl _ w, ?_⟩
  have hn := ho.len
  have hsl := srtS_len L h128
  have hfl : ∀ M : List Nat, (M.flatMap fU).length = M.length * 1 := flatLen fun _ => rfl
  rcases ho.2.2 with ⟨h0, hc0⟩ | ⟨b, arr, h1, h2, h3, h4, h5, h6⟩
  · have hL : L = [] := List.eq_nil_of_length_eq_zero (by omega)
    have hcon := AnyF.slices_SortFunc_none { Tryd.sortS with } o.a o.c (.func (.func 43) #[] #[]) w
    change Calls Tryd.prog 42 _ _ _ at hcon
    have e0 : o.v = .slice o.a 0 o.c := by rw [Os.v, h0]
    rw [e0]
    refine hcon.mono ?_
    rintro e w' ⟨rfl, rfl⟩
    refine ⟨_, o.h, [], rfl, Ok.start2 _ hin, rfl, rfl, ?_⟩
    have : srtS L h128 = L := by
      have e1 : srtS L h128 = [] := List.eq_nil_of_length_eq_zero (by rw [hsl, hL]; rfl)
      rw [e1]; exact hL.symm
    rw [this]
    exact ho
  · have hblk := hin b _ h2
    have hbl : b < w.heap.size := (Array.getElem?_eq_some_iff.1 hblk).1
    obtain ⟨D, hD⟩ : ∃ D, D = toS L h128 := ⟨_, rfl⟩
    have hDv : D.map (·.1) = L := by rw [hD]; exact toS_val L h128
    have hDl : D.length = L.length := by rw [← hDv, List.length_map]
    have hfe : ∀ M : List S128, (M.map (·.1)).flatMap fU = M.map encU := fun M => by
      induction M with
      | nil => rfl
      | cons x r ih => simp only [List.map_cons, List.flatMap_cons, ih]; rfl
    have harr : ∀ j (hj : j < D.length), arr[j]? = some (encU D[j]) := fun j hj => by
      have e2 : (L.flatMap fU)[j]? = arr[j]? := by
        rw [← h6, List.getElem?_take, if_pos (by omega)]; simp
      rw [← e2, ← hDv, hfe, List.getElem?_map, List.getElem?_eq_getElem hj]; rfl
    have hH : Holds encU w b 0 D.toArray := fun j hj => by
      have hj' : j < D.length := by simpa using hj
      refine ⟨?_, ?_⟩
      · have e1 : w.cell? ⟨b, 0 + j, none⟩ = arr[j]? := by simp [World.cell?, hblk]
        rw [e1, harr j hj']; simp [hj']
      · simp [World.frozen?, hblk]
    have hTs : ∀ (m : Nat) (os : Array Obj) (dk : Array S128), dk.size = D.toArray.size → Tab (Hp.whole (sortWorld encU w b 0 m dk os)) := fun m os dk hdk j hj => by
      have hw := hT j hj
      show (sortWorld encU w b 0 m dk os).cell? ⟨0, j, none⟩ = _
      have hw : w.cell? ⟨0, j, none⟩ = some (.int .u8 (Lib.deBruijn64tab.getD j 0 : Nat)) := hw
      have hlt : 0 < w.heap.size := by
        unfold World.cell? at hw
        cases hb : w.heap[0]? with
        | none => simp [hb] at hw
        | some o => exact (Array.getElem?_eq_some_iff.1 hb).1
      have hheap : (sortWorld encU w b 0 m dk os).heap[0]? = w.heap[0]? := by
        simp only [sortWorld, grow, putRow, mapBlock, show (Go.Sort.ahead w m).heap = w.heap from rfl]
        rw [Array.getElem?_append, if_pos (by simpa using hlt), Array.getElem?_modify]
        by_cases e : b = 0
        · rw [if_pos e]
          have hb2 : w.heap[0]? = some (.cells arr 60 (0, 0)) := by have h9 := hblk; rw [e] at h9; exact h9
          by_cases hz : D.length = 0
          · rw [hb2]
            have hdk0 : dk.size = 0 := by simpa [hz] using hdk
            simp only [Option.map_some, onCells]
            congr 2
            apply Array.ext
            · simp [putCells]
            · intro i i1 i2
              simp only [putCells, Array.getElem_mapIdx]
              rw [if_neg (by omega)]
          · exfalso
            have h00 := hT 0 (by decide)
            have h00 : w.cell? ⟨0, 0, none⟩ = some (.int .u8 (Lib.deBruijn64tab.getD 0 0 : Nat)) := h00
            have : w.cell? ⟨0, 0, none⟩ = arr[0]? := by simp [World.cell?, hb2]
            rw [this, harr 0 (by omega)] at h00
            cases h00
        · rw [if_neg e]
      have : ∀ (W : World), W.heap[0]? = w.heap[0]? → W.cell? ⟨0, j, none⟩ = w.cell? ⟨0, j, none⟩ := fun W hW => by unfold World.cell?; rw [hW]
      rw [this _ hheap]; exact hw
    have hcmp : CmpLays1 Tryd.prog 43 #[] encU cfS b 0 D.toArray.size w := fun m os dk hdk x y => by
      refine (sets1_spec x.1 y.1 (by have := x.2; omega) (by have := y.2; omega) _ (hTs m os dk hdk)).2.mono ?_
      rintro e w' ⟨v, cs, rfl, hok, rfl, rfl⟩
      exact ⟨rfl, grown_of_ok hok⟩
    have hcon := Any.slices_SortFunc_total Tryd.sortS encU (fun _ => rfl) cfS swoS 43 #[] b 0 o.c D.toArray w eg hcmp hH hbl (by simp; omega) totS
    change Calls Tryd.prog 42 _ _ _ at hcon
    have ha : o.v = .slice (some ⟨b, 0, none⟩) D.toArray.size o.c := by rw [Os.v, h1, hn]; simp [hDl]
    rw [ha]
    refine hcon.mono ?_
    rintro e w' ⟨rfl, q, os, hw⟩
    have hw : w' = sortWorld encU w b 0 q (srtL D).toArray os := hw
    have hSv : (srtL D).map (·.1) = srtS L h128 := by unfold srtS; rw [hD]
    have hSl : (srtL D).length = L.length := by rw [← srtS_len L h128, ← hSv, List.length_map]
    have hget : ∀ k, k < w.heap.size → w'.heap[k]? = if k = b then some (.cells (putCells encU 0 (srtL D).toArray arr) 60 (0, 0)) else w.heap[k]? := fun k hk => by
      rw [hw]
      simp only [sortWorld, grow, putRow, mapBlock, show (Go.Sort.ahead w q).heap = w.heap from rfl]
      rw [Array.getElem?_append, if_pos (by simpa using hk), Array.getElem?_modify]
      by_cases e : b = k
      · subst e; rw [if_pos rfl, if_pos rfl, hblk]; rfl
      · rw [if_neg e, if_neg (fun x => e x.symm)]
    have hsz : w.heap.size ≤ w'.heap.size := by rw [hw]; simp [sortWorld, grow, putRow, mapBlock]
    refine ⟨.tuple #[], o.h.upd b (.cells (putCells encU 0 (srtL D).toArray arr) 60 (0, 0)), [], rfl, ⟨?_, ?_, ?_, hsz, ?_, fun k c hc => ?_, fun j k c d hjk e1 e2 => ?_⟩, rfl, rfl, ?_, ?_, .inr ⟨b, _, h1, Hp.upd_self _ _ _, h3, h4, ?_, ?_⟩⟩
    · rw [hw]; rfl
    · rw [hw]; rfl
    · rw [hw]; rfl
    · rw [hw]; exact Nat.le_add_right _ _
    · match k, hc with
      | 0, hc =>
        simp only [sget, Option.some.injEq] at hc; subst hc
        intro k ob hk
        have hkw : w.heap[k]? = some ob := Hp.minus_le _ _ k ob hk
        have hlt := (Array.getElem?_eq_some_iff.1 hkw).1
        have hne : k ≠ b := fun e => by
          subst e
          rcases Hp.minus_dj (Hp.whole w) o.h k with e | e
          · rw [show (Hp.whole w).minus o.h k = some ob from hk] at e; cases e
          · rw [h2] at e; cases e
        rw [hget k hlt, if_neg hne]; exact hkw
      | 1, hc =>
        simp only [sget, Option.some.injEq] at hc; subst hc
        intro k ob hk
        have hk : (if k = b then some _ else o.h k) = some ob := hk
        by_cases e : k = b
        · subst e; rw [if_pos rfl] at hk; rw [hget k hbl, if_pos rfl]; exact hk
        · rw [if_neg e] at hk
          have hkw := hin k ob hk
          rw [hget k (Array.getElem?_eq_some_iff.1 hkw).1, if_neg e]; exact hkw
    · have main : ((Hp.whole w).minus o.h).dj (o.h.upd b (.cells (putCells encU 0 (srtL D).toArray arr) 60 (0, 0))) := fun k => by
        rcases Hp.minus_dj (Hp.whole w) o.h k with e | e
        · exact .inl e
        · by_cases hkb : k = b
          · subst hkb; rw [h2] at e; cases e
          · right; simp only [Hp.upd, if_neg hkb]; exact e
      match j, k, e1, e2 with
      | 0, 0, _, _ => exact absurd rfl hjk
      | 1, 1, _, _ => exact absurd rfl hjk
      | 0, 1, e1, e2 =>
        simp only [sget, Option.some.injEq] at e1 e2; subst e1 e2; exact main
      | 1, 0, e1, e2 =>
        simp only [sget, Option.some.injEq] at e1 e2; subst e1 e2; exact main.symm
    · simp only [hsl]; exact hn
    · simp only [hfl, hsl, hn]
    · simp [putCells, h5]
    · apply List.ext_getElem?
      intro t
      rw [List.getElem?_take]
      split
      · rename_i ht
        have ht : t < o.n * 1 := ht
        have hta : t < arr.size := by rw [h5]; omega
        have e3 : (putCells encU 0 (srtL D).toArray arr).toList[t]? = some (encU (srtL D)[t]) := by
          rw [Array.getElem?_toList]
          simp only [putCells, Array.getElem?_mapIdx, Array.getElem?_eq_getElem hta, Option.map_some]
          rw [if_pos ⟨Nat.zero_le _, by simp [hSl]; omega⟩]
          simp [show t < (srtL D).length by omega]
        rw [e3, ← hSv, hfe, List.getElem?_map, List.getElem?_eq_getElem (show t < (srtL D).length by omega)]
        rfl
      · rename_i ht
        rw [List.getElem?_eq_none]
        rw [hfl, hsl]; have : ¬ t < o.n * 1 := ht; omega
end Go.Proofs.YtbcjdjlihhlkaaaDoor
namespace Go.Proofs.YtbcjdjlihhlkaaaDoor
open Go Go.RowKit Go.Dw
theorem closed_spec {a : Option Addr} {n c fa : Nat} {first cap : List Value} (w : World) :
    CallsE Tryd.prog 37 #[.slice a n c, .func (.func fa) ⟨first⟩ ⟨cap⟩] w (Ret w fun v cs => ∃ b2 b3, v = .func (.func 56) ⟨[]⟩ ⟨[.pointer (some ⟨b2, 0, none⟩), .pointer (some ⟨b3, 0, none⟩)]⟩ ∧
      cs = [.box b2 [.slice a n c] 65, .box b3 [.func (.func fa) ⟨first⟩ ⟨cap⟩] 70]) := by
  refine enter (X := cx 6) (cxg _) (args := [.slice a n c, .func (.func fa) ⟨first⟩ ⟨cap⟩]) [.tmp 4] Tryd.func37 rfl rfl rfl rfl rfl ?_
  intro b2 b3
  exact ⟨_, ⟨b2, b3, rfl, rfl⟩, fun w' h => h⟩
theorem hul_lt {N : Nat} {E : List (Int × Int)} (hN : N ≤ 7) : ∀ h ∈ hulF N E, h < 128 := fun h hh => by
  unfold hulF at hh
  obtain ⟨i, _, rfl⟩ := List.mem_map.1 hh
  unfold hulv ofN
  have : ∀ (L : List Int) (s : Nat), (∀ x ∈ L, x < 7) → s < 128 → L.foldl (fun s (n : Int) => s ||| 2 ^ n.toNat) s < 128 := by
    intro L
    induction L with
    | nil => intro s _ hs; exact hs
    | cons x r ih =>
      intro s h hs
      refine ih _ (fun y hy => h y (by simp [hy])) (or_lt128 hs ?_)
      have hx := h x (by simp)
      have h7 : x.toNat < 7 := by omega
      exact Nat.lt_of_lt_of_le (Nat.pow_lt_pow_right (by decide) h7) (by decide)
  exact this _ 0 (fun x hx => by have := rea_rng hx; omega) (by decide)
theorem hul_len (N : Nat) (E : List (Int × Int)) : (hulF N E).length = N := by unfold hulF; simp
theorem bfsF_lt {allow : Nat → Bool} {H : List Nat} (hH : ∀ h ∈ H, h < 128) : ∀ t ∈ bfsF allow H, t < 128 := (bfs_fine hH 200).2
set_option maxRecDepth 10000 in
theorem sets_spec {a : Option Addr} {n c : Nat} {E : List (Int × Int)} (N all : Nat) (most without : Int) (w : World) (hL : Sl (encF fE) 2 (Hp.whole w) a n c E) (hG : Gr N E) (h0 : checkF N E = 0) (hN7 : N ≤ 7) (hw : without < 64) (hT : Tab (Hp.whole w)) :
    CallsE Tryd.prog 29 #[gv N a n c, .agg #[.int .u64 all, .int .i64 most, .int .i64 without]] w (Ret w fun v cs => ∃ o : Dw.Os, v = .tuple #[o.v, .int .i64 0] ∧ cs = [.hp o.h] ∧ OwnO fU 60 1 o (srtS (bfsF (alwF all most without) (hulF N E)) (bfsF_lt (hul_lt hN7)))) := by
  obtain ⟨allow, hal⟩ : ∃ f, f = alwF all most without := ⟨_, rfl⟩
  have hfl : (bfsF allow (hulF N E)).length ≤ 128 := fine_len (bfs_fine (hul_lt hN7) 200)
  rw [← hal]
  refine enterY (X := cx 24) (cxg _) (args := [.agg #[.int .i64 N, .slice a n c], .agg #[.int .u64 all, .int .i64 most, .int .i64 without]]) [.cell 4 65, .cell 5 32] Tryd.func29 rfl rfl rfl rfl rfl ?_
  intro b2 b3 b4 b5 b6
  refine NeedD.by_order (cxg _) (.take 0 <| .take 2 <| .take 3 <| .run 1 <| .run 4 <| .done) (by kernel_rfl) ?_
  refine call (fun w' hm => hulls_spec N w' (hL.mono (encF_mono _) (hm 0 _ rfl)) hG h0) ?_
  rintro _ _ ⟨oH, rfl, rfl, hoH⟩
  have sH := OwnO.sl (f := fU) (fun _ => rfl) (by decide) hoH
  refine ⟨(by repeat first | exact trivial | refine ⟨.inl rfl, ?_⟩ | refine ⟨.inr rfl, ?_⟩), ?_⟩
  refine call (fun w' hm => closed_spec (fa := 32) (first := [.agg #[.int .u64 all, .int .i64 most, .int .i64 without]]) (cap := []) w') ?_
  rintro _ _ ⟨b7, b8, rfl, rfl⟩
  refine ⟨(by repeat first | exact trivial | refine ⟨.inl rfl, ?_⟩ | refine ⟨.inr rfl, ?_⟩), ?_⟩
  refine NeedRF.sat fun hsat => ?_
  obtain ⟨l1, hl1⟩ : ∃ l1 : List Ch, l1 = [.hp (Hp.whole w), .hp oH.h, .box b7 [.slice oH.a oH.n oH.c] 65, .box b8 [.func (.func 32) ⟨[.agg #[.int .u64 all, .int .i64 most, .int .i64 without]]⟩ ⟨[]⟩] 70] := ⟨_, rfl⟩
  have hdj : DjL l1 := by rw [hl1]; exact hsat.djL [0, 6, 7, 8] rfl rfl
  have le0 : (Hp.whole w).le (joinL l1) := joinL_le (i := 0) (d := .hp (Hp.whole w)) hdj (by rw [hl1]; rfl)
  have le1 : oH.h.le (joinL l1) := joinL_le (i := 1) (d := .hp oH.h) hdj (by rw [hl1]; rfl)
  have le2 := joinL_le (i := 2) (d := .box b7 [.slice oH.a oH.n oH.c] 65) hdj (by rw [hl1]; rfl)
  have le3 := joinL_le (i := 3) (d := .box b8 [.func (.func 32) ⟨[.agg #[.int .u64 all, .int .i64 most, .int .i64 without]]⟩ ⟨[]⟩] 70) hdj (by rw [hl1]; rfl)
  refine rangeF (cxg _) (ps := [13]) rfl (closed1_spec (H := hulF N E) (hul_lt hN7) (by rw [hul_len]; omega) allow (fa := 32) (first := [.agg #[.int .u64 all, .int .i64 most, .int .i64 without]]) (cap := []) (fun t ht w' => by rw [hal]; exact allows_spec all most without t (by omega) hw w')) (fun _ => rfl) (by decide) (fun _ _ h l => h.mono l)
    (joinL l1) [(4, .bx 2 0), (5, .bx 3 0), (6, .bx 4 0)] Dw.Os (fun g => [.box b4 [.slice none 0 0] 65, .box b5 [.int .i64 0] 32, .box b6 [g.v] 65, .hp g.h])
    (fun g pre => OwnO fU 60 1 g pre) (fun _ _ _ => False) (fun _ => True)
    ⟨le2.cell (by simp [Ch.h, Hp.cell?, Hp.one]), sH.mono (encF_mono _) le1, le3.cell (by simp [Ch.h, Hp.cell?, Hp.one])⟩ trivial (fun _ _ _ _ => trivial) Os.nil (OwnO.nil _ _ _)
    (fun w0 w h => by rw [hl1]; exact Ok.joinP _ _ (Ok.pick [0, 6, 7, 8, 3, 4, 5, 9] rfl rfl h.emp)) rfl rfl (fun _ => rfl) ?_ ?_ (fun _ _ _ _ _ h => h.elim)
  · intro g pre x post c1 hl hx hR _
    have hlen : (bfsF allow (hulF N E)).length = pre.length + (post.length + 1) := by rw [hx]; simp
    have hgn := hR.len
    refine ⟨[(4, .bx 2 0), (5, .bx 3 0), (6, .bx 4 0), (7, .v (.int .u64 (x : Nat)))], [.box b4 [.slice none 0 0] 65, .box b5 [.int .i64 0] 32, .box b6 [g.v] 65, .hp g.h], Ent.mk (fun _ _ h => h) rfl rfl, fun hl' => ?_⟩
    refine dfalse (by omega) ?_
    intro b19
    refine appO (f := fU) (cxg _) (e := 60) rfl (i := 5) rfl hR (j := 6) x rfl rfl rfl rfl (by omega) (fun o' ho' => ?_)
    exact ⟨o', ho', fun _ _ h => h.pick [0, 1, 2, 3, 4, 5] rfl rfl⟩
  · intro g D hR
    refine callM (i := 5) rfl (fun w' hm => sortS_spec w' (hm 5 _ rfl) hR (bfsF_lt (hul_lt hN7)) (by omega) (hT.mono (le0.trans (hm 0 _ rfl).whole))) ?_
    rintro _ h2 _ ⟨rfl, rfl, ho2⟩
    exact ⟨1, rfl, [.hp h2], ⟨⟨g.a, g.n, g.c, h2⟩, rfl, rfl, ho2⟩, fun w' h => (h.pick [0, 5] rfl rfl).less le0⟩
end Go.Proofs.YtbcjdjlihhlkaaaDoor
namespace Go.Proofs.YtbcjdjlihhlkaaaDoor
open Go Go.RowKit Go.Dw
def cntF (N : Int) (E : List (Int × Int)) : Int := if checkF N E = 0 then (bfsF (fun _ => true) (hulF N.toNat E)).length + 1 else 0
theorem count1_spec (x : Nat) (w : World) : CallsE Tryd.prog 38 #[.int .u64 x] w (RetV w (.bool true)) := by
  refine enter (X := cx 3) (cxg _) (args := [.int .u64 x]) [.tmp 2] Tryd.func38 rfl rfl rfl rfl rfl ?_
  exact ⟨[], ⟨rfl, rfl⟩, fun w' h => h⟩
set_option maxRecDepth 10000 in
theorem Count_spec {a : Option Addr} {n c : Nat} {E : List (Int × Int)} (N : Int) (w : World) (hL : Sl (encF fE) 2 (Hp.whole w) a n c E) (hN7 : checkF N E = 0 → N ≤ 7) :
    CallsE Tryd.prog 20 #[gv N a n c] w (RetV w (.tuple #[.int .i64 (cntF N E), .int .i64 (checkF N E)])) := by
  refine enterY (X := cx 20) (cxg _) (args := [.agg #[.int .i64 N, .slice a n c]]) [.tmp 2, .tmp 3] Tryd.func20 rfl rfl rfl rfl rfl ?_
  intro b1
  refine callV _ (fun w' hm => check_spec N w' (hL.mono (encF_mono _) (hm 0 _ rfl))) ?_
  refine bsplitd (fun h => ?_) (fun h => ?_)
  · exact ⟨[], ⟨by unfold cntF; rw [if_neg h], rfl⟩, fun w' h => h.pick [0] rfl rfl⟩
  have h0 : checkF N E = 0 := Decidable.not_not.1 h
  have hN7 := hN7 h0
  obtain ⟨M, rfl, hG, _⟩ := checkF_ok h0
  have hM7 : M ≤ 7 := by omega
  have hfl : (bfsF (fun _ => true) (hulF M E)).length ≤ 128 := fine_len (bfs_fine (hul_lt hM7) 200)
  intro b5
  refine call (fun w' hm => hulls_spec M w' (hL.mono (encF_mono _) (hm 0 _ rfl)) hG h0) ?_
  rintro _ _ ⟨oH, rfl, rfl, hoH⟩
  have sH := OwnO.sl (f := fU) (fun _ => rfl) (by decide) hoH
  refine call (fun w' hm => closed_spec (fa := 38) (first := []) (cap := []) w') ?_
  rintro _ _ ⟨b7, b8, rfl, rfl⟩
  refine NeedRF.sat fun hsat => ?_
  obtain ⟨l1, hl1⟩ : ∃ l1 : List Ch, l1 = [.hp (Hp.whole w), .hp oH.h, .box b7 [.slice oH.a oH.n oH.c] 65, .box b8 [.func (.func 38) ⟨[]⟩ ⟨[]⟩] 70] := ⟨_, rfl⟩
  have hdj : DjL l1 := by rw [hl1]; exact hsat.djL [0, 3, 4, 5] rfl rfl
  have le0 : (Hp.whole w).le (joinL l1) := joinL_le (i := 0) (d := .hp (Hp.whole w)) hdj (by rw [hl1]; rfl)
  have le1 : oH.h.le (joinL l1) := joinL_le (i := 1) (d := .hp oH.h) hdj (by rw [hl1]; rfl)
  have le2 := joinL_le (i := 2) (d := .box b7 [.slice oH.a oH.n oH.c] 65) hdj (by rw [hl1]; rfl)
  have le3 := joinL_le (i := 3) (d := .box b8 [.func (.func 38) ⟨[]⟩ ⟨[]⟩] 70) hdj (by rw [hl1]; rfl)
  refine rangeF (cxg _) (ps := [14]) rfl (closed1_spec (H := hulF M E) (hul_lt hM7) (by rw [hul_len]; omega) (fun _ => true) (fa := 38) (first := []) (cap := []) (fun t _ w' => count1_spec t w')) (fun _ => rfl) (by decide) (fun _ _ h l => h.mono l)
    (joinL l1) [(5, .bx 2 0)] Nat (fun g => [.box b5 [.int .i64 ((g + 1 : Nat) : Int)] 3])
    (fun g pre => g = pre.length) (fun _ _ _ => False) (fun _ => True)
    ⟨le2.cell (by simp [Ch.h, Hp.cell?, Hp.one]), sH.mono (encF_mono _) le1, le3.cell (by simp [Ch.h, Hp.cell?, Hp.one])⟩ trivial (fun _ _ _ _ => trivial) 0 rfl
    (fun w0 w h => by rw [hl1]; exact Ok.joinP _ _ (Ok.pick [0, 3, 4, 5, 2] rfl rfl h)) rfl rfl (fun _ => rfl) ?_ ?_ (fun _ _ _ _ _ h => h.elim)
  · intro g pre x post c1 hl hx hR _
    have hlen : (bfsF (fun _ => true) (hulF M E)).length = pre.length + (post.length + 1) := by rw [hx]; simp
    refine ⟨[(5, .bx 2 0)], [.box b5 [.int .i64 ((g + 1 : Nat) : Int)] 3], Ent.mk (fun _ _ h => h) rfl rfl, fun hl' => ?_⟩
    refine nwEq (y := ((g + 1 + 1 : Nat) : Int)) (by omega) (by omega) (by omega) ?_
    refine dfalse (by omega) ?_
    exact ⟨g + 1, by simp [hR], fun _ _ h => h⟩
  · intro g D hR
    exact ⟨1, rfl, [], ⟨by unfold cntF; rw [if_pos h0, Int.toNat_natCast, h0, hR]; rfl, rfl⟩, fun w' h => (h.pick [0] rfl rfl).less le0⟩
/-- the candidates of a graph with few nodes -/
def canL (M : Nat) (E : List (Int × Int)) (most without : Int) : List Nat := if h : M ≤ 7 then srtS (bfsF (alwF (allN M) most without) (hulF M E)) (bfsF_lt (hul_lt h)) else []
def canR (N : Int) (E : List (Int × Int)) (most without : Int) : List (List Int) := if resE N E most without = 0 then (canL N.toNat E most without).map nod else []
theorem resE_ok {N : Int} {E : List (Int × Int)} {most without : Int} (h : resE N E most without = 0) : checkF N E = 0 ∧ 0 ≤ most ∧ -1 ≤ without ∧ without < N := by
  unfold resE at h
  split at h
  · rename_i h1; exact absurd h h1
  · rename_i h1
    split at h
    · cases h
    · exact ⟨Decidable.not_not.1 h1, by omega, by omega, by omega⟩
theorem canL_lt (M : Nat) (E : List (Int × Int)) (most without : Int) : ∀ t ∈ canL M E most without, t < 128 := fun t ht => by
  unfold canL at ht
  split at ht
  · exact srtS_lt _ _ t ht
  · cases ht
theorem canL_len (M : Nat) (E : List (Int × Int)) (most without : Int) : (canL M E most without).length ≤ 128 := by
  unfold canL
  split
  · rename_i h; rw [srtS_len]; exact fine_len (bfs_fine (hul_lt h) 200)
  · simp
theorem Candidates_spec {a : Option Addr} {n c : Nat} {E : List (Int × Int)} (N most without : Int) (w : World) (hL : Sl (encF fE) 2 (Hp.whole w) a n c E) (hN7 : checkF N E = 0 → N ≤ 7) (hT : Tab (Hp.whole w)) :
    CallsE Tryd.prog 12 #[gv N a n c, .int .i64 most, .int .i64 without] w (RetR w (canR N E most without) (resE N E most without)) := by
  refine enter (X := cx 30) (cxg _) (args := [.agg #[.int .i64 N, .slice a n c], .int .i64 most, .int .i64 without]) [.tmp 6, .tmp 7] Tryd.func12 rfl rfl rfl rfl rfl ?_
  intro b3
  refine callV _ (fun w' hm => restricted_spec N most without w' (hL.mono (encF_mono _) (hm 0 _ rfl))) ?_
  intro b8
  refine bsplitd (fun h => ?_) (fun h => ?_)
  · refine ⟨[.hp Hp.emp], ⟨none, 0, 0, Hp.emp, rfl, rfl, ?_⟩, fun w' h => (h.pick [0] rfl rfl).emp⟩
    unfold canR; rw [if_neg h]; exact Sl.nil _ _ _ _ _
  have hr0 : resE N E most without = 0 := Decidable.not_not.1 h
  obtain ⟨h0, hm0, hw1, hw2⟩ := resE_ok hr0
  have hN7 := hN7 h0
  obtain ⟨M, rfl, hG, _⟩ := checkF_ok h0
  have hM7 : M ≤ 7 := by omega
  have g1 : resA M E most without = allN M := by unfold resA; rw [if_pos hr0, Int.toNat_natCast]
  have g2 : resM M E most without = most := by unfold resM; rw [if_pos hr0]
  have g3 : resX M E most without = without := by unfold resX; rw [if_pos hr0]
  rw [g1, g2, g3]
  have hcan : canL M E most without = srtS (bfsF (alwF (allN M) most without) (hulF M E)) (bfsF_lt (hul_lt hM7)) := by unfold canL; rw [dif_pos hM7]
  refine call (fun w' hm => sets_spec M (allN M) most without w' (hL.mono (encF_mono _) (hm 0 _ rfl)) hG h0 hM7 (by omega) (hT.mono (hm 0 _ rfl))) ?_
  rintro _ _ ⟨o, rfl, rfl, ho⟩
  rw [← hcan] at ho
  have so := OwnO.sl (f := fU) (fun _ => rfl) (by decide) ho
  have hol := ho.len
  have hcl := canL_len M E most without
  refine call (fun w' hm => listsS_spec w' (so.mono (encF_mono _) (hm 3 _ rfl)) (fun x hx => by have := canL_lt M E most without x hx; omega) (by omega) (hT.mono (hm 0 _ rfl))) ?_
  rintro _ _ ⟨a', n', c', h', rfl, rfl, hs⟩
  refine ⟨[.hp h'], ⟨a', n', c', h', by rw [hr0], rfl, ?_⟩, fun w' h => h.pick [0, 4] rfl rfl⟩
  unfold canR; rw [if_pos hr0, Int.toNat_natCast]; exact hs
end Go.Proofs.YtbcjdjlihhlkaaaDoor
namespace Go.Proofs.YtbcjdjlihhlkaaaDoor
open Go Go.RowKit Go.Dw
def leaS (allow : Nat → Bool) (g : Nat × Bool) (h : Nat) : Nat × Bool := if allow h && (!g.2 || decide (cmpS h g.1 < 0)) then (h, true) else g
def leaF (allow : Nat → Bool) (H : List Nat) : Nat × Bool := H.foldl (leaS allow) (0, false)
def leaR (N : Int) (E : List (Int × Int)) (most without : Int) : Nat × Bool := if resE N E most without = 0 then leaF (alwF (allN N.toNat) most without) (hulF N.toNat E) else (0, false)
theorem leaF_lt {allow : Nat → Bool} {H : List Nat} (hH : ∀ h ∈ H, h < 18446744073709551616) : (leaF allow H).1 < 18446744073709551616 := by
  unfold leaF
  have : ∀ (H : List Nat) (g : Nat × Bool), (∀ h ∈ H, h < 18446744073709551616) → g.1 < 18446744073709551616 → (H.foldl (leaS allow) g).1 < 18446744073709551616 := by
    intro H
    induction H with
    | nil => intro g _ hg; exact hg
    | cons x r ih =>
      intro g h hg
      refine ih _ (fun y hy => h y (by simp [hy])) ?_
      unfold leaS; split
      · exact h x (by simp)
      · exact hg
  exact this H _ hH (by decide)
set_option maxRecDepth 10000 in
theorem Least_spec {a : Option Addr} {n c : Nat} {E : List (Int × Int)} (N most without : Int) (w : World) (hL : Sl (encF fE) 2 (Hp.whole w) a n c E) (hT : Tab (Hp.whole w)) :
    CallsE Tryd.prog 13 #[gv N a n c, .int .i64 most, .int .i64 without] w (Ret w fun v cs => ∃ o : Dw.Os, v = .tuple #[o.v, .bool (leaR N E most without).2, .int .i64 (resE N E most without)] ∧ cs = [.hp o.h] ∧ OwnO fI 3 1 o (nod (leaR N E most without).1)) := by
  refine enter (X := cx 50) (cxg _) (args := [.agg #[.int .i64 N, .slice a n c], .int .i64 most, .int .i64 without]) [.tmp 6, .tmp 7, .tmp 8] Tryd.func13 rfl rfl rfl rfl rfl ?_
  intro b3
  refine callV _ (fun w' hm => restricted_spec N most without w' (hL.mono (encF_mono _) (hm 0 _ rfl))) ?_
  intro b9
  refine bsplitd (fun h => ?_) (fun h => ?_)
  · have hz : leaR N E most without = (0, false) := by unfold leaR; rw [if_neg h]
    exact ⟨[.hp Hp.emp], ⟨Os.nil, by rw [hz]; rfl, rfl, by rw [hz, nod_zero]; exact OwnO.nil _ _ _⟩, fun w' h => (h.pick [0] rfl rfl).emp⟩
  have hr0 : resE N E most without = 0 := Decidable.not_not.1 h
  obtain ⟨h0, hm0, hw1, hw2⟩ := resE_ok hr0
  obtain ⟨M, rfl, hG, _⟩ := checkF_ok h0
  have hN := hG.hN
  have g1 : resA M E most without = allN M := by unfold resA; rw [if_pos hr0, Int.toNat_natCast]
  have g2 : resM M E most without = most := by unfold resM; rw [if_pos hr0]
  have g3 : resX M E most without = without := by unfold resX; rw [if_pos hr0]
  rw [g1, g2, g3]
  have hle : leaR M E most without = leaF (alwF (allN M) most without) (hulF M E) := by unfold leaR; rw [if_pos hr0, Int.toNat_natCast]
  obtain ⟨allow, hal⟩ : ∃ f, f = alwF (allN M) most without := ⟨_, rfl⟩
  rw [hle, ← hal]
  have kA : ∀ (s : Nat), s < 18446744073709551616 → ∀ w, CallsE Tryd.prog 32 #[.agg #[.int .u64 (allN M : Nat), .int .i64 most, .int .i64 without], .int .u64 s] w (RetV w (.bool (allow s))) := fun s hs w => by
    rw [hal]; exact allows_spec (allN M) most without s hs (by omega) w
  have hH : ∀ h ∈ hulF M E, h < 18446744073709551616 := fun h hh => by
    unfold hulF at hh
    obtain ⟨i, _, rfl⟩ := List.mem_map.1 hh
    exact hulv_lt hN i
  have hHl := hul_len M E
  refine call (fun w' hm => hulls_spec M w' (hL.mono (encF_mono _) (hm 0 _ rfl)) hG h0) ?_
  rintro _ _ ⟨oH, rfl, rfl, hoH⟩
  have sH := OwnO.sl (f := fU) (fun _ => rfl) (by decide) hoH
  have nH := hoH.len
  refine NeedL.mk Nat (fun k => [(9, .bx 2 0), (11, .v (.int .u64 ((((hulF M E).take k).foldl (leaS allow) (0, false)).1 : Nat))), (12, .v (.bool (((hulF M E).take k).foldl (leaS allow) (0, false)).2)), (26, .v oH.v), (27, .v (.int .i64 oH.n)), (28, .v (.int .i64 k))])
    (fun _ => [.hp (Hp.whole w), .box b3 [.int .i64 M, .slice a n c] 28, .box b9 [.int .u64 (allN M : Nat), .int .i64 most, .int .i64 without] 62, .hp oH.h]) (fun k => k ≤ oH.n) (fun k => oH.n - k) 0 (Nat.zero_le _) (Ent.mk (fun _ _ h => h) rfl rfl) ?_
  rintro k hk
  obtain ⟨g, hg⟩ : ∃ g, g = ((hulF M E).take k).foldl (leaS allow) (0, false) := ⟨_, rfl⟩
  have hgl : g.1 < 18446744073709551616 := by
    rw [hg]; exact leaF_lt (H := (hulF M E).take k) fun h hh => hH h (List.mem_of_mem_take hh)
  rw [← hg]
  refine bsplitd (fun hlt => ?_) (fun hge => ?_)
  · have hkl : k < (hulF M E).length := by omega
    obtain ⟨x, hx⟩ : ∃ x, x = (hulF M E)[k] := ⟨_, rfl⟩
    have hx64 : x < 18446744073709551616 := by rw [hx]; exact hH _ (List.getElem_mem hkl)
    have hstep : ((hulF M E).take (k + 1)).foldl (leaS allow) (0, false) = leaS allow g x := by
      rw [List.take_succ_eq_append_getElem hkl, List.foldl_append, ← hg, hx]; rfl
    refine idx (cxg _) (e := 60) rfl sH k rfl hkl (fun b o cs hcs hR hcell => ?_)
    subst hR
    refine ld1 (cxg _) (i := 3) rfl (hcell 0 _ rfl) rfl ?_
    rw [← hx]
    refine callV _ (fun w' _ => kA x hx64 w') ?_
    have yes : (allow x && (!g.2 || decide (cmpS x g.1 < 0))) = true → leaS allow g x = (x, true) := fun h => by unfold leaS; rw [if_pos h]
    have no : (allow x && (!g.2 || decide (cmpS x g.1 < 0))) = false → leaS allow g x = g := fun h => by unfold leaS; rw [if_neg (by rw [h]; exact Bool.false_ne_true)]
    refine bsplit (fun h1 => ?_) (fun h1 => ?_)
    · refine bsplit (fun h2 => ?_) (fun h2 => ?_)
      · refine nw (by omega) (by omega) ?_
        exact ⟨k + 1, by omega, by omega, Ent.mk (fun _ _ h => h) (by rw [hstep, yes (by rw [h1, h2]; rfl)]; rfl) rfl⟩
      · refine callV _ (fun w' hm => compareS_spec x g.1 hx64 hgl w' (hT.mono (hm 0 _ rfl))) ?_
        refine bsplitd (fun h3 => ?_) (fun h3 => ?_)
        · refine nw (by omega) (by omega) ?_
          exact ⟨k + 1, by omega, by omega, Ent.mk (fun _ _ h => h) (by rw [hstep, yes (by rw [h1, h2, decide_eq_true h3]; rfl)]; rfl) rfl⟩
        · refine nw (by omega) (by omega) ?_
          exact ⟨k + 1, by omega, by omega, Ent.mk (fun _ _ h => h) (by rw [hstep, no (by rw [h1, h2, decide_eq_false h3]; rfl)]; rfl) rfl⟩
    · refine nw (by omega) (by omega) ?_
      exact ⟨k + 1, by omega, by omega, Ent.mk (fun _ _ h => h) (by rw [hstep, no (by rw [h1]; rfl)]; rfl) rfl⟩
  · have hall : g = leaF allow (hulF M E) := by rw [hg, List.take_of_length_le (by omega)]; rfl
    refine call (fun w' hm => nodes_spec g.1 hgl w' (hT.mono (hm 0 _ rfl))) ?_
    rintro _ _ ⟨o, rfl, rfl, ho⟩
    exact ⟨[.hp o.h], ⟨o, by rw [hr0, ← hall], rfl, by rw [← hall]; exact ho⟩, fun w' h => h.pick [0, 4] rfl rfl⟩
def helF (N : Int) (E : List (Int × Int)) (most without : Int) : Bool := decide (resE N E most without = 0) && !(leaR N E most without).2
theorem Held_spec {a : Option Addr} {n c : Nat} {E : List (Int × Int)} (N most without : Int) (w : World) (hL : Sl (encF fE) 2 (Hp.whole w) a n c E) (hT : Tab (Hp.whole w)) :
    CallsE Tryd.prog 24 #[gv N a n c, .int .i64 most, .int .i64 without] w (RetV w (.tuple #[.bool (helF N E most without), .int .i64 (resE N E most without)])) := by
  refine enter (X := cx 26) (cxg _) (args := [.agg #[.int .i64 N, .slice a n c], .int .i64 most, .int .i64 without]) [.tmp 6, .tmp 7] Tryd.func24 rfl rfl rfl rfl rfl ?_
  intro b3
  refine call (fun w' hm => Least_spec N most without w' (hL.mono (encF_mono _) (hm 0 _ rfl)) (hT.mono (hm 0 _ rfl))) ?_
  rintro _ _ ⟨o, rfl, rfl, ho⟩
  refine bsplitd (fun h => ?_) (fun h => ?_)
  · exact ⟨[], ⟨by unfold helF; rw [decide_eq_true h]; rfl, rfl⟩, fun w' h => h.pick [0] rfl rfl⟩
  · exact ⟨[], ⟨by unfold helF; rw [decide_eq_false h]; rfl, rfl⟩, fun w' h => h.pick [0] rfl rfl⟩
def minR (N : Int) (E : List (Int × Int)) : List (List Int) := if checkF N E = 0 then (if (sinkF N.toNat E).length = 1 ∧ (((sinkF N.toNat E).getD 0 []).length : Int) = N then [] else sinkF N.toNat E) else []
theorem Minimal_spec {a : Option Addr} {n c : Nat} {E : List (Int × Int)} (N : Int) (w : World) (hL : Sl (encF fE) 2 (Hp.whole w) a n c E) :
    CallsE Tryd.prog 19 #[gv N a n c] w (RetR w (minR N E) (checkF N E)) := by
  refine enter (X := cx 29) (cxg _) (args := [.agg #[.int .i64 N, .slice a n c]]) [.tmp 2, .tmp 3] Tryd.func19 rfl rfl rfl rfl rfl ?_
  intro b1
  refine call (fun w' hm => Sinks_spec N w' (hL.mono (encF_mono _) (hm 0 _ rfl))) ?_
  rintro _ _ ⟨a', n', c', h, rfl, rfl, hs⟩
  have hn := hs.len
  refine NeedD.by_order (cxg _) (.take 0 <| .take 1 <| .take 2 <| .take 3 <| .take 4 <| .take 5 <| .take 6 <| .take 7 <| .take 8 <| .take 9 <| .take 10 <| .take 11 <| .take 12 <| .take 13 <| .take 14 <| .take 15 <| .done) (by kernel_rfl) ?_
  refine bsplitd (fun h1 => ?_) (fun h1 => ?_)
  · have e : minR N E = [] := by unfold minR; rw [if_neg h1]
    exact ⟨[.hp Hp.emp], ⟨none, 0, 0, Hp.emp, rfl, rfl, by rw [e]; exact Sl.nil _ _ _ _ _⟩, fun w' h => (h.pick [0] rfl rfl).emp⟩
  have h0 : checkF N E = 0 := Decidable.not_not.1 h1
  have hsk : sinkR N E = sinkF N.toNat E := by unfold sinkR; rw [if_pos h0]
  rw [hsk] at hs hn
  refine bsplitd (fun h2 => ?_) (fun h2 => ?_)
  · have hl1 : 0 < (sinkF N.toNat E).length := by omega
    have hgd : (sinkF N.toNat E).getD 0 [] = (sinkF N.toNat E)[0] := by simp [List.getD, hl1]
    refine idx (cxg _) (e := 35) rfl hs 0 rfl hl1 (fun b o cs hcs hR hcell => ?_)
    obtain ⟨a3, n3, c3, rfl, hs3⟩ := hR
    have hn3 := hs3.len
    refine ld1 (cxg _) (i := 2) rfl (hcell 0 _ rfl) rfl ?_
    refine bsplitd (fun h3 => ?_) (fun h3 => ?_)
    · have e : minR N E = [] := by unfold minR; rw [if_pos h0, if_pos ⟨by omega, by rw [hgd, ← hn3]; exact h3⟩]
      exact ⟨[.hp Hp.emp], ⟨none, 0, 0, Hp.emp, rfl, rfl, by rw [e]; exact Sl.nil _ _ _ _ _⟩, fun w' h => (h.pick [0] rfl rfl).emp⟩
    · have e : minR N E = sinkF N.toNat E := by unfold minR; rw [if_pos h0, if_neg (fun hh => h3 (by rw [hn3, ← hgd]; exact hh.2))]
      exact ⟨[.hp h], ⟨a', n', c', h, by rw [h0], rfl, by rw [e]; exact hs⟩, fun w' h => h.pick [0, 2] rfl rfl⟩
  · have e : minR N E = sinkF N.toNat E := by unfold minR; rw [if_pos h0, if_neg (fun hh => h2 (by omega))]
    exact ⟨[.hp h], ⟨a', n', c', h, by rw [h0], rfl, by rw [e]; exact hs⟩, fun w' h => h.pick [0, 2] rfl rfl⟩
theorem Hull_spec {a a1 : Option Addr} {n c n1 c1 : Nat} {E : List (Int × Int)} {L : List Int} (N : Int) (w : World) (hL : Sl (encF fE) 2 (Hp.whole w) a n c E) (hM : Sl (encF fI) 1 (Hp.whole w) a1 n1 c1 L) (hl : L.length < 1000000000) :
    CallsE Tryd.prog 21 #[gv N a n c, .slice a1 n1 c1] w (RetI w (reaR N E L) (readyF N E L)) := by
  refine enter (X := cx 11) (cxg _) (args := [.agg #[.int .i64 N, .slice a n c], .slice a1 n1 c1]) [.tmp 4, .tmp 5] Tryd.func21 rfl rfl rfl rfl rfl ?_
  intro b2
  refine call (fun w' hm => Reach_spec N w' (hL.mono (encF_mono _) (hm 0 _ rfl)) (hM.mono (encF_mono _) (hm 0 _ rfl)) hl) ?_
  rintro _ _ ⟨o, rfl, rfl, ho⟩
  exact ⟨[.hp o.h], ⟨o, rfl, rfl, ho⟩, fun w' h => h.pick [0, 2] rfl rfl⟩
end Go.Proofs.YtbcjdjlihhlkaaaDoor
namespace Go.Proofs.YtbcjdjlihhlkaaaDoor
open Go Go.RowKit Go.Dw
theorem ofN_bit {L : List Int} (h : ∀ x ∈ L, 0 ≤ x) (i : Nat) : (ofN L).testBit i = decide ((i : Int) ∈ L) := by
  unfold ofN
  have : ∀ (L : List Int) (s : Nat), (∀ x ∈ L, 0 ≤ x) → (L.foldl (fun s (n : Int) => s ||| 2 ^ n.toNat) s).testBit i = (s.testBit i || decide ((i : Int) ∈ L)) := by
    intro L
    induction L with
    | nil => intro s _; simp
    | cons x r ih =>
      intro s h
      have hx := h x (by simp)
      rw [List.foldl_cons, ih _ fun y hy => h y (by simp [hy]), Nat.testBit_or, Nat.testBit_two_pow, Bool.eq_iff_iff]
      simp only [Bool.or_eq_true, decide_eq_true_eq, List.mem_cons]
      constructor
      · rintro ((h1 | h1) | h1)
        · exact .inl h1
        · exact .inr (.inl (by omega))
        · exact .inr (.inr h1)
      · rintro (h1 | h1 | h1)
        · exact .inl (.inl h1)
        · exact .inl (.inr (by omega))
        · exact .inr h1
  rw [this L 0 h]; simp
theorem not_bit {b : Nat} (hb : b < 18446744073709551616) (i : Nat) : (18446744073709551615 - b).testBit i = (decide (i < 64) && !b.testBit i) := by
  have : 18446744073709551615 - b = 2 ^ 64 - (b + 1) := by omega
  rw [this, Nat.testBit_two_pow_sub_succ hb]
def peelC (M : Nat) (E : List (Int × Int)) (gone : Nat) (c : List Int) : Bool :=
  decide (((ofN c &&& gone : Nat) : Int) = 0) && decide ((((hulF M E).getD (c.getD 0 0).toNat 0 &&& (18446744073709551615 - (gone ||| ofN c)) : Nat) : Int) = 0)
def peelS (M : Nat) (E : List (Int × Int)) (g : List (List Int) × Nat) : List (List Int) × Nat := match (compF M E).find? (peelC M E g.2) with
  | some c => (g.1 ++ [c], g.2 ||| ofN c)
  | none => g
def peelK (M : Nat) (E : List (Int × Int)) : Nat → List (List Int) × Nat
  | 0 => ([], 0)
  | i + 1 => peelS M E (peelK M E i)
def peelF (M : Nat) (E : List (Int × Int)) : List (List Int) := (peelK M E (compF M E).length).1
theorem sub_lenG {α : Type} [DecidableEq α] : ∀ {A B : List α}, A.Nodup → (∀ x ∈ A, x ∈ B) → A.length ≤ B.length
  | [], _, _, _ => by simp
  | x :: A, B, hn, h => by
    have hx := h x (by simp)
    have := sub_lenG (A := A) (B := B.erase x) (List.nodup_cons.1 hn).2 fun y hy => by
      have hne : y ≠ x := fun e => (List.nodup_cons.1 hn).1 (e ▸ hy)
      exact (List.mem_erase_of_ne hne).2 (h y (by simp [hy]))
    rw [List.length_erase_of_mem hx] at this
    have hp := List.length_pos_of_mem hx
    rw [List.length_cons]; omega
section
variable {M : Nat} {E : List (Int × Int)}
theorem comp_in {c : List Int} (h : c ∈ compF M E) : ∃ k, ∃ hk : k < (compF M E).length, (compF M E)[k] = c := by
  obtain ⟨k, hk, rfl⟩ := List.getElem_of_mem h; exact ⟨k, hk, rfl⟩
theorem comp_pos {c : List Int} (hG : Gr M E) (h : c ∈ compF M E) : ∃ v : Nat, v < M ∧ c.getD 0 0 = v ∧ (v : Int) ∈ c ∧ 0 < c.length := by
  obtain ⟨k, hk, rfl⟩ := comp_in h
  have hk' : k < (reps M E M).length := by rw [← comp_len]; exact hk
  have hget : (compF M E)[k] = cls M E (reps M E M)[k] := by simp [compF]
  have hr := reps_lt (List.getElem_mem hk')
  obtain ⟨hp, _⟩ := cls_head hG hr.1
  rw [← hget] at hp
  have hm : (compF M E)[k][0] ∈ (compF M E)[k] := List.getElem_mem hp
  obtain ⟨h1, h2⟩ := comp_rng hk hm
  exact ⟨((compF M E)[k][0]).toNat, by omega, by simp [List.getD, hp]; omega, by rw [Int.toNat_of_nonneg h1]; exact hm, hp⟩
theorem comp_same {c d : List Int} (hG : Gr M E) (hc : c ∈ compF M E) (hd : d ∈ compF M E) {v : Nat} (hv : v < M) (h1 : (v : Int) ∈ c) (h2 : (v : Int) ∈ d) : c = d := by
  obtain ⟨i, hi, rfl⟩ := comp_in hc
  obtain ⟨j, hj, rfl⟩ := comp_in hd
  have e1 := (mem_comp hG hi hv).1 h1
  have e2 := (mem_comp hG hj hv).1 h2
  have : i = j := by omega
  subst this; rfl
theorem comp_nodup (hG : Gr M E) : (compF M E).Nodup := by
  unfold List.Nodup
  rw [List.pairwise_iff_getElem]
  intro i j hi hj hij e
  obtain ⟨v, hv, _, hm, _⟩ := comp_pos hG (List.getElem_mem hi)
  have e1 := (mem_comp hG hi hv).1 hm
  rw [e] at hm
  have e2 := (mem_comp hG hj hv).1 hm
  omega
theorem comp_nn {c : List Int} (h : c ∈ compF M E) : ∀ x ∈ c, 0 ≤ x := fun x hx => by
  obtain ⟨k, hk, rfl⟩ := comp_in h
  exact (comp_rng hk hx).1
/-- what holds when i components are out -/
structure PeelI (M : Nat) (E : List (Int × Int)) (g : List (List Int) × Nat) (i : Nat) : Prop where
  len : g.1.length = i
  nd : g.1.Nodup
  sub : ∀ c ∈ g.1, c ∈ compF M E
  bit : ∀ v : Nat, g.2.testBit v = g.1.any fun c => decide ((v : Int) ∈ c)
theorem PeelI.lt (hG : Gr M E) {g : List (List Int) × Nat} {i : Nat} (h : PeelI M E g i) : g.2 < 18446744073709551616 := by
  have hN := hG.hN
  refine Nat.lt_pow_two_of_testBit (n := 64) g.2 fun v hv => ?_
  rw [h.bit, List.any_eq_false]
  intro c hc
  simp only [decide_eq_true_eq]
  intro hm
  obtain ⟨k, hk, rfl⟩ := comp_in (h.sub c hc)
  have := comp_rng hk hm
  omega
theorem own_lt (hG : Gr M E) {c : List Int} (hc : c ∈ compF M E) : ofN c < 18446744073709551616 := ofN_lt fun x hx => by
  have hN := hG.hN
  obtain ⟨k, hk, rfl⟩ := comp_in hc
  have := comp_rng hk hx
  omega
theorem peel_find (hG : Gr M E) {g : List (List Int) × Nat} {i : Nat} (h : PeelI M E g i) (hi : i < (compF M E).length) : ∃ c, (compF M E).find? (peelC M E g.2) = some c := by
  have hN := hG.hN
  -- a component that is not out
  obtain ⟨c0, hc0, hn0⟩ : ∃ c, c ∈ compF M E ∧ c ∉ g.1 := by
    refine Classical.byContradiction fun hno => ?_
    have := sub_lenG (comp_nodup hG) (B := g.1) fun x hx => Classical.byContradiction fun hn => hno ⟨x, hx, hn⟩
    have := h.len
    omega
  obtain ⟨v0, hv0, _, hm0, _⟩ := comp_pos hG hc0
  have hb0 : g.2.testBit v0 = false := by
    rw [h.bit, List.any_eq_false]
    intro c hc
    simp only [decide_eq_true_eq]
    intro hm
    exact hn0 (comp_same hG hc0 (h.sub c hc) hv0 hm0 hm ▸ hc)
  obtain ⟨x, hx, hmin⟩ := min_ex (fun y : Nat => rnum M E y) (L := (List.range M).filter fun y => !g.2.testBit y) (fun e => by
    have : v0 ∈ (List.range M).filter fun y => !g.2.testBit y := List.mem_filter.2 ⟨List.mem_range.2 hv0, by rw [hb0]; rfl⟩
    rw [e] at this; cases this)
  obtain ⟨hxM, hxb⟩ := List.mem_filter.1 hx
  have hxM := List.mem_range.1 hxM
  simp only [Bool.not_eq_true'] at hxb
  obtain ⟨k, hk1, hk2, _⟩ := of_get hG hxM
  rw [← comp_len] at hk2
  have hc := List.getElem_mem hk2
  have hxc : (x : Int) ∈ (compF M E)[k] := (mem_comp hG hk2 hxM).2 hk1
  obtain ⟨u, huM, hu0, huc, _⟩ := comp_pos hG hc
  have hux : eqv M E x u = true := (of_eq hG hxM huM).1 (by rw [hk1, (mem_comp hG hk2 huM).1 huc])
  have hgl := h.lt hG
  have hol := own_lt hG hc
  have main : peelC M E g.2 (compF M E)[k] = true := by
    unfold peelC
    rw [Bool.and_eq_true, decide_eq_true_eq, decide_eq_true_eq]
    constructor
    · have : ofN (compF M E)[k] &&& g.2 = 0 := by
        refine Nat.eq_of_testBit_eq fun y => ?_
        rw [Nat.testBit_and, ofN_bit (comp_nn hc), Nat.zero_testBit, Bool.and_eq_false_iff]
        by_cases hy : (y : Int) ∈ (compF M E)[k]
        · right
          have hyM : y < M := by have := comp_rng hk2 hy; omega
          rw [h.bit, List.any_eq_false]
          intro c hcm
          simp only [decide_eq_true_eq]
          intro hyc
          have e := comp_same hG (h.sub c hcm) hc hyM hyc hy
          have hb : g.2.testBit x = true := by
            rw [h.bit, List.any_eq_true]
            exact ⟨c, hcm, by rw [decide_eq_true_eq, e]; exact hxc⟩
          rw [hb] at hxb; cases hxb
        · left; exact decide_eq_false hy
      omega
    · have hhv : (hulF M E).getD ((compF M E)[k].getD 0 0).toNat 0 = hulv M E u := by
        rw [hu0, Int.toNat_natCast]; unfold hulF; simp [List.getD, huM]
      rw [hhv]
      have : hulv M E u &&& (18446744073709551615 - (g.2 ||| ofN (compF M E)[k])) = 0 := by
        refine Nat.eq_of_testBit_eq fun y => ?_
        rw [Nat.testBit_and, not_bit (or_lt hgl hol), Nat.zero_testBit, Nat.testBit_or, ofN_bit (comp_nn hc)]
        unfold hulv
        rw [ofN_bit fun z hz => (rea_rng hz).1]
        by_cases hy : (y : Int) ∈ reaK M E [(u : Int)] M
        · have hyM : y < M := by have := rea_rng hy; omega
          have hr : rch M E u y = true := by rw [← rea_one hyM]; exact decide_eq_true hy
          cases hb : g.2.testBit y with
          | true => simp
          | false =>
            have hle := hmin y (List.mem_filter.2 ⟨List.mem_range.2 hyM, by rw [hb]; rfl⟩)
            unfold eqv at hux
            simp only [Bool.and_eq_true] at hux
            have hxy := rch_trans hG hxM huM hux.1 hr
            have hyx := rnum_back hG hxM hyM hxy hle
            have : (y : Int) ∈ (compF M E)[k] := (mem_comp hG hk2 hyM).2 (by rw [← hk1]; exact (of_eq hG hyM hxM).2 (by unfold eqv; rw [hyx, hxy]; rfl))
            simp [this]
        · rw [decide_eq_false hy, Bool.false_and]
      omega
  cases hf : (compF M E).find? (peelC M E g.2) with
  | some c => exact ⟨c, rfl⟩
  | none =>
    have := List.find?_eq_none.1 hf _ hc
    rw [main] at this
    exact absurd rfl this
theorem peel_next (hG : Gr M E) {g : List (List Int) × Nat} {i : Nat} (h : PeelI M E g i) {c : List Int} (hf : (compF M E).find? (peelC M E g.2) = some c) : PeelI M E (g.1 ++ [c], g.2 ||| ofN c) (i + 1) := by
  have hc := List.mem_of_find?_eq_some hf
  have hp := List.find?_some hf
  unfold peelC at hp
  rw [Bool.and_eq_true, decide_eq_true_eq] at hp
  have h0 : ofN c &&& g.2 = 0 := by have := hp.1; omega
  obtain ⟨v, hv, _, hm, _⟩ := comp_pos hG hc
  refine ⟨by simp [h.len], ?_, ?_, fun y => ?_⟩
  · refine List.nodup_append.2 ⟨h.nd, by simp, fun a ha b hb e => ?_⟩
    simp only [List.mem_singleton] at hb
    have hac : c ∈ g.1 := by rw [← hb, ← e]; exact ha
    have e1 : g.2.testBit v = true := by rw [h.bit, List.any_eq_true]; exact ⟨c, hac, decide_eq_true hm⟩
    have e2 : (ofN c &&& g.2).testBit v = true := by rw [Nat.testBit_and, e1, ofN_bit (comp_nn hc), decide_eq_true hm]; rfl
    rw [h0, Nat.zero_testBit] at e2; cases e2
  · intro d hd
    rcases List.mem_append.1 hd with hd | hd
    · exact h.sub d hd
    · simp only [List.mem_singleton] at hd; rw [hd]; exact hc
  · rw [Nat.testBit_or, h.bit, ofN_bit (comp_nn hc), List.any_append]
    simp
theorem peel_inv (hG : Gr M E) : ∀ i, i ≤ (compF M E).length → PeelI M E (peelK M E i) i
  | 0, _ => ⟨rfl, by simp [peelK], by simp [peelK], fun v => by simp [peelK]⟩
  | i + 1, hi => by
    have ih := peel_inv hG i (by omega)
    obtain ⟨c, hf⟩ := peel_find hG ih (by omega)
    have : peelK M E (i + 1) = ((peelK M E i).1 ++ [c], (peelK M E i).2 ||| ofN c) := by rw [peelK, peelS, hf]
    rw [this]
    exact peel_next hG ih hf
end
end Go.Proofs.YtbcjdjlihhlkaaaDoor
namespace Go.Proofs.YtbcjdjlihhlkaaaDoor
open Go Go.RowKit Go.Dw
theorem find_at {α : Type} {p : α → Bool} {L : List α} {k : Nat} (hk : k < L.length) (hb : ∀ j (hj : j < k), p (L[j]'(by omega)) = false) (hp : p L[k] = true) : L.find? p = some L[k] := by
  have e : L = L.take k ++ (L[k] :: L.drop (k + 1)) := by rw [← List.drop_eq_getElem_cons hk, List.take_append_drop]
  have hn : (L.take k).find? p = none := List.find?_eq_none.2 fun x hx => by
    obtain ⟨j, hj, rfl⟩ := List.getElem_of_mem hx
    have hj' : j < k := by rw [List.length_take] at hj; omega
    rw [List.getElem_take, hb j hj']; simp
  conv => lhs; rw [e]
  rw [List.find?_append, hn, List.find?_cons_of_pos hp]; rfl
def peeR (N : Int) (E : List (Int × Int)) : List (List Int) := if checkF N E = 0 then peelF N.toNat E else []
set_option maxRecDepth 10000 in
theorem Peel_spec {a : Option Addr} {n c : Nat} {E : List (Int × Int)} (N : Int) (w : World) (hL : Sl (encF fE) 2 (Hp.whole w) a n c E) :
    CallsE Tryd.prog 25 #[gv N a n c] w (RetR w (peeR N E) (checkF N E)) := by
  refine enter (X := cx 61) (cxg _) (args := [.agg #[.int .i64 N, .slice a n c]]) [.tmp 2, .tmp 3] Tryd.func25 rfl rfl rfl rfl rfl ?_
  intro b1
  refine call (fun w' hm => Components_spec N w' (hL.mono (encF_mono _) (hm 0 _ rfl))) ?_
  rintro _ _ ⟨a', n', c', h, rfl, rfl, hC⟩
  refine bsplitd (fun h1 => ?_) (fun h1 => ?_)
  · have e : peeR N E = [] := by unfold peeR; rw [if_neg h1]
    exact ⟨[.hp Hp.emp], ⟨none, 0, 0, Hp.emp, rfl, rfl, by rw [e]; exact Sl.nil _ _ _ _ _⟩, fun w' h => (h.pick [0] rfl rfl).emp⟩
  have h0 : checkF N E = 0 := Decidable.not_not.1 h1
  obtain ⟨M, rfl, hG, _⟩ := checkF_ok h0
  have hN := hG.hN
  unfold compR at hC
  rw [if_pos h0, Int.toNat_natCast] at hC
  have hCn := hC.len
  have hCl : (compF M E).length ≤ M := by rw [comp_len]; exact reps_len M E M
  refine call (fun w' hm => hulls_spec M w' (hL.mono (encF_mono _) (hm 0 _ rfl)) hG h0) ?_
  rintro _ _ ⟨oH, rfl, rfl, hoH⟩
  have sH := OwnO.sl (f := fU) (fun _ => rfl) (by decide) hoH
  have hHl := hul_len M E
  refine NeedL.mkS (Nat × Dw.Os × List Value) (fun g => [(4, .v (.slice a' n' c')), (6, .v oH.v), (7, .v g.2.1.v), (8, .v (.int .u64 ((peelK M E g.1).2 : Nat)))])
    (fun g => [.hp (Hp.whole w), .box b1 [.int .i64 M, .slice a n c] 28, .hp h, .hp oH.h, .hp g.2.1.h])
    (fun g => g.1 ≤ n' ∧ OwnO fV 35 1 g.2.1 g.2.2 ∧ Rds h g.2.2 (peelK M E g.1).1) (fun g => n' - g.1) (0, Os.nil, []) ⟨Nat.zero_le _, OwnO.nil _ _ _, Rds.nil _⟩ (Ent.mk (fun _ _ h => h.emp) rfl rfl) ?_
  rintro ⟨i, oR, vs⟩ ⟨hi, hoR, hr⟩ hsat
  dsimp only at *
  have hI := peel_inv hG i (by omega)
  have hgl := hI.lt hG
  have hvl := hr.len
  have hol := hoR.len
  rw [hI.len] at hvl
  obtain ⟨gone, hgone⟩ : ∃ x, x = (peelK M E i).2 := ⟨_, rfl⟩
  rw [← hgone] at hgl ⊢
  refine bsplitd (fun hlt => ?_) (fun hge => ?_)
  · have hil : i < (compF M E).length := by omega
    obtain ⟨cf, hcf⟩ := peel_find hG hI hil
    rw [← hgone] at hcf
    have hnx : (peelK M E (i + 1)) = ((peelK M E i).1 ++ [cf], gone ||| ofN cf) := by rw [peelK, peelS, ← hgone, hcf]
    refine NeedL.mk Nat (fun k => [(4, .v (.slice a' n' c')), (6, .v oH.v), (7, .v oR.v), (8, .v (.int .u64 (gone : Nat))), (27, .v (.slice a' n' c')), (28, .v (.int .i64 n')), (29, .v (.int .i64 k))])
      (fun _ => [.hp (Hp.whole w), .box b1 [.int .i64 M, .slice a n c] 28, .hp h, .hp oH.h, .hp oR.h])
      (fun k => k ≤ n' ∧ ∀ j (hj : j < (compF M E).length), j < k → peelC M E gone (compF M E)[j] = false) (fun k => n' - k) 0 ⟨Nat.zero_le _, fun j _ hj => by omega⟩ (Ent.mk (fun _ _ h => h) rfl rfl) ?_
    rintro k ⟨hk, hb⟩
    refine bsplitd (fun hltk => ?_) (fun hgek => ?_)
    · have hkl : k < (compF M E).length := by omega
      have hcm := List.getElem_mem hkl
      obtain ⟨u, huM, hu0, huc, hpos⟩ := comp_pos hG hcm
      have hown := own_lt hG hcm
      have hul : u < (hulF M E).length := by omega
      have hrl : ((compF M E)[k]).length ≤ M := by
        have hk' : k < (reps M E M).length := by rw [← comp_len]; exact hkl
        have hget : (compF M E)[k] = cls M E (reps M E M)[k] := by simp [compF]
        rw [hget]; exact clsT_len M E _ M
      have hug : (hulF M E).getD u 0 = (hulF M E)[u] := by simp [List.getD, hul]
      have hu64 : (hulF M E)[u] < 18446744073709551616 := by simp only [hulF, List.getElem_map]; exact hulv_lt hN _
      have hc0 : (compF M E)[k][0] = u := by rw [← hu0]; simp [List.getD, hpos]
      have no : peelC M E gone (compF M E)[k] = false → ∀ j (hj : j < (compF M E).length), j < k + 1 → peelC M E gone (compF M E)[j] = false := fun h j hj hjk => by
        by_cases e : j = k
        · subst e; exact h
        · exact hb j hj (by omega)
      have pc : peelC M E gone (compF M E)[k] = (decide (((ofN (compF M E)[k] &&& gone : Nat) : Int) = 0) && decide ((((hulF M E)[u] &&& (18446744073709551615 - (gone ||| ofN (compF M E)[k])) : Nat) : Int) = 0)) := by
        unfold peelC; rw [hu0, Int.toNat_natCast, hug]
      refine idx (cxg _) (e := 35) rfl hC k rfl hkl (fun b o cs hcs hR hcell => ?_)
      obtain ⟨a3, n3, c3, rfl, hs3⟩ := hR
      have hn3 := hs3.len
      refine ld1 (cxg _) (i := 2) rfl (hcell 0 _ rfl) rfl ?_
      have kO := fun (w' : World) {a1 : Option Addr} {n1 c1 : Nat} (hs : Sl (encF fI) 1 (Hp.whole w') a1 n1 c1 ((compF M E)[k]'hkl)) => of_spec w' hs (fun x hx => by have := comp_rng hkl hx; omega) (by have := hs.len; omega)
      refine callV _ (fun w' hm => kO w' (hs3.mono (encF_mono _) (hm 2 _ rfl))) ?_
      refine qAndU (ofN (compF M E)[k]) gone rfl rfl hown hgl ?_
      refine bsplitd (fun p1 => ?_) (fun p1 => ?_)
      · refine idx (cxg _) (e := 3) rfl hs3 0 rfl hpos (fun b o cs hcs hR hcell => ?_)
        subst hR
        refine ld1 (cxg _) (i := 2) rfl (hcell 0 _ rfl) rfl ?_
        refine idx (cxg _) (e := 60) rfl sH u hc0 hul (fun b o cs hcs hR hcell => ?_)
        subst hR
        refine ld1 (cxg _) (i := 3) rfl (hcell 0 _ rfl) rfl ?_
        refine qOrU gone (ofN (compF M E)[k]) rfl rfl hgl hown ?_
        refine qAndNotU _ (gone ||| ofN (compF M E)[k]) rfl rfl hu64 (or_lt hgl hown) ?_
        refine bsplitd (fun p2 => ?_) (fun p2 => ?_)
        · have hhit : (compF M E).find? (peelC M E gone) = some (compF M E)[k] := find_at hkl (fun j hj => hb j (by omega) hj) (by rw [pc, decide_eq_true p1, decide_eq_true p2]; rfl)
          rw [hcf] at hhit
          cases hhit
          intro b54
          refine appO (f := fV) (cxg _) (e := 35) rfl (i := 4) rfl hoR (j := 5) (.slice a3 n3 c3) rfl rfl rfl rfl (by omega) (fun oR' hoR' => ?_)
          refine qOrU gone (ofN (compF M E)[k]) rfl rfl hgl hown ?_
          refine ⟨(i + 1, oR', vs ++ [.slice a3 n3 c3]), ⟨by dsimp only; omega, hoR', ?_⟩, by dsimp only; omega, Ent.mk (fun _ _ h => h.pick [0, 1, 2, 3, 4] rfl rfl) (by rw [hnx]; rfl) rfl⟩
          dsimp only
          rw [hnx]
          exact hr.push ⟨_, _, _, rfl, hs3⟩
        · refine nw (by omega) (by omega) ?_
          exact ⟨k + 1, ⟨by omega, no (by rw [pc, decide_eq_false p2, Bool.and_false])⟩, by omega, Ent.mk (fun _ _ h => h) rfl rfl⟩
      · refine nw (by omega) (by omega) ?_
        exact ⟨k + 1, ⟨by omega, no (by rw [pc, decide_eq_false p1, Bool.false_and])⟩, by omega, Ent.mk (fun _ _ h => h) rfl rfl⟩
    · exfalso
      have hm := List.mem_of_find?_eq_some hcf
      obtain ⟨j, hj, e⟩ := List.getElem_of_mem hm
      have := hb j hj (by omega)
      rw [e, List.find?_some hcf] at this
      cases this
  · have hin : i = (compF M E).length := by omega
    have e : peeR M E = (peelK M E i).1 := by unfold peeR; rw [if_pos h0, Int.toNat_natCast, hin]; rfl
    exact ⟨[.hp (oR.h.join h)], ⟨oR.a, oR.n, oR.c, _, by rw [h0]; rfl, rfl, by rw [e]; exact hr.sl hoR (hsat.dj 4 2 rfl rfl (by decide))⟩, fun w' hk => Ok.join (c := .hp (Hp.whole w)) (d := .hp oR.h) (e := .hp h) (s := []) (hk.pick [0, 4, 2] rfl rfl)⟩
end Go.Proofs.YtbcjdjlihhlkaaaDoor
namespace Go.Proofs.YtbcjdjlihhlkaaaDoor
open Go Go.RowKit Go.Dw
theorem sameInts_spec {a a' : Option Addr} {n c n' c' : Nat} {L L' : List Int} (w : World) (hL : Sl (encF fI) 1 (Hp.whole w) a n c L) (hL' : Sl (encF fI) 1 (Hp.whole w) a' n' c' L') (hn : n < 1000000000) :
    CallsE Tryd.prog 15 #[.slice a n c, .slice a' n' c'] w (RetV w (.bool (decide (L = L')))) := by
  have hlen := hL.len
  have hlen' := hL'.len
  refine enter (X := cx 26) (cxg _) (args := [.slice a n c, .slice a' n' c']) [.tmp 4] Tryd.func15 rfl rfl rfl rfl rfl ?_
  refine bsplitd (fun h => ?_) (fun h => ?_)
  · have : L ≠ L' := fun e => h (by rw [hlen, hlen', e])
    exact ⟨[], ⟨by rw [decide_eq_false this], rfl⟩, fun w' h => h⟩
  have hll : L.length = L'.length := by omega
  refine NeedL.mk Nat (fun k => [(0, .v (.slice a n c)), (1, .v (.slice a' n' c')), (5, .v (.int .i64 k))]) (fun _ => [.hp (Hp.whole w)])
    (fun k => k ≤ n ∧ L.take k = L'.take k) (fun k => n - k) 0 ⟨Nat.zero_le _, rfl⟩ (Ent.mk (fun _ _ h => h) rfl rfl) ?_
  rintro k ⟨hk, ht⟩
  refine bsplitd (fun hlt => ?_) (fun hge => ?_)
  · have h1 : k < L.length := by omega
    have h2 : k < L'.length := by omega
    refine NeedD.by_order (cxg _) (.take 0 <| .take 1 <| .take 2 <| .take 3 <| .take 4 <| .take 5 <| .take 6 <| .take 7 <| .take 8 <| .done) (by kernel_rfl) ?_
    refine idx (cxg _) (e := 3) rfl hL k rfl h1 (fun b o cs hcs hR hcell => ?_)
    subst hR
    refine ld1 (cxg _) (i := 0) rfl (hcell 0 _ rfl) rfl ?_
    refine idx (cxg _) (e := 3) rfl hL' k rfl h2 (fun b o cs hcs hR hcell => ?_)
    subst hR
    refine ld1 (cxg _) (i := 0) rfl (hcell 0 _ rfl) rfl ?_
    refine bsplitd (fun hne => ?_) (fun heq => ?_)
    · have : L ≠ L' := fun e => hne (by subst e; rfl)
      exact ⟨[], ⟨by rw [decide_eq_false this], rfl⟩, fun w' h => h⟩
    · refine nw (by omega) (by omega) ?_
      refine ⟨k + 1, ⟨by omega, ?_⟩, by omega, Ent.mk (fun _ _ h => h) rfl rfl⟩
      rw [List.take_succ_eq_append_getElem h1, List.take_succ_eq_append_getElem h2, ht, Decidable.not_not.1 heq]
  · rw [List.take_of_length_le (by omega), List.take_of_length_le (by omega)] at ht
    exact ⟨[], ⟨by rw [decide_eq_true ht], rfl⟩, fun w' h => h⟩
theorem sameSets_spec {a a' : Option Addr} {n c n' c' : Nat} {L L' : List (List Int)} (w : World) (hL : Sl (encS (encF fI) 1) 1 (Hp.whole w) a n c L) (hL' : Sl (encS (encF fI) 1) 1 (Hp.whole w) a' n' c' L') (hn : n < 1000000000) (hb : ∀ x ∈ L, x.length < 1000000000) :
    CallsE Tryd.prog 14 #[.slice a n c, .slice a' n' c'] w (RetV w (.bool (decide (L = L')))) := by
  have hlen := hL.len
  have hlen' := hL'.len
  refine enter (X := cx 27) (cxg _) (args := [.slice a n c, .slice a' n' c']) [.tmp 4] Tryd.func14 rfl rfl rfl rfl rfl ?_
  refine bsplitd (fun h => ?_) (fun h => ?_)
  · have : L ≠ L' := fun e => h (by rw [hlen, hlen', e])
    exact ⟨[], ⟨by rw [decide_eq_false this], rfl⟩, fun w' h => h⟩
  have hll : L.length = L'.length := by omega
  refine NeedL.mk Nat (fun k => [(0, .v (.slice a n c)), (1, .v (.slice a' n' c')), (5, .v (.int .i64 k))]) (fun _ => [.hp (Hp.whole w)])
    (fun k => k ≤ n ∧ L.take k = L'.take k) (fun k => n - k) 0 ⟨Nat.zero_le _, rfl⟩ (Ent.mk (fun _ _ h => h) rfl rfl) ?_
  rintro k ⟨hk, ht⟩
  refine bsplitd (fun hlt => ?_) (fun hge => ?_)
  · have h1 : k < L.length := by omega
    have h2 : k < L'.length := by omega
    have hkb := hb _ (List.getElem_mem h1)
    have kS := fun (w' : World) {a1 : Option Addr} {n1 c1 : Nat} {a2 : Option Addr} {n2 c2 : Nat} (hs : Sl (encF fI) 1 (Hp.whole w') a1 n1 c1 (L[k]'h1)) (hs' : Sl (encF fI) 1 (Hp.whole w') a2 n2 c2 (L'[k]'h2)) => sameInts_spec w' hs hs' (by have := hs.len; omega)
    refine NeedD.by_order (cxg _) (.take 0 <| .take 1 <| .take 2 <| .take 3 <| .take 4 <| .take 5 <| .take 6 <| .take 7 <| .run 8 <| .take 9 <| .done) (by kernel_rfl) ?_
    refine idx (cxg _) (e := 35) rfl hL k rfl h1 (fun b o cs hcs hR hcell => ?_)
    obtain ⟨a3, n3, c3, rfl, hs3⟩ := hR
    refine ld1 (cxg _) (i := 0) rfl (hcell 0 _ rfl) rfl ?_
    refine idx (cxg _) (e := 35) rfl hL' k rfl h2 (fun b o cs hcs hR hcell => ?_)
    obtain ⟨a4, n4, c4, rfl, hs4⟩ := hR
    refine ld1 (cxg _) (i := 0) rfl (hcell 0 _ rfl) rfl ?_
    refine callV _ (fun w' hm => kS w' (hs3.mono (encF_mono _) (hm 0 _ rfl)) (hs4.mono (encF_mono _) (hm 0 _ rfl))) ?_
    refine ⟨(by repeat first | exact trivial | refine ⟨.inl rfl, ?_⟩ | refine ⟨.inr rfl, ?_⟩), ?_⟩
    refine bsplit (fun hne => ?_) (fun heq => ?_)
    · have : L ≠ L' := fun e => by subst e; simp at hne
      exact ⟨[], ⟨by rw [decide_eq_false this], rfl⟩, fun w' h => h⟩
    · have heq : L[k] = L'[k] := by simpa using heq
      refine nw (by omega) (by omega) ?_
      refine ⟨k + 1, ⟨by omega, ?_⟩, by omega, Ent.mk (fun _ _ h => h) rfl rfl⟩
      rw [List.take_succ_eq_append_getElem h1, List.take_succ_eq_append_getElem h2, ht, heq]
  · rw [List.take_of_length_le (by omega), List.take_of_length_le (by omega)] at ht
    exact ⟨[], ⟨by rw [decide_eq_true ht], rfl⟩, fun w' h => h⟩
/-! ### sorted sets -/
theorem ext_lt {α : Type} {lt : α → α → Prop} (hi : ∀ a, ¬ lt a a) (htr : ∀ a b c, lt a b → lt b c → lt a c) : ∀ {A B : List α}, A.Pairwise lt → B.Pairwise lt → (∀ x, x ∈ A ↔ x ∈ B) → A = B
  | [], [], _, _, _ => rfl
  | [], y :: B, _, _, h => by have := (h y).2 (by simp); simp at this
  | x :: A, [], _, _, h => by have := (h x).1 (by simp); simp at this
  | x :: A, y :: B, hA, hB, h => by
    obtain ⟨a1, a2⟩ := List.pairwise_cons.1 hA
    obtain ⟨b1, b2⟩ := List.pairwise_cons.1 hB
    have hxy : x = y := by
      rcases List.mem_cons.1 ((h x).1 (by simp)) with e | hx
      · exact e
      · rcases List.mem_cons.1 ((h y).2 (by simp)) with e | hy
        · exact e.symm
        · exact absurd (htr _ _ _ (a1 y hy) (b1 x hx)) (hi x)
    subst hxy
    congr 1
    refine ext_lt hi htr a2 b2 fun z => ?_
    constructor
    · intro hz
      rcases List.mem_cons.1 ((h z).1 (by simp [hz])) with e | h'
      · subst e; exact absurd (a1 z hz) (hi z)
      · exact h'
    · intro hz
      rcases List.mem_cons.1 ((h z).2 (by simp [hz])) with e | h'
      · subst e; exact absurd (b1 z hz) (hi z)
      · exact h'
def ltS (x y : S128) : Prop := ltOf cfS x y = true
theorem srt_pw {D : List S128} (hn : D.Nodup) : (Go.Proofs.YtbcjdjlihhlkaaaDoor.srtL D).Pairwise ltS := by
  have h1 : (Go.Proofs.YtbcjdjlihhlkaaaDoor.srtL D).Pairwise fun x y => (!(ltOf cfS) y x) = true := List.pairwise_mergeSort (fun a b c h1 h2 => by
    simp only [Bool.not_eq_true'] at *
    exact swoS.ntrans c b a h2 h1) (fun a b => by
    cases h : ltOf cfS b a with
    | false => rfl
    | true =>
      cases h2 : ltOf cfS a b with
      | false => rfl
      | true => have := swoS.trans _ _ _ h h2; rw [swoS.irrefl] at this; cases this) D
  have h2 : (Go.Proofs.YtbcjdjlihhlkaaaDoor.srtL D).Nodup := (List.mergeSort_perm D _).nodup_iff.2 hn
  refine (h1.and h2).imp fun {x y} h => ?_
  unfold ltS
  cases hlt : ltOf cfS x y with
  | true => rfl
  | false => exact absurd (totS x y hlt (by simpa using h.1)) h.2
/-- a sorted list of just the sets of L is the sorted L -/
theorem srtS_eq {L : List Nat} (h : ∀ t ∈ L, t < 128) (hn : L.Nodup) {R : List Nat} (hm : ∀ t, t ∈ R ↔ t ∈ L) (hp : R.Pairwise fun a b => cmpS a b < 0) : srtS L h = R := by
  have hR : ∀ t ∈ R, t < 128 := fun t ht => h t ((hm t).1 ht)
  have hDn : (toS L h).Nodup := by
    refine List.Pairwise.of_map (S := fun a b : Nat => a ≠ b) (f := fun x : S128 => x.1) (fun a b hab e => hab (congrArg _ e)) ?_
    rw [toS_val]; exact hn
  have e : Go.Proofs.YtbcjdjlihhlkaaaDoor.srtL (toS L h) = toS R hR := by
    refine ext_lt (lt := ltS) (fun a ha => by unfold ltS at ha; rw [swoS.irrefl] at ha; cases ha) (fun a b c h1 h2 => swoS.trans a b c h1 h2) (srt_pw hDn) ?_ fun x => ?_
    · refine List.Pairwise.of_map (S := fun a b : Nat => cmpS a b < 0) (f := fun x : S128 => x.1) (fun a b hab => by unfold ltS ltOf cfS; exact decide_eq_true hab) ?_
      rw [toS_val]; exact hp
    · have m1 : x ∈ Go.Proofs.YtbcjdjlihhlkaaaDoor.srtL (toS L h) ↔ x ∈ toS L h := (List.mergeSort_perm (toS L h) _).mem_iff
      have mv : ∀ {L : List Nat} (h : ∀ t ∈ L, t < 128), x ∈ toS L h ↔ x.1 ∈ L := fun {L} h => by
        unfold toS
        simp only [List.mem_pmap]
        constructor
        · rintro ⟨a, ha, rfl⟩; exact ha
        · intro hx; exact ⟨x.1, hx, rfl⟩
      rw [m1, mv h, mv hR]
      exact (hm x.1).symm
  unfold srtS
  rw [e, toS_val]
end Go.Proofs.YtbcjdjlihhlkaaaDoor
namespace Go.Proofs.YtbcjdjlihhlkaaaDoor
open Go Go.RowKit Go.Dw
theorem Sl.boxR2 {b T : Nat} {cs : List Value} {w : World} (hh : (Ch.box b cs T).h.In w) {LL : List (List Int)} (hr : Rds (Hp.whole w) cs LL) {n : Nat} (hn : n = cs.length) : Sl (encS (encF fI) 1) 1 (Hp.whole w) (some ⟨b, 0, none⟩) n n LL :=
  Sl.boxG (R := encF fI) (sz := 1) hh hr.len (fun i v L h1 h2 => hr.get i v L h1 h2) hn
theorem Rds.box {H : World} {vs : List Value} {LL : List (List Int)} (h : Rds (Hp.whole H) vs LL) {b T : Nat} {cs : List Value} (hb : (Ch.box b cs T).h.In H) (L : List Int) (hc : cs = L.flatMap fI) {n : Nat} (hn : n = L.length) (hl : L.length < 1000000) :
    Rds (Hp.whole H) (vs ++ [.slice (some ⟨b, 0, none⟩) n n]) (LL ++ [L]) :=
  h.push ⟨_, _, _, rfl, Sl.box (f := fI) (fun _ => rfl) (by decide) hb L hc hn hl⟩
def exR : List (Int × Int) := [(0, 1), (1, 0), (2, 3)]
theorem exR_check : checkF 4 exR = 0 := by decide
theorem exR_hul : hulF 4 exR = [3, 3, 12, 8] := by kernel_rfl
theorem exR_all : allN 4 = 15 := by kernel_rfl
theorem exR_bfs : bfsF (alwF 15 0 (-1)) [3, 3, 12, 8] = [3, 12, 8, 11] := by kernel_rfl
theorem exR_cnt : cntF 4 exR = 6 := by
  unfold cntF
  have : (bfsF (fun _ => true) [3, 3, 12, 8]).length = 5 := by kernel_rfl
  rw [if_pos exR_check, show (4 : Int).toNat = 4 from rfl, exR_hul, this]
  rfl
theorem exR_can : canR 4 exR 0 (-1) = [[3], [0, 1], [2, 3], [0, 1, 3]] := by
  unfold canR
  rw [if_pos (by decide), show (4 : Int).toNat = 4 from rfl]
  have : canL 4 exR 0 (-1) = [8, 3, 12, 11] := by
    unfold canL
    rw [dif_pos (by decide)]
    have hb : bfsF (alwF (allN 4) 0 (-1)) (hulF 4 exR) = [3, 12, 8, 11] := by rw [exR_hul, exR_all]; exact exR_bfs
    refine srtS_eq _ (by rw [hb]; decide) (fun t => by rw [hb]; simp only [List.mem_cons, List.not_mem_nil, or_false]; omega) (by decide +kernel)
  rw [this]
  rfl
theorem exR_min : minR 4 exR = [[0, 1], [3]] := by
  have hs : sinkF 4 exR = [[0, 1], [3]] := by
    unfold sinkF sinkK isSink condR
    simp only [makeR_rmkR]
    kernel_rfl
  unfold minR
  rw [if_pos exR_check, show (4 : Int).toNat = 4 from rfl, hs]
  rfl
theorem exR_pee : peeR 4 exR = [[0, 1], [3], [2]] := by
  unfold peeR
  rw [if_pos exR_check, show (4 : Int).toNat = 4 from rfl]
  kernel_rfl
theorem exR_hel : helF 4 exR 1 3 = true := by kernel_rfl
theorem exR_rea : reaR 4 exR [2] = [2, 3] := by kernel_rfl
theorem exR_res0 : resE 4 exR 0 (-1) = 0 := by decide
theorem exR_res1 : resE 4 exR 1 3 = 0 := by decide
theorem exR_rdy : readyF 4 exR [2] = 0 := by decide
set_option maxRecDepth 10000 in
theorem known24_aux (w : World) (hT : Tab (Hp.whole w)) {e cnt : Int} {hb : Bool} {L1 L2 L4 : List (List Int)} {L6 : List Int} (he : e = 0) (hc : cnt = 6) (hh : hb = true) (e1 : L1 = [[3], [0, 1], [2, 3], [0, 1, 3]]) (e2 : L2 = [[0, 1], [3]]) (e4 : L4 = [[0, 1], [3], [2]]) (e6 : L6 = [2, 3])
    (k1 : ∀ {a : Option Addr} {n c : Nat} (w : World), Sl (encF fE) 2 (Hp.whole w) a n c exR → Tab (Hp.whole w) → CallsE Tryd.prog 12 #[gv 4 a n c, .int .i64 0, .int .i64 (-1)] w (RetR w L1 e))
    (k2 : ∀ {a : Option Addr} {n c : Nat} (w : World), Sl (encF fE) 2 (Hp.whole w) a n c exR → CallsE Tryd.prog 19 #[gv 4 a n c] w (RetR w L2 e))
    (k3 : ∀ {a : Option Addr} {n c : Nat} (w : World), Sl (encF fE) 2 (Hp.whole w) a n c exR → CallsE Tryd.prog 20 #[gv 4 a n c] w (RetV w (.tuple #[.int .i64 cnt, .int .i64 e])))
    (k4 : ∀ {a : Option Addr} {n c : Nat} (w : World), Sl (encF fE) 2 (Hp.whole w) a n c exR → CallsE Tryd.prog 25 #[gv 4 a n c] w (RetR w L4 e))
    (k5 : ∀ {a : Option Addr} {n c : Nat} (w : World), Sl (encF fE) 2 (Hp.whole w) a n c exR → Tab (Hp.whole w) → CallsE Tryd.prog 24 #[gv 4 a n c, .int .i64 1, .int .i64 3] w (RetV w (.tuple #[.bool hb, .int .i64 e])))
    (k6 : ∀ {a a1 : Option Addr} {n c n1 c1 : Nat} (w : World), Sl (encF fE) 2 (Hp.whole w) a n c exR → Sl (encF fI) 1 (Hp.whole w) a1 n1 c1 [2] → CallsE Tryd.prog 21 #[gv 4 a n c, .slice a1 n1 c1] w (RetI w L6 e)) :
    CallsE Tryd.prog 9 #[] w (RetV w (.bool true)) := by
  have sE : ∀ {b : Nat} {w' : World}, (Ch.box b [.int .i64 0, .int .i64 1, .int .i64 1, .int .i64 0, .int .i64 2, .int .i64 3] 58).h.In w' → Sl (encF fE) 2 (Hp.whole w') (some ⟨b, 0, none⟩) 3 3 exR := fun h => Sl.box (f := fE) (fun _ => rfl) (by decide) h exR rfl rfl (by decide)
  refine enter (X := cx 108) (cxg _) (args := []) [.tmp 0] Tryd.func9 rfl rfl rfl rfl rfl ?_
  intro b17 b1
  refine hideQ (fun _ h => h _ _ ?_)
  refine normS [.hp (Hp.whole w), .box b17 [.int .i64 0, .int .i64 1, .int .i64 1, .int .i64 0, .int .i64 2, .int .i64 3] 58, .box b1 [.int .i64 4, .slice (some ⟨b17, 0, none⟩) 3 3] 28] rfl ?_
  refine call (fun w' hm => k1 w' (sE (hm 1 _ rfl)) (hT.mono (hm 0 _ rfl))) ?_
  rintro _ _ ⟨a1, n1, c1, h1, rfl, rfl, s1⟩
  have l1 := s1.len
  refine hideQ (fun _ h => h _ _ ?_)
  refine normS [.hp (Hp.whole w), .box b17 [.int .i64 0, .int .i64 1, .int .i64 1, .int .i64 0, .int .i64 2, .int .i64 3] 58, .box b1 [.int .i64 4, .slice (some ⟨b17, 0, none⟩) 3 3] 28, .hp h1] rfl ?_
  refine call (fun w' hm => k2 w' (sE (hm 1 _ rfl))) ?_
  rintro _ _ ⟨a2, n2, c2, h2, rfl, rfl, s2⟩
  have l2 := s2.len
  refine hideQ (fun _ h => h _ _ ?_)
  refine normS [.hp (Hp.whole w), .box b17 [.int .i64 0, .int .i64 1, .int .i64 1, .int .i64 0, .int .i64 2, .int .i64 3] 58, .box b1 [.int .i64 4, .slice (some ⟨b17, 0, none⟩) 3 3] 28, .hp h1, .hp h2] rfl ?_
  refine callV _ (fun w' hm => k3 w' (sE (hm 1 _ rfl))) ?_
  refine hideQ (fun _ h => h _ _ ?_)
  refine normS [.hp (Hp.whole w), .box b17 [.int .i64 0, .int .i64 1, .int .i64 1, .int .i64 0, .int .i64 2, .int .i64 3] 58, .box b1 [.int .i64 4, .slice (some ⟨b17, 0, none⟩) 3 3] 28, .hp h1, .hp h2] rfl ?_
  refine call (fun w' hm => k4 w' (sE (hm 1 _ rfl))) ?_
  rintro _ _ ⟨a4, n4, c4, h4, rfl, rfl, s4⟩
  have l4 := s4.len
  refine hideQ (fun _ h => h _ _ ?_)
  refine normS [.hp (Hp.whole w), .box b17 [.int .i64 0, .int .i64 1, .int .i64 1, .int .i64 0, .int .i64 2, .int .i64 3] 58, .box b1 [.int .i64 4, .slice (some ⟨b17, 0, none⟩) 3 3] 28, .hp h1, .hp h2, .hp h4] rfl ?_
  refine callV _ (fun w' hm => k5 w' (sE (hm 1 _ rfl)) (hT.mono (hm 0 _ rfl))) ?_
  refine hideQ (fun _ h => h _ _ ?_)
  refine normS [.hp (Hp.whole w), .box b17 [.int .i64 0, .int .i64 1, .int .i64 1, .int .i64 0, .int .i64 2, .int .i64 3] 58, .box b1 [.int .i64 4, .slice (some ⟨b17, 0, none⟩) 3 3] 28, .hp h1, .hp h2, .hp h4] rfl ?_
  intro b46
  refine call (fun w' hm => k6 w' (sE (hm 1 _ rfl)) (Sl.box (f := fI) (fun _ => rfl) (by decide) (hm 6 _ rfl) [2] rfl rfl (by decide))) ?_
  rintro _ _ ⟨o6, rfl, rfl, ho6⟩
  have s6 := OwnO.sl (f := fI) (fun _ => rfl) (by decide) ho6
  have l6 := s6.len
  refine hideQ (fun _ h => h _ _ ?_)
  refine hideQ (fun q' hq' => ?_)
  refine normS [.hp (Hp.whole w), .box b17 [.int .i64 0, .int .i64 1, .int .i64 1, .int .i64 0, .int .i64 2, .int .i64 3] 58, .box b1 [.int .i64 4, .slice (some ⟨b17, 0, none⟩) 3 3] 28, .hp h1, .hp h2, .hp h4, .box b46 [.int .i64 2] 3, .hp o6.h] rfl ?_
  refine hideK 3 (fun q1 k1 => ?_)
  refine k1 _ _ ?_
  refine hideK 9 (fun q1 k1 => ?_)
  refine dtrue he ?_
  intro b54 b55 b56 b57 b58
  refine callV _ (fun w' hm => sameSets_spec w' (s1.mono (encS_mono (encF_mono _) _) (hm 3 _ rfl)) (Sl.boxR2 (hm 12 _ rfl) ((((((Rds.nil _).box (hm 8 _ rfl) [3] rfl rfl (by decide)).box (hm 9 _ rfl) [0, 1] rfl rfl (by decide)).box (hm 10 _ rfl) [2, 3] rfl rfl (by decide)).box (hm 11 _ rfl) [0, 1, 3] rfl rfl (by decide))) rfl) (by rw [e1] at l1; simp at l1; omega) (by rw [e1]; decide)) ?_
  refine k1 _ _ ?_
  refine normS [.hp (Hp.whole w), .box b17 [.int .i64 0, .int .i64 1, .int .i64 1, .int .i64 0, .int .i64 2, .int .i64 3] 58, .box b1 [.int .i64 4, .slice (some ⟨b17, 0, none⟩) 3 3] 28, .hp h1, .hp h2, .hp h4, .box b46 [.int .i64 2] 3, .hp o6.h, .box b54 [.int .i64 3] 3, .box b55 [.int .i64 0, .int .i64 1] 3, .box b56 [.int .i64 2, .int .i64 3] 3, .box b57 [.int .i64 0, .int .i64 1, .int .i64 3] 3, .box b58 [.slice (some ⟨b54, 0, none⟩) 1 1, .slice (some ⟨b55, 0, none⟩) 2 2, .slice (some ⟨b56, 0, none⟩) 2 2, .slice (some ⟨b57, 0, none⟩) 3 3] 35] rfl ?_
  refine hideK 4 (fun q1 k1 => ?_)
  refine dtrue e1 ?_
  refine k1 _ _ ?_
  refine hideK 7 (fun q1 k1 => ?_)
  refine dtrue he ?_
  intro b67 b68 b69
  refine callV _ (fun w' hm => sameSets_spec w' (s2.mono (encS_mono (encF_mono _) _) (hm 4 _ rfl)) (Sl.boxR2 (hm 15 _ rfl) ((((Rds.nil _).box (hm 13 _ rfl) [0, 1] rfl rfl (by decide)).box (hm 14 _ rfl) [3] rfl rfl (by decide))) rfl) (by rw [e2] at l2; simp at l2; omega) (by rw [e2]; decide)) ?_
  refine k1 _ _ ?_
  refine normS [.hp (Hp.whole w), .box b17 [.int .i64 0, .int .i64 1, .int .i64 1, .int .i64 0, .int .i64 2, .int .i64 3] 58, .box b1 [.int .i64 4, .slice (some ⟨b17, 0, none⟩) 3 3] 28, .hp h1, .hp h2, .hp h4, .box b46 [.int .i64 2] 3, .hp o6.h, .box b54 [.int .i64 3] 3, .box b55 [.int .i64 0, .int .i64 1] 3, .box b56 [.int .i64 2, .int .i64 3] 3, .box b57 [.int .i64 0, .int .i64 1, .int .i64 3] 3, .box b58 [.slice (some ⟨b54, 0, none⟩) 1 1, .slice (some ⟨b55, 0, none⟩) 2 2, .slice (some ⟨b56, 0, none⟩) 2 2, .slice (some ⟨b57, 0, none⟩) 3 3] 35, .box b67 [.int .i64 0, .int .i64 1] 3, .box b68 [.int .i64 3] 3, .box b69 [.slice (some ⟨b67, 0, none⟩) 2 2, .slice (some ⟨b68, 0, none⟩) 1 1] 35] rfl ?_
  refine hideK 4 (fun q1 k1 => ?_)
  refine dtrue e2 ?_
  refine k1 _ _ ?_
  refine hideK 4 (fun q1 k1 => ?_)
  refine dtrue he ?_
  refine k1 _ _ ?_
  refine hideK 4 (fun q1 k1 => ?_)
  refine dtrue hc ?_
  refine k1 _ _ ?_
  refine hideK 8 (fun q1 k1 => ?_)
  refine dtrue he ?_
  intro b86 b87 b88 b89
  refine callV _ (fun w' hm => sameSets_spec w' (s4.mono (encS_mono (encF_mono _) _) (hm 5 _ rfl)) (Sl.boxR2 (hm 19 _ rfl) (((((Rds.nil _).box (hm 16 _ rfl) [0, 1] rfl rfl (by decide)).box (hm 17 _ rfl) [3] rfl rfl (by decide)).box (hm 18 _ rfl) [2] rfl rfl (by decide))) rfl) (by rw [e4] at l4; simp at l4; omega) (by rw [e4]; decide)) ?_
  refine k1 _ _ ?_
  refine normS [.hp (Hp.whole w), .box b17 [.int .i64 0, .int .i64 1, .int .i64 1, .int .i64 0, .int .i64 2, .int .i64 3] 58, .box b1 [.int .i64 4, .slice (some ⟨b17, 0, none⟩) 3 3] 28, .hp h1, .hp h2, .hp h4, .box b46 [.int .i64 2] 3, .hp o6.h, .box b54 [.int .i64 3] 3, .box b55 [.int .i64 0, .int .i64 1] 3, .box b56 [.int .i64 2, .int .i64 3] 3, .box b57 [.int .i64 0, .int .i64 1, .int .i64 3] 3, .box b58 [.slice (some ⟨b54, 0, none⟩) 1 1, .slice (some ⟨b55, 0, none⟩) 2 2, .slice (some ⟨b56, 0, none⟩) 2 2, .slice (some ⟨b57, 0, none⟩) 3 3] 35, .box b67 [.int .i64 0, .int .i64 1] 3, .box b68 [.int .i64 3] 3, .box b69 [.slice (some ⟨b67, 0, none⟩) 2 2, .slice (some ⟨b68, 0, none⟩) 1 1] 35, .box b86 [.int .i64 0, .int .i64 1] 3, .box b87 [.int .i64 3] 3, .box b88 [.int .i64 2] 3, .box b89 [.slice (some ⟨b86, 0, none⟩) 2 2, .slice (some ⟨b87, 0, none⟩) 1 1, .slice (some ⟨b88, 0, none⟩) 1 1] 35] rfl ?_
  refine hideK 4 (fun q1 k1 => ?_)
  refine dtrue e4 ?_
  refine k1 _ _ ?_
  refine hideK 3 (fun q1 k1 => ?_)
  refine dtrue he ?_
  refine k1 _ _ ?_
  refine hideK 4 (fun q1 k1 => ?_)
  refine btrue hh ?_
  refine k1 _ _ ?_
  refine hideK 5 (fun q1 k1 => ?_)
  refine dtrue he ?_
  intro b105
  refine callV _ (fun w' hm => sameInts_spec w' (s6.mono (encF_mono _) (hm 7 _ rfl)) (Sl.box (f := fI) (fun _ => rfl) (by decide) (hm 20 _ rfl) [2, 3] rfl rfl (by decide)) (by rw [e6] at l6; simp at l6; omega)) ?_
  refine k1 _ _ ?_
  refine hq' _ _ ?_
  exact ⟨[], ⟨by rw [decide_eq_true e6], rfl⟩, fun w' h => h.pick [0] rfl rfl⟩
theorem known24_spec (w : World) (hT : Tab (Hp.whole w)) : CallsE Tryd.prog 9 #[] w (RetV w (.bool true)) :=
  known24_aux w hT rfl rfl rfl rfl rfl rfl rfl
    (fun w h hT => by have := Candidates_spec 4 0 (-1) w h (fun _ => by decide) hT; rw [exR_can, exR_res0] at this; exact this)
    (fun w h => by have := Minimal_spec 4 w h; rw [exR_min, exR_check] at this; exact this)
    (fun w h => by have := Count_spec 4 w h (fun _ => by decide); rw [exR_cnt, exR_check] at this; exact this)
    (fun w h => by have := Peel_spec 4 w h; rw [exR_pee, exR_check] at this; exact this)
    (fun w h hT => by have := Held_spec 4 1 3 w h hT; rw [exR_hel, exR_res1] at this; exact this)
    (fun w h h2 => by have := Hull_spec 4 w h h2 (by decide); rw [exR_rea, exR_rdy] at this; exact this)
end Go.Proofs.YtbcjdjlihhlkaaaDoor
