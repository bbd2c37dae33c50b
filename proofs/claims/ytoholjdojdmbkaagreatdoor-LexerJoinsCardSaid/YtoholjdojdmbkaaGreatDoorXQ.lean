/- Parts of one proof, joined: Km, Ko, Kp, Kq, Kr. No condition of its own. -/
import Derived.Test.YtoholjdojdmbkaaGreatDoorXL
import Derived.Test.YtoholjdojdmbkaaGreatDoorYI6
import Derived.Laws.BytesArg
import Derived.Test.YtoholjdojdmbkaaGreatDoorXH
import Derived.Test.YtoholjdojdmbkaaGreatDoorYIy
import Derived.Test.YtoholjdojdmbkaaGreatDoorXI
import Derived.Test.YtoholjdojdmbkaaGreatDoorYIz
import Derived.Test.YtoholjdojdmbkaaGreatDoorYJt
namespace Go.Proofs.YtoholjdojdmbkaaGreatDoor
open Go Go.RowKit Go.Dw
def fU8 (x : UInt8) : List Value := [.int .u8 x.toNat]
theorem flat_u8 : ∀ L : List UInt8, L.flatMap fU8 = L.map fun x => Value.int .u8 x.toNat
  | [] => rfl
  | x :: L => by rw [List.flatMap_cons, List.map_cons, flat_u8 L]; rfl
theorem flat_get (L : List UInt8) {j : Nat} (h : j < L.length) : (L.flatMap fU8)[j]? = some (.int .u8 L[j].toNat) := by
  rw [flat_u8, List.getElem?_map, List.getElem?_eq_getElem h]; rfl
theorem qStrO {s : List Ch} {i : Nat} {o : Dw.Os} (hi : sget s i = some (.hp o.h)) {L : List UInt8} (ho : OwnO fU8 5 1 o L) (h0 : 0 < L.length) {q : TV → Prop} (h : q (.v (.string (bs L)))) : NeedQ Tryz.prog s (convert 23 9 o.v) q := by
  refine ⟨_, fun w hm => ?_, h⟩
  have hlen := OwnO.len ho
  obtain ⟨b, hb⟩ := ho.addr h0
  obtain ⟨a, n, c, hh⟩ := o
  dsimp only at hb hlen hi
  subst hb
  show (convert 23 9 (.slice (some ⟨b, 0, none⟩) n c)).run Tryz.prog w = _
  rw [run_convert_bytes_arg w 23 5 Tryz.underlying23 Tryz.underlying5 b 0 n c (L.map fun x => (x.toNat : Int)) (by rw [List.length_map, ← hlen]) (fun j hj => ?_) 9 Tryz.underlying9]
  · congr 2
    unfold strOfNums bs
    congr 2
    rw [List.map_map]
    conv => rhs; rw [← List.map_id L]
    exact List.map_congr_left fun x _ => UInt8.toNat_inj.1 (by simp)
  · have hj' : j < L.length := by omega
    obtain ⟨b', arr, e1, _, _, h4⟩ := Own.cell ho.2 (flat_get L hj')
    cases e1
    have := (hm i _ hi).whole.cell h4
    rw [Nat.zero_add]
    have e : (L.map fun x => (x.toNat : Int)).getD j 0 = (L[j].toNat : Int) := by
      rw [List.getD_eq_getElem?_getD, List.getElem?_map, List.getElem?_eq_getElem hj']; rfl
    rw [e]
    exact this
set_option maxHeartbeats 1000000 in
theorem fill_spec (c : UInt8) (n : Nat) (hn : n < 100000) (h0 : 0 < n) (w : World) : CallsE Tryz.prog 13 #[.int .u8 c.toNat, .int .i64 n] w (RetV w (.string (bs (List.replicate n c)))) := by
  refine enter (X := cx 20) (cxg _) (args := [.int .u8 c.toNat, .int .i64 n]) [.tmp 4] Tryz.func13 rfl rfl rfl rfl rfl ?_
  refine mkO (f := fU8) (cxg _) (e := 5) rfl n 0 rfl (by omega) (by omega) rfl (by omega) fun o8 ho8n ho8 => ?_
  refine NeedL.mk (Nat × Dw.Os) (fun g => [(0, .v (.int .u8 c.toNat)), (1, .v (.int .i64 n)), (5, .v g.2.v), (6, .v (.int .i64 g.1))]) (fun g => [.hp (Hp.whole w), .hp g.2.h])
    (fun g => g.1 ≤ n ∧ OwnO fU8 5 1 g.2 (List.replicate g.1 c ++ List.replicate (n - g.1) 0)) (fun g => n - g.1) (0, o8) ⟨Nat.zero_le _, ho8⟩ (Ent.mk (fun _ _ h => h) rfl rfl) ?_
  rintro ⟨k, o⟩ ⟨hk, hO⟩
  dsimp only at *
  refine bsplitd (fun h1 => ?_) (fun h1 => ?_)
  · have hk1 : k < n := by omega
    have hkl : k < (List.replicate k c ++ List.replicate (n - k) 0).length := by rw [List.length_append, List.length_replicate, List.length_replicate]; omega
    obtain ⟨b, hb⟩ := hO.addr (by omega)
    refine oidx1 (f := fU8) (cxg _) (e := 5) rfl rfl hO k rfl hkl (fun b9 hb9 => ?_)
    refine osto (g := fun x : UInt8 => .int .u8 x.toNat) (fun _ => rfl) (cxg _) (i := 1) rfl hb9 hO hkl rfl rfl c rfl rfl rfl fun o2 f1 f2 f3 ho2 => ?_
    have hv : o2.v = o.v := by unfold Dw.Os.v; rw [f1, f2, f3]
    refine nw (by omega) (by omega) ?_
    exact ⟨(k + 1, o2), ⟨hk1, by
      dsimp only
      have : (List.replicate k c ++ List.replicate (n - k) 0).set k c = List.replicate (k + 1) c ++ List.replicate (n - (k + 1)) 0 := by
        rw [List.set_append_right _ _ (by simp), List.length_replicate, Nat.sub_self]
        obtain ⟨m, hm⟩ : ∃ m, n - k = m + 1 := ⟨n - k - 1, by omega⟩
        rw [hm, List.replicate_succ, List.set_cons_zero, show n - (k + 1) = m by omega, List.replicate_succ', List.append_assoc]; rfl
      rw [← this]; exact ho2⟩, by dsimp only; omega, Ent.mk (fun _ _ h => h) (by dsimp only; rw [hv]; rfl) (by dsimp only; rw [hv]; rfl)⟩
  · have hk2 : k = n := by omega
    subst hk2
    rw [Nat.sub_self, List.replicate_zero, List.append_nil] at hO
    refine qStrO (i := 1) rfl hO (by rw [List.length_replicate]; exact h0) ?_
    exact ⟨[], ⟨rfl, rfl⟩, fun w' h => h.pick [0] rfl rfl⟩
end Go.Proofs.YtoholjdojdmbkaaGreatDoor
namespace Go.Proofs.YtoholjdojdmbkaaGreatDoor
open Go Go.RowKit Go.Dw
/-- the library's table of powers, in a heaplet -/
def TabP (h : Hp) : Prop := ∃ o, h 4 = some o ∧ ∀ w : World, w.heap[4]? = some o → Lib.TabIs Tryz.prog w "internal/strconv.uint64pow10" .u64 Lib.pow10Tab
theorem TabP.mono {h k : Hp} (ht : TabP h) (l : h.le k) : TabP k := by
  obtain ⟨o, h1, h2⟩ := ht
  exact ⟨o, l _ _ h1, h2⟩
theorem TabP.at {w : World} (ht : TabP (Hp.whole w)) : Lib.TabIs Tryz.prog w "internal/strconv.uint64pow10" .u64 Lib.pow10Tab := by
  obtain ⟨o, h1, h2⟩ := ht
  exact h2 w h1
theorem TabP.of {w : World} (h : Lib.TabIs Tryz.prog w "internal/strconv.uint64pow10" .u64 Lib.pow10Tab) : TabP (Hp.whole w) := by
  have hg : Tryz.prog.globalNamed "internal/strconv.uint64pow10" = some 4 := by kernel_rfl
  unfold Lib.TabIs World.var? at h
  rw [hg] at h
  simp only [Option.bind_some] at h
  cases ho : w.heap[4]? with
  | none => rw [ho] at h; cases h
  | some o =>
    refine ⟨o, ho, fun w' hw => ?_⟩
    unfold Lib.TabIs World.var?
    rw [hg, Option.bind_some, hw]
    rw [ho] at h
    exact h
theorem itoa_spec (n : Nat) (hn : n ≤ 9223372036854775807) (w : World) (hP : TabP (Hp.whole w)) : CallsE Tryz.prog 54 #[.int .i64 n] w (RetV w (.string (bs (Lib.decDigits n)))) := by
  have hcon := Any.strconv_Itoa Tryz.lIt (n : Int) (by omega) (by omega) w hP.at
  change Calls Tryz.prog 54 _ _ _ at hcon
  refine ⟨enters_of (args := #[.int .i64 n]) Tryz.func54 (by kernel_rfl) rfl, hcon.mono ?_⟩
  rintro e w' ⟨rfl, k, os, rfl⟩
  have e1 : (⟨(Lib.itoa (n : Int)).toArray⟩ : ByteArray) = bs (Lib.decDigits n) := by rw [Lib.itoa_nonneg]; rfl
  rw [e1]
  refine RetV.ofBelow rfl ⟨rfl, rfl, rfl, ?_, fun j hj => ?_⟩
  · show w.heap.size ≤ (w.heap ++ os).size
    rw [Array.size_append]; omega
  · exact Sort.heap_grow_old (w.drewN k) os hj
/-! ### the digits -/
theorem dec_last {u : Nat} (h : ¬ u < 10) : Lib.decDigits u = Lib.decDigits (u / 10) ++ [UInt8.ofNat (48 + u % 10)] := by rw [Lib.decDigits, dif_neg h]
theorem dig_of {d : Nat} (h : d < 10) : isDig (UInt8.ofNat (48 + d)) = true ∧ (UInt8.ofNat (48 + d)).toNat - 48 = d := by
  have e : (UInt8.ofNat (48 + d)).toNat = 48 + d := by
    rw [UInt8.toNat_ofNat']; omega
  unfold isDig
  rw [e, Bool.and_eq_true, decide_eq_true_eq, decide_eq_true_eq]
  omega
theorem dec_all : ∀ u : Nat, (Lib.decDigits u).all isDig = true ∧ dgV (Lib.decDigits u) = u ∧ 0 < (Lib.decDigits u).length ∧ (0 < u → (Lib.decDigits u).getD 0 0 ≠ 48) ∧ ∀ k, 0 < k → u < 10 ^ k → (Lib.decDigits u).length ≤ k := by
  intro u
  induction u using Nat.strongRecOn with
  | _ u ih =>
    by_cases h : u < 10
    · rw [Lib.decDigits_one h]
      obtain ⟨h1, h2⟩ := dig_of h
      refine ⟨by rw [List.all_cons, h1]; rfl, ?_, by simp, fun h0 e => ?_, fun k hk _ => by simp; omega⟩
      · show decV [(UInt8.ofNat (48 + u)).toNat - 48] = u
        rw [h2]; show 10 * 0 + u = u; omega
      · have e : UInt8.ofNat (48 + u) = 48 := e
        rw [e] at h2
        have : (48 : UInt8).toNat - 48 = 0 := rfl
        omega
    · obtain ⟨i1, i2, i3, i4, i5⟩ := ih (u / 10) (by omega)
      obtain ⟨h1, h2⟩ := dig_of (show u % 10 < 10 by omega)
      rw [dec_last h]
      refine ⟨by rw [List.all_append, i1, List.all_cons, h1]; rfl, ?_, by simp, fun _ => ?_, fun k hk hu => ?_⟩
      · rw [dgV_append, i2]
        have : dgV [UInt8.ofNat (48 + u % 10)] = u % 10 := by
          show decV [(UInt8.ofNat (48 + u % 10)).toNat - 48] = _
          rw [h2]; show 10 * 0 + u % 10 = _; omega
        rw [this]; simp; omega
      · have := i4 (by omega)
        cases hd : Lib.decDigits (u / 10) with
        | nil => rw [hd] at i3; cases i3
        | cons c r => rw [hd] at this; exact this
      · obtain ⟨m, rfl⟩ : ∃ m, k = m + 1 := ⟨k - 1, by omega⟩
        rw [List.length_append, List.length_singleton]
        rcases Nat.eq_zero_or_pos m with hm | hm
        · subst hm; simp at hu; omega
        · have := i5 m hm (by rw [Nat.pow_succ] at hu; omega)
          omega
end Go.Proofs.YtoholjdojdmbkaaGreatDoor
namespace Go.Proofs.YtoholjdojdmbkaaGreatDoor
open Go Go.RowKit Go.Dw
def revS (L : List Byts) (i : Nat) : List Byts := (List.range L.length).map fun p => if p < i ∨ L.length ≤ p + i then L.getD (L.length - 1 - p) [] else L.getD p []
theorem revS_len (L : List Byts) (i : Nat) : (revS L i).length = L.length := by unfold revS; simp
theorem revS_get {L : List Byts} {i p : Nat} (h : p < (revS L i).length) : (revS L i)[p] = if p < i ∨ L.length ≤ p + i then L.getD (L.length - 1 - p) [] else L.getD p [] := by
  have hp : p < L.length := by rw [revS_len] at h; exact h
  have : (revS L i)[p]? = some (if p < i ∨ L.length ≤ p + i then L.getD (L.length - 1 - p) [] else L.getD p []) := by unfold revS; rw [List.getElem?_map, List.getElem?_range hp]; rfl
  rw [List.getElem?_eq_getElem h] at this
  exact Option.some.inj this
theorem revS_zero (L : List Byts) : revS L 0 = L := by
  apply List.ext_getElem (revS_len _ _)
  intro p h1 h2
  rw [revS_get h1, if_neg (by omega), List.getD_eq_getElem?_getD, List.getElem?_eq_getElem h2]; rfl
theorem revS_end {L : List Byts} {i : Nat} (h : L.length ≤ 2 * i + 1) : revS L i = L.reverse := by
  apply List.ext_getElem (by rw [revS_len, List.length_reverse])
  intro p h1 h2
  have hp : p < L.length := by rw [revS_len] at h1; exact h1
  rw [revS_get h1, List.getElem_reverse]
  have e : L.getD (L.length - 1 - p) [] = L[L.length - 1 - p] := by rw [List.getD_eq_getElem?_getD, List.getElem?_eq_getElem (by omega)]; rfl
  split
  · exact e
  · have : p = L.length - 1 - p := by omega
    rw [← e, ← this]
theorem revS_step {L : List Byts} {i j : Nat} (hij : i < j) (hj : i + j + 1 = L.length) {x y : Byts} (hx : x = (revS L i).getD j []) (hy : y = (revS L i).getD i []) : ((revS L i).set i x).set j y = revS L (i + 1) := by
  have gd : ∀ p, p < L.length → (revS L i).getD p [] = if p < i ∨ L.length ≤ p + i then L.getD (L.length - 1 - p) [] else L.getD p [] := fun p hp => by
    have h : p < (revS L i).length := by rw [revS_len]; exact hp
    rw [List.getD_eq_getElem?_getD, List.getElem?_eq_getElem h, Option.getD_some, revS_get h]
  apply List.ext_getElem (by rw [List.length_set, List.length_set, revS_len, revS_len])
  intro p h1 h2
  have hp : p < L.length := by rw [revS_len] at h2; exact h2
  rw [List.getElem_set, revS_get h2]
  split
  · rename_i e
    subst e
    rw [hy, gd i (by omega), if_neg (by omega), if_pos (by omega), show L.length - 1 - j = i by omega]
  · rename_i e
    rw [List.getElem_set]
    split
    · rename_i e2
      subst e2
      rw [hx, gd j (by omega), if_neg (by omega), if_pos (by omega), show L.length - 1 - i = j by omega]
    · rename_i e2
      have h3 : p < (revS L i).length := by rw [revS_len]; exact hp
      rw [revS_get h3]
      by_cases h : p < i ∨ L.length ≤ p + i
      · rw [if_pos h, if_pos (by omega)]
      · rw [if_neg h, if_neg (by omega)]
set_option maxRecDepth 10000 in
theorem reverseStr_spec {o : Dw.Os} {L : List Byts} (w : World) (hin : o.h.In w) (ho : OwnO fS 9 1 o L) (hl : L.length < 1000000) :
    CallsE Tryz.prog 56 #[o.v] w (RetM w o.h fun v h' cs => v = .tuple #[] ∧ cs = [] ∧ OwnO fS 9 1 ⟨o.a, o.n, o.c, h'⟩ L.reverse) := by
  have hn := ho.len
  refine enterM (X := cx 28) (cxg _) (args := [o.v]) hin [] Tryz.func56 rfl rfl rfl rfl rfl ?_
  obtain ⟨c0, hc0⟩ : ∃ c0, c0 = (Hp.whole w).minus o.h := ⟨_, rfl⟩
  rw [← hc0]
  refine nw (by omega) (by omega) ?_
  refine NeedL.mk (Nat × Dw.Os × Int) (fun g => [(0, .v o.v), (2, .v (.int .i64 g.1)), (3, .v (.int .i64 g.2.2))]) (fun g => [.hp c0, .hp g.2.1.h])
    (fun g => (2 * g.1 ≤ o.n + 1 ∧ g.2.2 = (o.n : Int) - 1 - g.1) ∧ (g.2.1.a = o.a ∧ g.2.1.n = o.n ∧ g.2.1.c = o.c) ∧ OwnO fS 9 1 g.2.1 (revS L g.1)) (fun g => o.n - g.1) (0, o, (o.n : Int) - 1) ⟨⟨by dsimp only; omega, by dsimp only; omega⟩, ⟨rfl, rfl, rfl⟩, by dsimp only; rw [revS_zero]; exact ho⟩ (Ent.mk (fun _ _ h => h) rfl rfl) ?_
  rintro ⟨i, o1, jj⟩ ⟨⟨hi, hjj⟩, ⟨e1, e2, e3⟩, ho1⟩
  dsimp only at *
  obtain ⟨oa, on, oc, h1⟩ := o1
  simp only at e1 e2 e3
  subst e1 e2 e3
  have hrl := revS_len L i
  refine bsplitd (fun hlt => ?_) (fun hge => ?_)
  · obtain ⟨j, hj⟩ : ∃ j : Nat, j = o.n - 1 - i := ⟨_, rfl⟩
    have hij : i < j := by omega
    have hjl : j < (revS L i).length := by omega
    have hil : i < (revS L i).length := by omega
    have gi : (revS L i).getD i [] = (revS L i)[i] := by rw [List.getD_eq_getElem?_getD, List.getElem?_eq_getElem hil]; rfl
    have gj : (revS L i).getD j [] = (revS L i)[j] := by rw [List.getD_eq_getElem?_getD, List.getElem?_eq_getElem hjl]; rfl
    have hst := revS_step hij (by omega) gj.symm gi.symm
    obtain ⟨x, hx⟩ : ∃ x, x = (revS L i)[j] := ⟨_, rfl⟩
    obtain ⟨y, hy⟩ : ∃ y, y = (revS L i)[i] := ⟨_, rfl⟩
    refine NeedD.cut Dw.Os (fun g => [(0, .v o.v), (2, .v (.int .i64 i)), (3, .v (.int .i64 jj))]) (fun g => [.hp c0, .hp g.h]) (fun g => (g.a = o.a ∧ g.n = o.n ∧ g.c = o.c) ∧ OwnO fS 9 1 g (revS L (i + 1))) (NeedD.by_order0 (cxg _) (.take 0 <| .take 1 <| .take 2 <| .take 3 <| .take 4 <| .take 5 <| .take 6 <| .take 8 <| .take 9 <| .take 10 <| .two 7 (.run 11 <| .take 12 <| .run 13 <| .run 14 <| .run 15 <| .done) 11 (.run 7 <| .take 12 <| .run 13 <| .run 14 <| .run 15 <| .done)) (by kernel_rfl) (subL_blank _ 1) ?_) ?_
    · refine oidx1 (o := ⟨o.a, o.n, o.c, h1⟩) (cxg _) (e := 9) rfl rfl ho1 j (by omega) hjl fun b8 hb8 => ?_
      refine oidx1 (o := ⟨o.a, o.n, o.c, h1⟩) (cxg _) (e := 9) rfl rfl ho1 i rfl hil fun b9 hb9 => ?_
      constructor
      · refine old (o := ⟨o.a, o.n, o.c, h1⟩) (g := fun x : Byts => .string (bs x)) (fun _ => rfl) (cxg _) (i := 1) rfl hb8 ho1 hjl rfl ?_
        refine ⟨(by repeat first | exact trivial | refine ⟨.inl rfl, ?_⟩ | refine ⟨.inr rfl, ?_⟩), ?_⟩
        refine old (o := ⟨o.a, o.n, o.c, h1⟩) (g := fun x : Byts => .string (bs x)) (fun _ => rfl) (cxg _) (i := 1) rfl hb9 ho1 hil rfl ?_
        refine ⟨(by repeat first | exact trivial | refine ⟨.inl rfl, ?_⟩ | refine ⟨.inr rfl, ?_⟩), ?_⟩
        rw [← hx, ← hy]
        refine oidx1 (o := ⟨o.a, o.n, o.c, h1⟩) (cxg _) (e := 9) rfl rfl ho1 i rfl hil fun b7 hb7 => ?_
        refine osto (o := ⟨o.a, o.n, o.c, h1⟩) (g := fun x : Byts => .string (bs x)) (fun _ => rfl) (cxg _) (i := 1) rfl hb7 ho1 hil rfl rfl x rfl rfl rfl fun o2 f1 f2 f3 ho2 => ?_
        refine ⟨(by repeat first | exact trivial | refine ⟨.inl rfl, ?_⟩ | refine ⟨.inr rfl, ?_⟩), ?_⟩
        obtain ⟨oa, on, oc, h2⟩ := o2
        simp only at f1 f2 f3
        subst f1 f2 f3
        refine oidx1 (o := ⟨o.a, o.n, o.c, h2⟩) (cxg _) (e := 9) rfl rfl ho2 j (by omega) (by rw [List.length_set]; exact hjl) fun b6 hb6 => ?_
        refine osto (o := ⟨o.a, o.n, o.c, h2⟩) (g := fun x : Byts => .string (bs x)) (fun _ => rfl) (cxg _) (i := 1) rfl hb6 ho2 (by rw [List.length_set]; exact hjl) rfl rfl y rfl rfl rfl fun o3 f1 f2 f3 ho3 => ?_
        rw [hx, hy, hst] at ho3
        exact ⟨o3, ⟨⟨f1, f2, f3⟩, ho3⟩, Ent.mk (fun _ _ h => h) rfl rfl⟩
      · refine old (o := ⟨o.a, o.n, o.c, h1⟩) (g := fun x : Byts => .string (bs x)) (fun _ => rfl) (cxg _) (i := 1) rfl hb9 ho1 hil rfl ?_
        refine ⟨(by repeat first | exact trivial | refine ⟨.inl rfl, ?_⟩ | refine ⟨.inr rfl, ?_⟩), ?_⟩
        refine old (o := ⟨o.a, o.n, o.c, h1⟩) (g := fun x : Byts => .string (bs x)) (fun _ => rfl) (cxg _) (i := 1) rfl hb8 ho1 hjl rfl ?_
        refine ⟨(by repeat first | exact trivial | refine ⟨.inl rfl, ?_⟩ | refine ⟨.inr rfl, ?_⟩), ?_⟩
        rw [← hx, ← hy]
        refine oidx1 (o := ⟨o.a, o.n, o.c, h1⟩) (cxg _) (e := 9) rfl rfl ho1 i rfl hil fun b7 hb7 => ?_
        refine osto (o := ⟨o.a, o.n, o.c, h1⟩) (g := fun x : Byts => .string (bs x)) (fun _ => rfl) (cxg _) (i := 1) rfl hb7 ho1 hil rfl rfl x rfl rfl rfl fun o2 f1 f2 f3 ho2 => ?_
        refine ⟨(by repeat first | exact trivial | refine ⟨.inl rfl, ?_⟩ | refine ⟨.inr rfl, ?_⟩), ?_⟩
        obtain ⟨oa, on, oc, h2⟩ := o2
        simp only at f1 f2 f3
        subst f1 f2 f3
        refine oidx1 (o := ⟨o.a, o.n, o.c, h2⟩) (cxg _) (e := 9) rfl rfl ho2 j (by omega) (by rw [List.length_set]; exact hjl) fun b6 hb6 => ?_
        refine osto (o := ⟨o.a, o.n, o.c, h2⟩) (g := fun x : Byts => .string (bs x)) (fun _ => rfl) (cxg _) (i := 1) rfl hb6 ho2 (by rw [List.length_set]; exact hjl) rfl rfl y rfl rfl rfl fun o3 f1 f2 f3 ho3 => ?_
        rw [hx, hy, hst] at ho3
        exact ⟨o3, ⟨⟨f1, f2, f3⟩, ho3⟩, Ent.mk (fun _ _ h => h) rfl rfl⟩
    rintro o3 ⟨⟨e1, e2, e3⟩, ho3⟩ _
    dsimp only
    refine nw (by omega) (by omega) ?_
    refine nw (by omega) (by omega) ?_
    exact ⟨(i + 1, o3, jj - 1), ⟨⟨by dsimp only; omega, by dsimp only; omega⟩, ⟨e1, e2, e3⟩, ho3⟩, by dsimp only; omega, Ent.mk (fun _ _ h => h) rfl rfl⟩
  · rw [revS_end (by omega)] at ho1
    exact ⟨h1, [], ⟨rfl, rfl, ho1⟩, fun w' h => h⟩
theorem bx105 : Go.Proofs.Builder.Extra Tryz.prog Tryz.lRe_ren where
  sizeBuilder := by kernel_rfl
  liesBuilder := by kernel_rfl
  t5 := Tryz.underlying5
  a5 := Tryz.isAgg5
  z5 := Tryz.sizeOf5
  v5 := Tryz.zeroValue5
  infoByte := by kernel_rfl
  cellsByte := by kernel_rfl
  sizeByte := by kernel_rfl
  neB5 := by decide
theorem bx156 : Go.Proofs.Builder.Extra Tryz.prog Tryz.lJo_ren where
  sizeBuilder := by kernel_rfl
  liesBuilder := by kernel_rfl
  t5 := Tryz.underlying5
  a5 := Tryz.isAgg5
  z5 := Tryz.sizeOf5
  v5 := Tryz.zeroValue5
  infoByte := by kernel_rfl
  cellsByte := by kernel_rfl
  sizeByte := by kernel_rfl
  neB5 := by decide
theorem repL0 (k : Nat) : Lib.repeatL [48] k = List.replicate k 48 := by
  induction k with
  | zero => rfl
  | succ k ih => show [48] ++ Lib.repeatL [48] k = _; rw [ih, List.replicate_succ]; rfl
theorem repeat0_spec (k : Nat) (hk : k < 1000) (w : World) : CallsE Tryz.prog 55 #[.string (bs [48]), .int .i64 k] w (RetV w (.string (bs (List.replicate k 48)))) := by
  have hcon := Any.strings_Repeat Tryz.lRe bx105 (bs [48]) k w (by omega) (by rw [bs_size]; show 1 * k ≤ _; omega)
  change Calls Tryz.prog 55 _ _ _ at hcon
  refine ⟨enters_of (args := #[.string (bs [48]), .int .i64 k]) Tryz.func55 (by kernel_rfl) rfl, hcon.mono ?_⟩
  rintro e w' ⟨rfl, hb⟩
  refine RetV.ofBelow ?_ hb
  rw [bs_data, repL0]; rfl
theorem joinS_spec {o : Dw.Os} {L : List Byts} (w : World) (sep : Byts) (hin : o.h.In w) (ho : OwnO fS 9 1 o L) (h0 : 0 < L.length) (hl : L.length < 1000000) (hj : (Lib.join L sep).length < 1000000) :
    CallsE Tryz.prog 57 #[o.v, .string (bs sep)] w (RetV w (.string (bs (Lib.join L sep)))) := by
  have hlen := OwnO.len ho
  obtain ⟨b, hb⟩ := ho.addr h0
  obtain ⟨a, n, c, hh⟩ := o
  dsimp only at hb hlen hin
  subst hb
  subst hlen
  have hms : (L.map bs).map (fun x => x.data.toList) = L := by rw [List.map_map]; exact (List.map_congr_left fun x _ => rfl).trans (List.map_id L)
  have hfl : ∀ (j : Nat) x, (L.map bs)[j]? = some x → (L.flatMap fS)[j]? = some (.string x) := by
    have e : L.flatMap fS = (L.map bs).map Value.string := by
      clear hms ho h0 hl hj
      induction L with
      | nil => rfl
      | cons x r ih => rw [List.flatMap_cons, List.map_cons, List.map_cons, ih]; rfl
    intro j x hx
    rw [e, List.getElem?_map, hx]; rfl
  have hown := ho
  have hcap : L.length ≤ c := by
    rcases ho.2.2 with ⟨g, _⟩ | ⟨b', arr, e1, _, hnc, _⟩
    · have : L.length = 0 := g
      omega
    · exact hnc
  have hblk : b < w.heap.size := by
    obtain ⟨b', arr, e1, hbb, _, h4⟩ := Own.cell ho.2 (hfl 0 (bs (L[0]'h0)) (by rw [List.getElem?_map, List.getElem?_eq_getElem h0]; rfl))
    cases e1
    have := hin _ _ hbb
    exact (Array.getElem?_eq_some_iff.1 this).1
  have hcon := Any.strings_Join Tryz.lJo bx156 b 0 c (L.map bs) (bs sep) w (fun j x hx => by
    obtain ⟨b', arr, e1, _, _, h4⟩ := Own.cell ho.2 (hfl j x hx)
    cases e1
    rw [Nat.zero_add]
    exact hin.whole.cell h4) hblk (by rw [List.length_map]; omega) (by rw [List.length_map]; exact hcap) (by rw [hms, bs_data]; omega)
  change Calls Tryz.prog 57 _ _ _ at hcon
  rw [List.length_map] at hcon
  refine ⟨enters_of (args := #[(⟨some ⟨b, 0, none⟩, L.length, c, hh⟩ : Dw.Os).v, .string (bs sep)]) Tryz.func57 (by kernel_rfl) rfl, hcon.mono ?_⟩
  rintro e w' ⟨rfl, hbel⟩
  refine RetV.ofBelow ?_ hbel
  rw [hms, bs_data]; rfl
end Go.Proofs.YtoholjdojdmbkaaGreatDoor
