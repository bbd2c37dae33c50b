/- Parts of one proof, joined: Km, Ko, Kp, Kq, Kr. No condition of its own. -/
import Derived.Test.YtoholjdojdmbkaaGreatDoorXH
import Derived.Test.YtoholjdojdmbkaaGreatDoorYIy
import Derived.Test.YtoholjdojdmbkaaGreatDoorXI
import Derived.Test.YtoholjdojdmbkaaGreatDoorYIz
import Derived.Test.YtoholjdojdmbkaaGreatDoorYJt
import Derived.Test.YtoholjdojdmbkaaGreatDoorXG
import Derived.Test.YtoholjdojdmbkaaGreatDoorXK
namespace Go.Proofs.YtoholjdojdmbkaaGreatDoor
open Go Go.RowKit Go.Dw
/-- the library's table of powers, in a heaplet -/
def TabP (h : Hp) : Prop := ∃ o, h 4 = some o ∧ ∀ w : World, w.heap[4]? = some o → Lib.TabIs Tryz.prog w "internal/strconv.uint64pow10" .u64 Lib.pow10Tab
theorem TabP.mono {h k : Hp} (ht : TabP h) (l : h.le k) : TabP k := by
  obtain ⟨o, h1, h2⟩ := ht
  exact ⟨o, l _ _ h1, h2⟩
theorem TabP.at {w : World} (ht : TabP (Hp.whole w)) : Lib.TabIs Tryz.prog w "internal/strconv.uint64pow10" .u64 Lib.pow10Tab := by
  obtain ⟨o, h1, h2⟩ := ht
  exact h2 w h1
theorem TabP.of {w : World} (h : Lib.TabIs Tryz.prog w "internal/strconv.uint64pow10" .u64 Lib.pow10Tab) : TabP (Hp.whole w) := by
  have hg : Tryz.prog.globalNamed "internal/strconv.uint64pow10" = some 4 := by kernel_rfl
  unfold Lib.TabIs World.var? at h
  rw [hg] at h
  simp only [Option.bind_some] at h
  cases ho : w.heap[4]? with
  | none => rw [ho] at h; cases h
  | some o =>
    refine ⟨o, ho, fun w' hw => ?_⟩
    unfold Lib.TabIs World.var?
    rw [hg, Option.bind_some, hw]
    rw [ho] at h
    exact h
theorem itoa_spec (n : Nat) (hn : n ≤ 9223372036854775807) (w : World) (hP : TabP (Hp.whole w)) : CallsE Tryz.prog 54 #[.int .i64 n] w (RetV w (.string (bs (Lib.decDigits n)))) := by
  have hcon := Any.strconv_Itoa Tryz.lIt (n : Int) (by omega) (by omega) w hP.at
  change Calls Tryz.prog 54 _ _ _ at hcon
  refine ⟨enters_of (args := #[.int .i64 n]) Tryz.func54 (by kernel_rfl) rfl, hcon.mono ?_⟩
  rintro e w' ⟨rfl, k, os, rfl⟩
  have e1 : (⟨(Lib.itoa (n : Int)).toArray⟩ : ByteArray) = bs (Lib.decDigits n) := by rw [Lib.itoa_nonneg]; rfl
  rw [e1]
  refine RetV.ofBelow rfl ⟨rfl, rfl, rfl, ?_, fun j hj => ?_⟩
  · show w.heap.size ≤ (w.heap ++ os).size
    rw [Array.size_append]; omega
  · exact Sort.heap_grow_old (w.drewN k) os hj
/-! ### the digits -/
theorem dec_last {u : Nat} (h : ¬ u < 10) : Lib.decDigits u = Lib.decDigits (u / 10) ++ [UInt8.ofNat (48 + u % 10)] := by rw [Lib.decDigits, dif_neg h]
theorem dig_of {d : Nat} (h : d < 10) : isDig (UInt8.ofNat (48 + d)) = true ∧ (UInt8.ofNat (48 + d)).toNat - 48 = d := by
  have e : (UInt8.ofNat (48 + d)).toNat = 48 + d := by
    rw [UInt8.toNat_ofNat']; omega
  unfold isDig
  rw [e, Bool.and_eq_true, decide_eq_true_eq, decide_eq_true_eq]
  omega
theorem dec_all : ∀ u : Nat, (Lib.decDigits u).all isDig = true ∧ dgV (Lib.decDigits u) = u ∧ 0 < (Lib.decDigits u).length ∧ (0 < u → (Lib.decDigits u).getD 0 0 ≠ 48) ∧ ∀ k, 0 < k → u < 10 ^ k → (Lib.decDigits u).length ≤ k := by
  intro u
  induction u using Nat.strongRecOn with
  | _ u ih =>
    by_cases h : u < 10
    · rw [Lib.decDigits_one h]
      obtain ⟨h1, h2⟩ := dig_of h
      refine ⟨by rw [List.all_cons, h1]; rfl, ?_, by simp, fun h0 e => ?_, fun k hk _ => by simp; omega⟩
      · show decV [(UInt8.ofNat (48 + u)).toNat - 48] = u
        rw [h2]; show 10 * 0 + u = u; omega
      · have e : UInt8.ofNat (48 + u) = 48 := e
        rw [e] at h2
        have : (48 : UInt8).toNat - 48 = 0 := rfl
        omega
    · obtain ⟨i1, i2, i3, i4, i5⟩ := ih (u / 10) (by omega)
      obtain ⟨h1, h2⟩ := dig_of (show u % 10 < 10 by omega)
      rw [dec_last h]
      refine ⟨by rw [List.all_append, i1, List.all_cons, h1]; rfl, ?_, by simp, fun _ => ?_, fun k hk hu => ?_⟩
      · rw [dgV_append, i2]
        have : dgV [UInt8.ofNat (48 + u % 10)] = u % 10 := by
          show decV [(UInt8.ofNat (48 + u % 10)).toNat - 48] = _
          rw [h2]; show 10 * 0 + u % 10 = _; omega
        rw [this]; simp; omega
      · have := i4 (by omega)
        cases hd : Lib.decDigits (u / 10) with
        | nil => rw [hd] at i3; cases i3
        | cons c r => rw [hd] at this; exact this
      · obtain ⟨m, rfl⟩ : ∃ m, k = m + 1 := ⟨k - 1, by omega⟩
        rw [List.length_append, List.length_singleton]
        rcases Nat.eq_zero_or_pos m with hm | hm
        · subst hm; simp at hu; omega
        · have := i5 m hm (by rw [Nat.pow_succ] at hu; omega)
          omega
end Go.Proofs.YtoholjdojdmbkaaGreatDoor
namespace Go.Proofs.YtoholjdojdmbkaaGreatDoor
open Go Go.RowKit Go.Dw
def revS (L : List Byts) (i : Nat) : List Byts := (List.range L.length).map fun p => if p < i ∨ L.length ≤ p + i then L.getD (L.length - 1 - p) [] else L.getD p []
theorem revS_len (L : List Byts) (i : Nat) : (revS L i).length = L.length := by unfold revS; simp
theorem revS_get {L : List Byts} {i p : Nat} (h : p < (revS L i).length) : (revS L i)[p] = if p < i ∨ L.length ≤ p + i then L.getD (L.length - 1 - p) [] else L.getD p [] := by
  have hp : p < L.length := by rw [revS_len] at h; exact h
  have : (revS L i)[p]? = some (if p < i ∨ L.length ≤ p + i then L.getD (L.length - 1 - p) [] else L.getD p []) := by unfold revS; rw [List.getElem?_map, List.getElem?_range hp]; rfl
  rw [List.getElem?_eq_getElem h] at this
  exact Option.some.inj this
theorem revS_zero (L : List Byts) : revS L 0 = L := by
  apply List.ext_getElem (revS_len _ _)
  intro p h1 h2
  rw [revS_get h1, if_neg (by omega), List.getD_eq_getElem?_getD, List.getElem?_eq_getElem h2]; rfl
theorem revS_end {L : List Byts} {i : Nat} (h : L.length ≤ 2 * i + 1) : revS L i = L.reverse := by
  apply List.ext_getElem (by rw [revS_len, List.length_reverse])
  intro p h1 h2
  have hp : p < L.length := by rw [revS_len] at h1; exact h1
  rw [revS_get h1, List.getElem_reverse]
  have e : L.getD (L.length - 1 - p) [] = L[L.length - 1 - p] := by rw [List.getD_eq_getElem?_getD, List.getElem?_eq_getElem (by omega)]; rfl
  split
  · exact e
  · have : p = L.length - 1 - p := by omega
    rw [← e, ← this]
theorem revS_step {L : List Byts} {i j : Nat} (hij : i < j) (hj : i + j + 1 = L.length) {x y : Byts} (hx : x = (revS L i).getD j []) (hy : y = (revS L i).getD i []) : ((revS L i).set i x).set j y = revS L (i + 1) := by
  have gd : ∀ p, p < L.length → (revS L i).getD p [] = if p < i ∨ L.length ≤ p + i then L.getD (L.length - 1 - p) [] else L.getD p [] := fun p hp => by
    have h : p < (revS L i).length := by rw [revS_len]; exact hp
    rw [List.getD_eq_getElem?_getD, List.getElem?_eq_getElem h, Option.getD_some, revS_get h]
  apply List.ext_getElem (by rw [List.length_set, List.length_set, revS_len, revS_len])
  intro p h1 h2
  have hp : p < L.length := by rw [revS_len] at h2; exact h2
  rw [List.getElem_set, revS_get h2]
  split
  · rename_i e
    subst e
    rw [hy, gd i (by omega), if_neg (by omega), if_pos (by omega), show L.length - 1 - j = i by omega]
  · rename_i e
    rw [List.getElem_set]
    split
    · rename_i e2
      subst e2
      rw [hx, gd j (by omega), if_neg (by omega), if_pos (by omega), show L.length - 1 - i = j by omega]
    · rename_i e2
      have h3 : p < (revS L i).length := by rw [revS_len]; exact hp
      rw [revS_get h3]
      by_cases h : p < i ∨ L.length ≤ p + i
      · rw [if_pos h, if_pos (by omega)]
      · rw [if_neg h, if_neg (by omega)]
set_option maxRecDepth 10000 in
theorem reverseStr_spec {o : Dw.Os} {L : List Byts} (w : World) (hin : o.h.In w) (ho : OwnO fS 9 1 o L) (hl : L.length < 1000000) :
    CallsE Tryz.prog 56 #[o.v] w (RetM w o.h fun v h' cs => v = .tuple #[] ∧ cs = [] ∧ OwnO fS 9 1 ⟨o.a, o.n, o.c, h'⟩ L.reverse) := by
  have hn := ho.len
  refine enterM (X := cx 28) (cxg _) (args := [o.v]) hin [] Tryz.func56 rfl rfl rfl rfl rfl ?_
  obtain ⟨c0, hc0⟩ : ∃ c0, c0 = (Hp.whole w).minus o.h := ⟨_, rfl⟩
  rw [← hc0]
  refine nw (by omega) (by omega) ?_
  refine NeedL.mk (Nat × Dw.Os × Int) (fun g => [(0, .v o.v), (2, .v (.int .i64 g.1)), (3, .v (.int .i64 g.2.2))]) (fun g => [.hp c0, .hp g.2.1.h])
    (fun g => (2 * g.1 ≤ o.n + 1 ∧ g.2.2 = (o.n : Int) - 1 - g.1) ∧ (g.2.1.a = o.a ∧ g.2.1.n = o.n ∧ g.2.1.c = o.c) ∧ OwnO fS 9 1 g.2.1 (revS L g.1)) (fun g => o.n - g.1) (0, o, (o.n : Int) - 1) ⟨⟨by dsimp only; omega, by dsimp only; omega⟩, ⟨rfl, rfl, rfl⟩, by dsimp only; rw [revS_zero]; exact ho⟩ (Ent.mk (fun _ _ h => h) rfl rfl) ?_
  rintro ⟨i, o1, jj⟩ ⟨⟨hi, hjj⟩, ⟨e1, e2, e3⟩, ho1⟩
  dsimp only at *
  obtain ⟨oa, on, oc, h1⟩ := o1
  simp only at e1 e2 e3
  subst e1 e2 e3
  have hrl := revS_len L i
  refine bsplitd (fun hlt => ?_) (fun hge => ?_)
  · obtain ⟨j, hj⟩ : ∃ j : Nat, j = o.n - 1 - i := ⟨_, rfl⟩
    have hij : i < j := by omega
    have hjl : j < (revS L i).length := by omega
    have hil : i < (revS L i).length := by omega
    have gi : (revS L i).getD i [] = (revS L i)[i] := by rw [List.getD_eq_getElem?_getD, List.getElem?_eq_getElem hil]; rfl
    have gj : (revS L i).getD j [] = (revS L i)[j] := by rw [List.getD_eq_getElem?_getD, List.getElem?_eq_getElem hjl]; rfl
    have hst := revS_step hij (by omega) gj.symm gi.symm
    obtain ⟨x, hx⟩ : ∃ x, x = (revS L i)[j] := ⟨_, rfl⟩
    obtain ⟨y, hy⟩ : ∃ y, y = (revS L i)[i] := ⟨_, rfl⟩
    refine NeedD.cut Dw.Os (fun g => [(0, .v o.v), (2, .v (.int .i64 i)), (3, .v (.int .i64 jj))]) (fun g => [.hp c0, .hp g.h]) (fun g => (g.a = o.a ∧ g.n = o.n ∧ g.c = o.c) ∧ OwnO fS 9 1 g (revS L (i + 1))) (NeedD.by_order0 (cxg _) (.take 0 <| .take 1 <| .take 2 <| .take 3 <| .take 4 <| .take 5 <| .take 6 <| .take 8 <| .take 9 <| .take 10 <| .two 7 (.run 11 <| .take 12 <| .run 13 <| .run 14 <| .run 15 <| .done) 11 (.run 7 <| .take 12 <| .run 13 <| .run 14 <| .run 15 <| .done)) (by kernel_rfl) (subL_blank _ 1) ?_) ?_
    · refine oidx1 (o := ⟨o.a, o.n, o.c, h1⟩) (cxg _) (e := 9) rfl rfl ho1 j (by omega) hjl fun b8 hb8 => ?_
      refine oidx1 (o := ⟨o.a, o.n, o.c, h1⟩) (cxg _) (e := 9) rfl rfl ho1 i rfl hil fun b9 hb9 => ?_
      constructor
      · refine old (o := ⟨o.a, o.n, o.c, h1⟩) (g := fun x : Byts => .string (bs x)) (fun _ => rfl) (cxg _) (i := 1) rfl hb8 ho1 hjl rfl ?_
        refine ⟨(by repeat first | exact trivial | refine ⟨.inl rfl, ?_⟩ | refine ⟨.inr rfl, ?_⟩), ?_⟩
        refine old (o := ⟨o.a, o.n, o.c, h1⟩) (g := fun x : Byts => .string (bs x)) (fun _ => rfl) (cxg _) (i := 1) rfl hb9 ho1 hil rfl ?_
        refine ⟨(by repeat first | exact trivial | refine ⟨.inl rfl, ?_⟩ | refine ⟨.inr rfl, ?_⟩), ?_⟩
        rw [← hx, ← hy]
        refine oidx1 (o := ⟨o.a, o.n, o.c, h1⟩) (cxg _) (e := 9) rfl rfl ho1 i rfl hil fun b7 hb7 => ?_
        refine osto (o := ⟨o.a, o.n, o.c, h1⟩) (g := fun x : Byts => .string (bs x)) (fun _ => rfl) (cxg _) (i := 1) rfl hb7 ho1 hil rfl rfl x rfl rfl rfl fun o2 f1 f2 f3 ho2 => ?_
        refine ⟨(by repeat first | exact trivial | refine ⟨.inl rfl, ?_⟩ | refine ⟨.inr rfl, ?_⟩), ?_⟩
        obtain ⟨oa, on, oc, h2⟩ := o2
        simp only at f1 f2 f3
        subst f1 f2 f3
        refine oidx1 (o := ⟨o.a, o.n, o.c, h2⟩) (cxg _) (e := 9) rfl rfl ho2 j (by omega) (by rw [List.length_set]; exact hjl) fun b6 hb6 => ?_
        refine osto (o := ⟨o.a, o.n, o.c, h2⟩) (g := fun x : Byts => .string (bs x)) (fun _ => rfl) (cxg _) (i := 1) rfl hb6 ho2 (by rw [List.length_set]; exact hjl) rfl rfl y rfl rfl rfl fun o3 f1 f2 f3 ho3 => ?_
        rw [hx, hy, hst] at ho3
        exact ⟨o3, ⟨⟨f1, f2, f3⟩, ho3⟩, Ent.mk (fun _ _ h => h) rfl rfl⟩
      · refine old (o := ⟨o.a, o.n, o.c, h1⟩) (g := fun x : Byts => .string (bs x)) (fun _ => rfl) (cxg _) (i := 1) rfl hb9 ho1 hil rfl ?_
        refine ⟨(by repeat first | exact trivial | refine ⟨.inl rfl, ?_⟩ | refine ⟨.inr rfl, ?_⟩), ?_⟩
        refine old (o := ⟨o.a, o.n, o.c, h1⟩) (g := fun x : Byts => .string (bs x)) (fun _ => rfl) (cxg _) (i := 1) rfl hb8 ho1 hjl rfl ?_
        refine ⟨(by repeat first | exact trivial | refine ⟨.inl rfl, ?_⟩ | refine ⟨.inr rfl, ?_⟩), ?_⟩
        rw [← hx, ← hy]
        refine oidx1 (o := ⟨o.a, o.n, o.c, h1⟩) (cxg _) (e := 9) rfl rfl ho1 i rfl hil fun b7 hb7 => ?_
        refine osto (o := ⟨o.a, o.n, o.c, h1⟩) (g := fun x : Byts => .string (bs x)) (fun _ => rfl) (cxg _) (i := 1) rfl hb7 ho1 hil rfl rfl x rfl rfl rfl fun o2 f1 f2 f3 ho2 => ?_
        refine ⟨(by repeat first | exact trivial | refine ⟨.inl rfl, ?_⟩ | refine ⟨.inr rfl, ?_⟩), ?_⟩
        obtain ⟨oa, on, oc, h2⟩ := o2
        simp only at f1 f2 f3
        subst f1 f2 f3
        refine oidx1 (o := ⟨o.a, o.n, o.c, h2⟩) (cxg _) (e := 9) rfl rfl ho2 j (by omega) (by rw [List.length_set]; exact hjl) fun b6 hb6 => ?_
        refine osto (o := ⟨o.a, o.n, o.c, h2⟩) (g := fun x : Byts => .string (bs x)) (fun _ => rfl) (cxg _) (i := 1) rfl hb6 ho2 (by rw [List.length_set]; exact hjl) rfl rfl y rfl rfl rfl fun o3 f1 f2 f3 ho3 => ?_
        rw [hx, hy, hst] at ho3
        exact ⟨o3, ⟨⟨f1, f2, f3⟩, ho3⟩, Ent.mk (fun _ _ h => h) rfl rfl⟩
    rintro o3 ⟨⟨e1, e2, e3⟩, ho3⟩ _
    dsimp only
    refine nw (by omega) (by omega) ?_
    refine nw (by omega) (by omega) ?_
    exact ⟨(i + 1, o3, jj - 1), ⟨⟨by dsimp only; omega, by dsimp only; omega⟩, ⟨e1, e2, e3⟩, ho3⟩, by dsimp only; omega, Ent.mk (fun _ _ h => h) rfl rfl⟩
  · rw [revS_end (by omega)] at ho1
    exact ⟨h1, [], ⟨rfl, rfl, ho1⟩, fun w' h => h⟩
theorem bx105 : Go.Proofs.Builder.Extra Tryz.prog Tryz.lRe_ren where
  sizeBuilder := by kernel_rfl
  liesBuilder := by kernel_rfl
  t5 := Tryz.underlying5
  a5 := Tryz.isAgg5
  z5 := Tryz.sizeOf5
  v5 := Tryz.zeroValue5
  infoByte := by kernel_rfl
  cellsByte := by kernel_rfl
  sizeByte := by kernel_rfl
  neB5 := by decide
theorem bx156 : Go.Proofs.Builder.Extra Tryz.prog Tryz.lJo_ren where
  sizeBuilder := by kernel_rfl
  liesBuilder := by kernel_rfl
  t5 := Tryz.underlying5
  a5 := Tryz.isAgg5
  z5 := Tryz.sizeOf5
  v5 := Tryz.zeroValue5
  infoByte := by kernel_rfl
  cellsByte := by kernel_rfl
  sizeByte := by kernel_rfl
  neB5 := by decide
theorem repL0 (k : Nat) : Lib.repeatL [48] k = List.replicate k 48 := by
  induction k with
  | zero => rfl
  | succ k ih => show [48] ++ Lib.repeatL [48] k = _; rw [ih, List.replicate_succ]; rfl
theorem repeat0_spec (k : Nat) (hk : k < 1000) (w : World) : CallsE Tryz.prog 55 #[.string (bs [48]), .int .i64 k] w (RetV w (.string (bs (List.replicate k 48)))) := by
  have hcon := Any.strings_Repeat Tryz.lRe bx105 (bs [48]) k w (by omega) (by rw [bs_size]; show 1 * k ≤ _; omega)
  change Calls Tryz.prog 55 _ _ _ at hcon
  refine ⟨enters_of (args := #[.string (bs [48]), .int .i64 k]) Tryz.func55 (by kernel_rfl) rfl, hcon.mono ?_⟩
  rintro e w' ⟨rfl, hb⟩
  refine RetV.ofBelow ?_ hb
  rw [bs_data, repL0]; rfl
theorem joinS_spec {o : Dw.Os} {L : List Byts} (w : World) (sep : Byts) (hin : o.h.In w) (ho : OwnO fS 9 1 o L) (h0 : 0 < L.length) (hl : L.length < 1000000) (hj : (Lib.join L sep).length < 1000000) :
    CallsE Tryz.prog 57 #[o.v, .string (bs sep)] w (RetV w (.string (bs (Lib.join L sep)))) := by
  have hlen := OwnO.len ho
  obtain ⟨b, hb⟩ := ho.addr h0
  obtain ⟨a, n, c, hh⟩ := o
  dsimp only at hb hlen hin
  subst hb
  subst hlen
  have hms : (L.map bs).map (fun x => x.data.toList) = L := by rw [List.map_map]; exact (List.map_congr_left fun x _ => rfl).trans (List.map_id L)
  have hfl : ∀ (j : Nat) x, (L.map bs)[j]? = some x → (L.flatMap fS)[j]? = some (.string x) := by
    have e : L.flatMap fS = (L.map bs).map Value.string := by
      clear hms ho h0 hl hj
      induction L with
      | nil => rfl
      | cons x r ih => rw [List.flatMap_cons, List.map_cons, List.map_cons, ih]; rfl
    intro j x hx
    rw [e, List.getElem?_map, hx]; rfl
  have hown := ho
  have hcap : L.length ≤ c := by
    rcases ho.2.2 with ⟨g, _⟩ | ⟨b', arr, e1, _, hnc, _⟩
    · have : L.length = 0 := g
      omega
    · exact hnc
  have hblk : b < w.heap.size := by
    obtain ⟨b', arr, e1, hbb, _, h4⟩ := Own.cell ho.2 (hfl 0 (bs (L[0]'h0)) (by rw [List.getElem?_map, List.getElem?_eq_getElem h0]; rfl))
    cases e1
    have := hin _ _ hbb
    exact (Array.getElem?_eq_some_iff.1 this).1
  have hcon := Any.strings_Join Tryz.lJo bx156 b 0 c (L.map bs) (bs sep) w (fun j x hx => by
    obtain ⟨b', arr, e1, _, _, h4⟩ := Own.cell ho.2 (hfl j x hx)
    cases e1
    rw [Nat.zero_add]
    exact hin.whole.cell h4) hblk (by rw [List.length_map]; omega) (by rw [List.length_map]; exact hcap) (by rw [hms, bs_data]; omega)
  change Calls Tryz.prog 57 _ _ _ at hcon
  rw [List.length_map] at hcon
  refine ⟨enters_of (args := #[(⟨some ⟨b, 0, none⟩, L.length, c, hh⟩ : Dw.Os).v, .string (bs sep)]) Tryz.func57 (by kernel_rfl) rfl, hcon.mono ?_⟩
  rintro e w' ⟨rfl, hbel⟩
  refine RetV.ofBelow ?_ hbel
  rw [hms, bs_data]; rfl
end Go.Proofs.YtoholjdojdmbkaaGreatDoor
namespace Go.Proofs.YtoholjdojdmbkaaGreatDoor
open Go Go.RowKit Go.Dw
def catG (G : List Byts) : Byts := G.reverse.flatten
theorem catG_snoc (G : List Byts) (x : Byts) : catG (G ++ [x]) = x ++ catG G := by unfold catG; simp
theorem join_flat : ∀ L : List Byts, Lib.join L [] = L.flatten
  | [] => rfl
  | [x] => by show List.intercalate [] [x] = _; simp [List.intercalate]
  | x :: y :: r => by
    have ih := join_flat (y :: r)
    unfold Lib.join List.intercalate at ih ⊢
    rw [List.intersperse_cons_cons, List.flatten_cons, List.flatten_cons, ih]
    rfl
theorem dgV_zeros (k : Nat) : dgV (List.replicate k 48) = 0 := by
  unfold dgV
  rw [dec_zero]
  intro d hd
  obtain ⟨c, hc, rfl⟩ := List.mem_map.1 hd
  rw [(List.mem_replicate.1 hc).2]; rfl
/-- a decimal text of a number -/
def DecT (m : Nat) (L : Byts) : Prop := L.all isDig = true ∧ canD L = true ∧ dgV L = m
/-- groups of nine digits written so far, m' still to be written -/
def GrpI (M m' : Nat) (G : List Byts) : Prop := (catG G).all isDig = true ∧ (0 < m' → M = m' * 10 ^ (9 * G.length) + dgV (catG G) ∧ (catG G).length = 9 * G.length) ∧ (m' = 0 → 0 < G.length ∧ DecT M (catG G) ∧ (catG G).length ≤ 9 * G.length)
theorem grp_step {M m' : Nat} {G : List Byts} (h : GrpI M m' G) (h0 : 0 < m') : GrpI M (m' / 1000000000) (G ++ [if 0 < m' / 1000000000 then List.replicate (9 - (Lib.decDigits (m' % 1000000000)).length) 48 ++ Lib.decDigits (m' % 1000000000) else Lib.decDigits (m' % 1000000000)]) := by
  obtain ⟨h1, h2, _⟩ := h
  obtain ⟨e1, e2⟩ := h2 h0
  obtain ⟨d1, d2, d3, d4, d5⟩ := dec_all (m' % 1000000000)
  have hlen := d5 9 (by decide) (Nat.mod_lt _ (by decide))
  have hdm := Nat.div_add_mod m' 1000000000
  by_cases hq : 0 < m' / 1000000000
  · rw [if_pos hq]
    have hl : (List.replicate (9 - (Lib.decDigits (m' % 1000000000)).length) 48 ++ Lib.decDigits (m' % 1000000000)).length = 9 := by rw [List.length_append, List.length_replicate]; omega
    refine ⟨?_, fun _ => ⟨?_, ?_⟩, fun h => by omega⟩
    · rw [catG_snoc, List.all_append, List.all_append, d1, h1, Bool.and_true, Bool.and_true]
      exact List.all_eq_true.2 fun c hc => by rw [(List.mem_replicate.1 hc).2]; rfl
    · rw [catG_snoc, dgV_append, dgV_append, dgV_zeros, d2, List.length_append, List.length_singleton, e2, Nat.zero_mul, Nat.zero_add, e1]
      have : 10 ^ (9 * (G.length + 1)) = 1000000000 * 10 ^ (9 * G.length) := by rw [Nat.mul_add, Nat.pow_add, Nat.mul_comm]
      rw [this, ← Nat.mul_assoc, ← Nat.add_assoc, ← Nat.add_mul]
      congr 2
      omega
    · rw [catG_snoc, List.length_append, hl, e2, List.length_append, List.length_singleton]; omega
  · rw [if_neg hq]
    have hm : m' % 1000000000 = m' := Nat.mod_eq_of_lt (by omega)
    rw [hm]
    clear d1 d2 d3 d4 d5 hlen hdm
    obtain ⟨d1, d2, d3, d4, d5⟩ := dec_all m'
    have hlen := d5 9 (by decide) (by omega)
    refine ⟨?_, fun h => by omega, fun _ => ⟨by simp, ⟨?_, ?_, ?_⟩, ?_⟩⟩
    · rw [catG_snoc, List.all_append, d1, h1]; rfl
    · rw [catG_snoc, List.all_append, d1, h1]; rfl
    · rw [catG_snoc]
      have := d4 h0
      unfold canD
      rw [Bool.and_eq_true, Bool.or_eq_true, decide_eq_true_eq, decide_eq_true_eq]
      refine ⟨by rw [List.length_append]; omega, .inr ?_⟩
      cases hd : Lib.decDigits m' with
      | nil => rw [hd] at d3; cases d3
      | cons c r =>
        rw [hd] at this
        show (!decide (c = 48)) = true
        have h48 : c ≠ 48 := this
        rw [decide_eq_false h48]; rfl
    · rw [catG_snoc, dgV_append, d2, e2, e1]
    · rw [catG_snoc, List.length_append, e2, List.length_append, List.length_singleton]; omega
theorem short_mag {a : Option Addr} {n c m : Nat} (w : World) (by' : Nat) (hM : Mag (Hp.whole w) (.slice a n c) m) (h0 : 0 < by') (hb : by' < Bs) :
    CallsE Tryz.prog 53 #[.slice a n c, .int .u32 by'] w (Ret w fun v cs => ∃ g a' n' c', cs = [.hp g] ∧ v = .tuple #[.slice a' n' c', .int .u32 ((m % by' : Nat) : Int)] ∧ Mag g (.slice a' n' c') (m / by')) := by
  obtain ⟨aa, nn, cc, L, e, hs, hc, hl⟩ := hM
  cases e
  have hcon := short_spec w by' hs hc.l (by omega) h0 hb
  rw [hc.v] at hcon
  refine ⟨hcon.1, hcon.2.mono ?_⟩
  rintro e w' ⟨v, cs, rfl, hk, g, a', n', c', L', rfl, rfl, hs', hc'⟩
  exact ⟨_, _, rfl, hk, g, a', n', c', rfl, rfl, ⟨_, _, _, L', rfl, hs', hc', by have := hc'.le_len hc (Nat.div_le_self m by'); omega⟩⟩
set_option maxRecDepth 20000 in
set_option maxHeartbeats 2000000 in
theorem textInt_spec {a : Option Addr} {n c M : Nat} (w : World) (hM : Mag (Hp.whole w) (.slice a n c) M) (hm : M < 100000000000000000000) (hP : TabP (Hp.whole w)) :
    CallsE Tryz.prog 26 #[intV false a n c] w (Ret w fun v cs => cs = [] ∧ ∃ L, v = .string (bs L) ∧ DecT M L ∧ L.length ≤ 27) := by
  have hn0 := hM.len
  unfold intV
  refine enter (X := cx 49) (cxg _) (args := [.agg #[.bool false, .slice a n c]]) [.tmp 2] Tryz.func26 rfl rfl rfl rfl rfl ?_
  intro b1
  refine bsplitd (fun h1 => ?_) (fun h1 => ?_)
  · have h1 : M = 0 := hn0.1 (by omega)
    exact ⟨[], ⟨rfl, [48], rfl, ⟨rfl, rfl, by rw [h1]; rfl⟩, by decide⟩, fun w' h => h.pick [0] rfl rfl⟩
  · have hM0 : 0 < M := Nat.pos_of_ne_zero fun e => h1 (by have := hn0.2 e; omega)
    refine NeedL.mkS (Dw.Os × List Byts × (Option Addr × Nat × Nat) × Hp × Nat) (fun g => [(1, .bx 1 0), (3, .v g.1.v), (4, .v (.slice g.2.2.1.1 g.2.2.1.2.1 g.2.2.1.2.2))]) (fun g => [.hp (Hp.whole w), .box b1 [.bool false, .slice a n c] 54, .hp g.1.h, .hp g.2.2.2.1])
      (fun g => OwnO fS 9 1 g.1 g.2.1 ∧ Rd2 (Hp.whole w) g.2.2.2.1 g.2.2.1 g.2.2.2.2 ∧ GrpI M g.2.2.2.2 g.2.1 ∧ g.2.1.length ≤ 3 ∧ g.2.2.2.2 * 10 ^ (9 * g.2.1.length) ≤ M) (fun g => g.2.2.2.2)
      (Os.nil, [], (a, n, c), Hp.emp, M) ⟨OwnO.nil _ _ _, fun k l1 _ => hM.mono l1, ⟨rfl, fun _ => ⟨by show M = M * 10 ^ 0 + 0; simp, rfl⟩, fun h => by dsimp only at h; omega⟩, Nat.zero_le _, by show M * 10 ^ 0 ≤ M; simp⟩ (Ent.mk (fun _ _ h => (h.emp).emp.pick [0, 1, 2, 3] rfl rfl) rfl rfl) ?_
    rintro ⟨o, G, ⟨a2, n2, c2⟩, gh, m'⟩ ⟨hO, hRd, hG, hGl, hle⟩ hsat
    dsimp only at *
    have hRd' : ∀ k, (Hp.whole w).le k → gh.le k → Mag k (.slice a2 n2 c2) m' := hRd
    have hl := (hRd' ((Hp.whole w).join gh) (Hp.le_left _ _) (hsat.leR 0 3 rfl rfl)).len
    clear hsat
    have hm' : m' ≤ M := Nat.le_trans (Nat.le_mul_of_pos_right m' (Nat.pos_of_ne_zero fun e => by have := Nat.pow_eq_zero.1 e; omega)) hle
    refine bsplitd (fun h2 => ?_) (fun h2 => ?_)
    · have h0 : 0 < m' := Nat.pos_of_ne_zero fun e => by have := hl.2 e; omega
      have hst := grp_step hG h0
      obtain ⟨d1, d2, d3, d4, d5⟩ := dec_all (m' % 1000000000)
      have hlen := d5 9 (by decide) (Nat.mod_lt _ (by decide))
      have hrm : m' % 1000000000 < 1000000000 := Nat.mod_lt _ (by decide)
      have hG2 : G.length ≤ 2 := by
        refine Classical.byContradiction fun g => ?_
        have e3 : G.length = 3 := by omega
        rw [e3] at hle
        have : 1 * 10 ^ 27 ≤ m' * 10 ^ 27 := Nat.mul_le_mul_right _ h0
        have e4 : (10 : Nat) ^ 27 = 1000000000000000000000000000 := by decide
        rw [show 9 * 3 = 27 from rfl] at hle
        omega
      have hle2 : m' / 1000000000 * 10 ^ (9 * (G.length + 1)) ≤ M := by
        have e3 : 10 ^ (9 * (G.length + 1)) = 1000000000 * 10 ^ (9 * G.length) := by rw [Nat.mul_add, Nat.pow_add, Nat.mul_comm]
        rw [e3, ← Nat.mul_assoc]
        exact Nat.le_trans (Nat.mul_le_mul_right _ (Nat.div_mul_le_self _ _)) hle
      have hlt : m' / 1000000000 < m' := Nat.div_lt_self h0 (by decide)
      refine callS (fun w' hm => short_mag w' 1000000000 (hRd' _ (hm 0 _ rfl).whole (hm 3 _ rfl).whole) (by decide) (by decide)) ?_
      rintro _ _ ⟨g, a3, n3, c3, rfl, rfl, hM3⟩ _
      have hl3 := hM3.len
      obtain ⟨r, hr⟩ : ∃ r, r = m' % 1000000000 := ⟨_, rfl⟩
      obtain ⟨m3, hm3⟩ : ∃ m3, m3 = m' / 1000000000 := ⟨_, rfl⟩
      rw [← hr]
      rw [← hr, ← hm3] at hst
      rw [← hm3] at hM3 hl3
      rw [← hr] at hlen d3 hrm
      rw [← hm3] at hle2 hlt
      clear hr hm3
      refine nw (by omega) (by omega) ?_
      refine callV _ (fun w' hm => itoa_spec r (by omega) w' (hP.mono (hm 0 _ rfl).whole)) ?_
      refine bsplitd (fun h3 => ?_) (fun h3 => ?_)
      · rw [if_pos (show 0 < m3 from Nat.pos_of_ne_zero fun e => by have := hl3.2 e; omega)] at hst
        refine nwEq (y := ((9 - (Lib.decDigits r).length : Nat) : Int)) (by rw [bs_size]; omega) (by omega) (by omega) ?_
        refine callV _ (fun w' hm => repeat0_spec (9 - (Lib.decDigits r).length) (by omega) w') ?_
        refine qAdd (ty := 9) (by rw [List.length_replicate]; omega) ?_
        intro b37
        refine appO (f := fS) (cxg _) (e := 9) rfl (i := 2) rfl hO (j := 5) (List.replicate (9 - (Lib.decDigits r).length) 48 ++ Lib.decDigits r) rfl rfl rfl rfl (by omega) (fun o2 ho2 => ?_)
        exact ⟨(o2, _, (a3, n3, c3), g, m3), ⟨ho2, fun k _ l2 => hM3.mono l2, hst, by dsimp only; rw [List.length_append, List.length_singleton]; omega, by dsimp only; rw [List.length_append, List.length_singleton]; exact hle2⟩, hlt, Ent.mk (fun _ _ h => h.pick [0, 1, 2, 4] rfl rfl) rfl rfl⟩
      · have h30 : m3 = 0 := hl3.1 (by omega)
        rw [if_neg (by omega)] at hst
        intro b37
        refine appO (f := fS) (cxg _) (e := 9) rfl (i := 2) rfl hO (j := 5) (Lib.decDigits r) rfl rfl rfl rfl (by omega) (fun o2 ho2 => ?_)
        exact ⟨(o2, _, (a3, n3, c3), g, m3), ⟨ho2, fun k _ l2 => hM3.mono l2, hst, by dsimp only; rw [List.length_append, List.length_singleton]; omega, by dsimp only; rw [List.length_append, List.length_singleton]; exact hle2⟩, hlt, Ent.mk (fun _ _ h => h.pick [0, 1, 2, 4] rfl rfl) rfl rfl⟩
    · have hm0 : m' = 0 := hl.1 (by omega)
      obtain ⟨hG0, hD, hDl⟩ := hG.2.2 hm0
      refine callMO (i := 2) rfl (fun w0 w' hok => reverseStr_spec w' (hok.mem 2 _ rfl) hO (by omega)) ?_
      rintro _ h' _ ⟨rfl, rfl, hO2⟩
      have ej : Lib.join G.reverse [] = catG G := join_flat _
      refine callV _ (fun w' hm => joinS_spec (o := ⟨o.a, o.n, o.c, h'⟩) w' [] (hm 2 _ rfl) hO2 (by rw [List.length_reverse]; exact hG0) (by rw [List.length_reverse]; omega) (by rw [ej]; omega)) ?_
      rw [ej]
      exact ⟨[], ⟨rfl, catG G, rfl, hD, by omega⟩, fun w' h => h.pick [0] rfl rfl⟩
end Go.Proofs.YtoholjdojdmbkaaGreatDoor
namespace Go.Proofs.YtoholjdojdmbkaaGreatDoor
open Go Go.RowKit Go.Dw
/-- the text of a and b as a number -/
def ratX (a b : Nat) (A B : Byts) : Byts := if b = 1 ∨ (b = 0 ∧ a = 0) then A else A ++ 47 :: B
def canX (a b : Nat) : Prop := b = 1 ∨ (b = 0 ∧ a = 0) ∨ (1 < b ∧ Nat.gcd a b = 1)
def sgX (minus : Bool) (t : Byts) : Byts := (if minus = true then [45] else []) ++ t
theorem DecT.pos {m : Nat} {A : Byts} (h : DecT m A) : 0 < A.length := by
  have := h.2.1
  unfold canD at this
  rw [Bool.and_eq_true, decide_eq_true_eq] at this
  exact this.1
theorem ratX_num {a b : Nat} {A B : Byts} (hA : DecT a A) (hB : DecT b B) (lA : A.length ≤ 27) (lB : B.length ≤ 27) : NumD (ratX a b A B) A.length := by
  unfold ratX
  split
  · exact ⟨by omega, A, B, hA.1, hA.pos, rfl, .inl rfl⟩
  · exact ⟨by rw [List.length_append, List.length_cons]; omega, A, B, hA.1, hA.pos, rfl, .inr ⟨rfl, hB.1, hB.pos⟩⟩
theorem canN_two (A B : Byts) : canN (A ++ 47 :: B) A.length = (canD A && (canD B && (decide (1 < dgV B) && decide (Nat.gcd (dgV A) (dgV B) = 1)))) := by
  unfold canN
  rw [if_neg (by rw [List.length_append, List.length_cons]; omega), List.take_left' rfl, ← List.drop_drop, List.drop_left' rfl]
  rfl
theorem ratX_can {a b : Nat} {A B : Byts} (hA : DecT a A) (hB : DecT b B) : canN (ratX a b A B) A.length = true ↔ canX a b := by
  unfold ratX canX
  by_cases h : b = 1 ∨ (b = 0 ∧ a = 0)
  · rw [if_pos h, canD_canN, hA.2.1]
    exact ⟨fun _ => by rcases h with h | h; exact .inl h; exact .inr (.inl h), fun _ => rfl⟩
  · rw [if_neg h, canN_two, hA.2.1, hB.2.1, hA.2.2, hB.2.2, Bool.true_and, Bool.true_and, Bool.and_eq_true, decide_eq_true_eq, decide_eq_true_eq]
    exact ⟨fun g => .inr (.inr g), fun g => by rcases g with g | g | g; exact absurd (.inl g) h; exact absurd (.inr g) h; exact g⟩
theorem val_pos {a : Nat} {A : Byts} (hA : DecT a A) (lA : A.length ≤ 27) : parE A = 0 ∧ sgnB A = false ∧ sgnD A = A := by
  have h0 := hA.pos
  have hd : isDig (A.getD 0 0) = true := all_get hA.1 h0
  have h45 : A.getD 0 0 ≠ 45 := fun e => by rw [e] at hd; exact absurd hd (by decide)
  have hs : sgnB A = false := by unfold sgnB; rw [decide_eq_false h45]; rfl
  have hD : sgnD A = A := by unfold sgnD; rw [hs]; rfl
  refine ⟨?_, hs, hD⟩
  unfold parE
  rw [hD, hs, if_neg (by omega), if_neg (fun g => ?_), if_neg (fun g => ?_)]
  · rcases g.2 with g2 | g2
    · have := hA.2.1
      unfold canD at this
      rw [g.1] at this
      simp at this
      omega
    · cases g2
  · rcases g with g | g
    · rw [g] at h0; cases h0
    · rw [List.any_eq_true] at g
      obtain ⟨c, hc, g⟩ := g
      rw [List.all_eq_true.1 hA.1 c hc] at g; cases g
theorem ratX_pro {a b : Nat} {A B : Byts} (hA : DecT a A) (hB : DecT b B) (lA : A.length ≤ 27) (lB : B.length ≤ 27) (ha : a < 9223372036854775808) (minus : Bool) (hc : canX a b) (hz : minus = true → ratX a b A B ≠ [48]) :
    proI (sgX minus (ratX a b A B)) = if 1 < b then none else some (if minus = true then -(a : Int) else a) := by
  have hcn := (ratX_can hA hB).2 hc
  have hn : numT (ratX a b A B) := by
    unfold ratX at hcn ⊢
    split
    · exact ⟨by omega, A, B, hA.1, hA.pos, .inl ⟨rfl, hA.2.1⟩⟩
    · rename_i g
      rw [if_neg g] at hcn
      exact ⟨by rw [List.length_append, List.length_cons]; omega, A, B, hA.1, hA.pos, .inr ⟨rfl, hB.1, hB.pos, hcn⟩⟩
  have e := pro_val hn hz
  unfold sgX
  rw [e]
  unfold valI
  by_cases h : b = 1 ∨ (b = 0 ∧ a = 0)
  · have hr : ratX a b A B = A := if_pos h
    rw [hr] at hz ⊢
    rw [if_neg (show ¬ 1 < b by omega)]
    cases minus with
    | true =>
      obtain ⟨p1, p2, p3⟩ := parE_neg hA.1 hA.2.1 (hz rfl) (by omega)
      show (if parE (45 :: A) = 0 then someI (intI (sgnB (45 :: A)) (dgV (sgnD (45 :: A)))) else none) = _
      rw [if_pos p1, p2, p3, hA.2.2]
      have e2 : intI true a = (-(a : Int), true) := by unfold intI; rw [if_pos rfl, if_pos (by omega)]
      rw [e2]; rfl
    | false =>
      obtain ⟨p1, p2, p3⟩ := val_pos hA lA
      show (if parE A = 0 then someI (intI (sgnB A) (dgV (sgnD A))) else none) = _
      rw [if_pos p1, p2, p3, hA.2.2]
      have e2 : intI false a = ((a : Int), true) := by unfold intI; rw [if_neg (fun g => by cases g), if_pos ha]
      rw [e2]; rfl
  · have hr : ratX a b A B = A ++ 47 :: B := if_neg h
    rw [hr, if_neg (parE_stroke A B hA.1 hA.pos minus)]
    rcases hc with g | g | g
    · exact absurd (.inl g) h
    · exact absurd (.inr g) h
    · rw [if_pos g.1]
/-- what the readers say -/
structure NumQ (a b : Nat) (minus : Bool) (t : Byts) (RA : RS × Byts) (RB : RS × Int) : Prop where
  bad : ¬ canX a b → RA.2 = [] ∧ RA.1.e = 3 ∧ RA.1.co = if minus = true then 2 else 1
  zero : canX a b → minus = true → t = [48] → RA.2 = [] ∧ RA.1.e = 3 ∧ RA.1.co = 2
  ok : canX a b → (minus = true → t ≠ [48]) → RA.2 = sgX minus t ∧ RA.1.e = 0
  far : canX a b → (minus = true → t ≠ [48]) → (1 < b ∨ 1000 < a) → RB.2 = 0 ∧ RB.1.e = 2 ∧ RB.1.co = 1
  near : canX a b → (minus = true → t ≠ [48]) → ¬ (1 < b ∨ 1000 < a) → RB.1.e = 0 ∧ RB.2 = if minus = true then -(a : Int) else a
theorem numbers_plain {a b : Nat} {A B : Byts} (hA : DecT a A) (hB : DecT b B) (lA : A.length ≤ 27) (lB : B.length ≤ 27) (ha : a < 9223372036854775808) (minus : Bool) :
    NumQ a b minus (ratX a b A B) (numR (newR (sgX minus (ratX a b A B)))) (intR (newR (sgX minus (ratX a b A B))) (-1000) 1000) := by
  have hn := ratX_num hA hB lA lB
  have hc := ratX_can hA hB
  have hp := ratX_pro hA hB lA lB ha minus
  have hne : ratX a b A B ≠ [] := fun e => by have := hn.first.1; rw [e] at this; cases this
  have hpos := sca_num hn
  have hneg := sca_neg hn
  generalize ratX a b A B = t at *
  cases minus with
  | false =>
    have hs : sgX false t = t := rfl
    rw [hs] at hp ⊢
    refine ⟨fun g => ?_, (fun _ g _ => by cases g), fun g _ => ?_, fun g hz h => ?_, fun g hz h => ?_⟩
    · have : newR t = ⟨[], 1, 1, 3⟩ := by unfold newR; rw [hpos, if_neg (fun e => g (hc.1 e))]
      rw [this, numR_bad (by decide)]
      exact ⟨rfl, rfl, rfl⟩
    all_goals
      have hnw : newR t = ⟨[(2, t, 1, 1), (5, [], 1, 1 + t.length)], 0, 0, 0⟩ := by unfold newR; rw [hpos, if_pos (hc.2 g)]
    · rw [hnw, numR_pos hne]; exact ⟨rfl, rfl⟩
    · rw [hnw, intR_pos hne, hp g hz]
      by_cases hb : 1 < b
      · rw [if_pos hb]; exact ⟨rfl, rfl, rfl⟩
      · rw [if_neg hb]
        dsimp only
        rw [show (if false = true then -(a : Int) else (a : Int)) = a from rfl, if_pos (.inr (by omega))]; exact ⟨rfl, rfl, rfl⟩
    · rw [hnw, intR_pos hne, hp g hz, if_neg (by omega)]
      dsimp only
      rw [show (if false = true then -(a : Int) else (a : Int)) = a from rfl, if_neg (by omega)]; exact ⟨rfl, rfl⟩
  | true =>
    have hs : sgX true t = 45 :: t := rfl
    rw [hs] at hp ⊢
    refine ⟨fun g => ?_, fun g _ hz => ?_, fun g hz => ?_, fun g hz h => ?_, fun g hz h => ?_⟩
    · have : newR (45 :: t) = ⟨[], 1, 2, 3⟩ := by unfold newR; rw [hneg, if_neg (fun e => g (hc.1 e))]
      rw [this, numR_bad (by decide)]
      exact ⟨rfl, rfl, rfl⟩
    all_goals
      have hnw : newR (45 :: t) = ⟨[(4, [45], 1, 1), (2, t, 1, 2), (5, [], 1, 2 + t.length)], 0, 0, 0⟩ := by unfold newR; rw [hneg, if_pos (hc.2 g)]
    · rw [hnw, numR_neg hne, if_pos hz]; exact ⟨rfl, rfl, rfl⟩
    · rw [hnw, numR_neg hne, if_neg (hz rfl)]; exact ⟨rfl, rfl⟩
    · rw [hnw, intR_neg hne (hz rfl), hp g hz]
      by_cases hb : 1 < b
      · rw [if_pos hb]; exact ⟨rfl, rfl, rfl⟩
      · rw [if_neg hb]
        dsimp only
        rw [if_pos rfl, if_pos (.inl (by omega))]; exact ⟨rfl, rfl, rfl⟩
    · rw [hnw, intR_neg hne (hz rfl), hp g hz, if_neg (by omega)]
      dsimp only
      rw [if_pos rfl, if_neg (by omega)]; exact ⟨rfl, rfl⟩
end Go.Proofs.YtoholjdojdmbkaaGreatDoor
