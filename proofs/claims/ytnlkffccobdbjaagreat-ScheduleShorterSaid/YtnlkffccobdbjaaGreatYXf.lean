/- Contracts of the model of layer 50: head, tail. Their premises are their own. -/
import Derived.Test.YtnlkffccobdbjaaGreatYXe
import Derived.Test.YtnlkffccobdbjaaGreatYX6
namespace Go.Proofs.YtnlkffccobdbjaaGreat
open Go Go.RowKit Go.Dw
theorem inL_snoc {l : List Int} {x : Int} {j : Nat} : inL (l ++ [x]) j ↔ inL l j ∨ j = x.toNat := by
  unfold inL
  constructor
  · rintro ⟨y, hy, rfl⟩
    rcases List.mem_append.1 hy with hy | hy
    · exact .inl ⟨y, hy, rfl⟩
    · rw [List.mem_singleton.1 hy]; exact .inr rfl
  · rintro (⟨y, hy, e⟩ | rfl)
    · exact ⟨y, List.mem_append_left _ hy, e⟩
    · exact ⟨x, by simp, rfl⟩
theorem MaxOf.le {p : Nat → Prop} {v : Nat → Int} {m b : Int} (h : MaxOf p v m) (hb : 0 ≤ b) (hv : ∀ k, p k → v k ≤ b) : m ≤ b := by
  rcases h.a with e | ⟨k, hk, e⟩
  · omega
  · have := hv k hk; omega
theorem hd_rng {TT : List Tk} (hF : Fit TT) {i : Nat} (hi : i < TT.length) : 0 ≤ hdV TT i ∧ hdV TT i ≤ 25165824000 := by
  have := (head_bd hF).2 i hi
  unfold hdV
  omega
theorem tlv_rng {TT : List Tk} (hF : Fit TT) {i : Nat} (hi : i < TT.length) : 0 ≤ tlV TT i ∧ tlV TT i ≤ 25165824 := by
  have := tl_rng hF hi
  unfold tlV
  omega
section
variable {a a' : Option Addr} {n c n' c' : Nat} {TT : List Tk}
set_option maxRecDepth 10000 in
theorem head50_aux (hF : Fit TT) (hO : TT.length ≤ (ordF TT).length) (m : Nat) : ∀ (i : Nat) (w : World), rkV TT i < m → i < TT.length → Sl encT 4 (Hp.whole w) a n c TT →
    CallsE Tryz.prog 98 #[sv a n c a' n' c', .int .i64 i] w (RetV w (.int .i64 (hdV TT i))) := by
  induction m with
  | zero => intro i w h; omega
  | succ m ih =>
    intro i w hr hi hT
    have lT := hT.len
    obtain ⟨t, ht⟩ : ∃ t, t = TT[i] := ⟨_, rfl⟩
    have htm : t ∈ TT := by rw [ht]; exact List.getElem_mem hi
    have haf : afA TT i = t.af := by unfold afA; rw [tk_get hi, ← ht]
    have hal := hF.al t htm
    have hmx := head_max hO hi
    rw [haf] at hmx
    refine enter (X := cx 33) (cxg _) (args := [.agg #[.slice a n c, .slice a' n' c'], .int .i64 i]) [.tmp 4] Tryz.func98 rfl rfl rfl rfl rfl ?_
    intro b2
    refine idx (cxg _) (e := 64) rfl hT i rfl hi (fun b9 o9 cs hcs hR hcell1 => ?_)
    rw [← ht] at hR
    obtain ⟨a3, n3, c3, rfl, hs3⟩ := hR
    have l3 := hs3.len
    refine ld1 (cxg _) (i := 0) rfl (hcell1 3 _ rfl) rfl ?_
    refine NeedL.mk (Nat × Int) (fun g => [(2, .bx 1 0), (5, .v (.int .i64 g.2)), (13, .v (.slice a3 n3 c3)), (14, .v (.int .i64 n3)), (15, .v (.int .i64 g.1))]) (fun _ => [.hp (Hp.whole w), .box b2 [.slice a n c, .slice a' n' c'] 25])
      (fun g => g.1 ≤ n3 ∧ MaxOf (inL (t.af.take g.1)) (fun q => hdV TT q + duA TT q) g.2) (fun g => n3 - g.1) (0, 0) ⟨Nat.zero_le _, MaxOf.none (inL_nil)⟩ (Ent.mk (fun _ _ h => h) rfl rfl) ?_
    rintro ⟨q, g⟩ ⟨hq, hg⟩
    dsimp only at *
    refine bsplitd (fun h2 => ?_) (fun h2 => ?_)
    · have hqt : q < t.af.length := by omega
      obtain ⟨x, hx⟩ : ∃ x, x = t.af[q] := ⟨_, rfl⟩
      have hxm : x ∈ t.af := by rw [hx]; exact List.getElem_mem hqt
      have hxr := hF.ar t htm x hxm
      obtain ⟨v, rfl⟩ : ∃ v : Nat, x = v := ⟨x.toNat, by omega⟩
      have hv : v < TT.length := by omega
      have hrk := rk_lt hO hi (x := (v : Int)) (by rw [haf]; exact hxm)
      rw [Int.toNat_natCast] at hrk
      have hdv := hd_rng hF hv
      have hdd := hF.d hv
      have hg1 := hg.le (b := 30000000000) (by decide) fun k ⟨y, hy, e⟩ => by
        have hyr := hF.ar t htm y (List.mem_of_mem_take hy)
        have hkT : k < TT.length := by omega
        have := hd_rng hF hkT
        have := hF.d hkT
        omega
      have hg0 := hg.z
      obtain ⟨H, hH⟩ : ∃ H, H = hdV TT v := ⟨_, rfl⟩
      obtain ⟨u, hu⟩ : ∃ u, u = TT[v] := ⟨_, rfl⟩
      have hdu : duA TT v = u.du := by rw [du_get hv, hu]
      have hst : MaxOf (inL (t.af.take (q + 1))) (fun q => hdV TT q + duA TT q) (max g (H + u.du)) := by
        have := hg.add v
        rw [← hH, hdu] at this
        refine this.congr (fun k => ?_) fun _ _ => rfl
        rw [List.take_succ_eq_append_getElem hqt, inL_snoc, ← hx, Int.toNat_natCast]
      rw [← hH] at hdv
      rw [hdu] at hdd
      refine idx (cxg _) (e := 3) rfl hs3 q rfl hqt (fun b9 o9 cs hcs hR hcell3 => ?_)
      subst hR
      rw [← hx] at hcell3
      refine ld1 (cxg _) (i := 0) rfl (hcell3 0 _ rfl) rfl ?_
      refine NeedD.by_order (cxg _) (.take 0 <| .take 1 <| .take 2 <| .take 4 <| .take 5 <| .take 6 <| .take 7 <| .take 8 <| .take 9 <| .run 3 <| .take 10 <| .run 11 <| .take 12 <| .done) (by kernel_rfl) ?_
      refine idx (cxg _) (e := 64) rfl hT v rfl hv (fun b9 o9 cs hcs hR hcell4 => ?_)
      rw [← hu] at hR
      obtain ⟨a4, n4, c4, rfl, hs4⟩ := hR
      refine ld1 (cxg _) (i := 0) rfl (hcell4 1 _ rfl) rfl ?_
      refine callV (.int .i64 H) (fun w' hm => by rw [hH]; exact ih v w' (by omega) hv (hT.mono encT_mono (hm 0 _ rfl))) ?_
      refine ⟨(by repeat first | exact trivial | refine ⟨.inl rfl, ?_⟩ | refine ⟨.inr rfl, ?_⟩), ?_⟩
      refine nw (by omega) (by omega) ?_
      refine qMax ?_
      refine ⟨(by repeat first | exact trivial | refine ⟨.inl rfl, ?_⟩ | refine ⟨.inr rfl, ?_⟩), ?_⟩
      refine nw (by omega) (by omega) ?_
      exact ⟨(q + 1, max g (H + u.du)), ⟨by dsimp only; omega, hst⟩, by dsimp only; omega, Ent.mk (fun _ _ h => h) rfl rfl⟩
    · rw [List.take_of_length_le (by omega)] at hg
      exact ⟨[], ⟨by rw [hg.uniq hmx], rfl⟩, fun w' h => h.pick [0] rfl rfl⟩
theorem head50_spec (hF : Fit TT) (hO : TT.length ≤ (ordF TT).length) (i : Nat) (w : World) (hi : i < TT.length) (hT : Sl encT 4 (Hp.whole w) a n c TT) :
    CallsE Tryz.prog 98 #[sv a n c a' n' c', .int .i64 i] w (RetV w (.int .i64 (hdV TT i))) := head50_aux hF hO _ i w (Nat.lt_succ_self _) hi hT
theorem inL_iff {TT : List Tk} (hF : Fit TT) {k i : Nat} (hk : k < TT.length) : inL (afA TT k) i ↔ (i : Int) ∈ afA TT k := by
  constructor
  · rintro ⟨x, hx, e⟩
    have := hF.a hk x hx
    have e2 : x = (i : Int) := by omega
    rw [← e2]; exact hx
  · exact fun h => ⟨(i : Int), h, Int.toNat_natCast i⟩
set_option maxRecDepth 10000 in
theorem tail50_aux (hF : Fit TT) (hO : TT.length ≤ (ordF TT).length) (m : Nat) : ∀ (i : Nat) (w : World), TT.length - rkV TT i < m → i < TT.length → Sl encT 4 (Hp.whole w) a n c TT →
    CallsE Tryz.prog 53 #[sv a n c a' n' c', .int .i64 i] w (RetV w (.int .i64 (tlV TT i))) := by
  induction m with
  | zero => intro i w h; omega
  | succ m ih =>
    intro i w hr hi hT
    have lT := hT.len
    have hFn := hF.n
    have hmx := tail_max hF hO hi
    refine enter (X := cx 34) (cxg _) (args := [.agg #[.slice a n c, .slice a' n' c'], .int .i64 i]) [.tmp 4] Tryz.func53 rfl rfl rfl rfl rfl ?_
    intro b2
    refine NeedL.mk (Nat × Int) (fun g => [(1, .v (.int .i64 i)), (2, .bx 1 0), (5, .v (.int .i64 g.2)), (9, .v (.slice a n c)), (10, .v (.int .i64 n)), (11, .v (.int .i64 g.1))]) (fun _ => [.hp (Hp.whole w), .box b2 [.slice a n c, .slice a' n' c'] 25])
      (fun g => g.1 ≤ n ∧ MaxOf (fun k => k < g.1 ∧ inL (afA TT k) i) (tlV TT) g.2) (fun g => n - g.1) (0, 0) ⟨Nat.zero_le _, MaxOf.none fun k h => Nat.not_lt_zero _ h.1⟩ (Ent.mk (fun _ _ h => h) rfl rfl) ?_
    rintro ⟨q, g⟩ ⟨hq, hg⟩
    dsimp only at *
    have hg0 := hg.z
    have hg1 := hg.le (b := 25165824) (by decide) fun k hk => (tlv_rng hF (by omega)).2
    refine bsplitd (fun h2 => ?_) (fun h2 => ?_)
    · have hqT : q < TT.length := by omega
      obtain ⟨u, hu⟩ : ∃ u, u = TT[q] := ⟨_, rfl⟩
      have hum : u ∈ TT := by rw [hu]; exact List.getElem_mem hqT
      have hal := hF.al u hum
      have haf : afA TT q = u.af := by unfold afA; rw [tk_get hqT, ← hu]
      have hin := inL_iff (i := i) hF hqT
      refine idx (cxg _) (e := 64) rfl hT q rfl hqT (fun b9 o9 cs hcs hR hcell2 => ?_)
      rw [← hu] at hR
      obtain ⟨a3, n3, c3, rfl, hs3⟩ := hR
      have l3 := hs3.len
      refine ldn (cxg _) (i := 0) rfl hcell2 rfl ?_
      intro b7
      refine callV _ (fun w' hm => containsInts_spec (i : Int) w' (hs3.mono (encF_mono _) (hm 0 _ rfl)) (by omega)) ?_
      refine bsplitd (fun h3 => ?_) (fun h3 => ?_)
      · have hil : inL (afA TT q) i := hin.2 (by rw [haf]; exact h3)
        obtain ⟨H, hH⟩ : ∃ H, H = tlV TT q := ⟨_, rfl⟩
        have hrk := rk_lt hO hqT (x := (i : Int)) (by rw [haf]; exact h3)
        rw [Int.toNat_natCast] at hrk
        have hrb := rk_bd hO hqT
        have hst : MaxOf (fun k => k < q + 1 ∧ inL (afA TT k) i) (tlV TT) (max g H) := by
          have := hg.add q
          rw [← hH] at this
          refine this.congr (fun k => ?_) fun _ _ => rfl
          constructor
          · rintro (h | rfl)
            · exact ⟨by omega, h.2⟩
            · exact ⟨by omega, hil⟩
          · rintro ⟨h, h'⟩
            by_cases hk : k = q
            · exact .inr hk
            · exact .inl ⟨by omega, h'⟩
        refine callV (.int .i64 H) (fun w' hm => by rw [hH]; exact ih q w' (by omega) hqT (hT.mono encT_mono (hm 0 _ rfl))) ?_
        refine qMax ?_
        refine nw (by omega) (by omega) ?_
        exact ⟨(q + 1, max g H), ⟨by dsimp only; omega, hst⟩, by dsimp only; omega, Ent.mk (fun _ _ h => h.pick [0, 1] rfl rfl) rfl rfl⟩
      · have hil : ¬ inL (afA TT q) i := fun h => h3 (by rw [← haf]; exact hin.1 h)
        refine nw (by omega) (by omega) ?_
        refine ⟨(q + 1, g), ⟨by dsimp only; omega, ?_⟩, by dsimp only; omega, Ent.mk (fun _ _ h => h.pick [0, 1] rfl rfl) rfl rfl⟩
        refine hg.congr (fun k => ?_) fun _ _ => rfl
        dsimp only
        constructor
        · exact fun h => ⟨by omega, h.2⟩
        · rintro ⟨h, h'⟩
          by_cases hk : k = q
          · rw [hk] at h'; exact absurd h' hil
          · exact ⟨by omega, h'⟩
    · obtain rfl : q = TT.length := by omega
      obtain ⟨t, ht⟩ : ∃ t, t = TT[i] := ⟨_, rfl⟩
      have hdu : duA TT i = t.du := by rw [du_get hi, ht]
      have hd := hF.d hi
      have e := hg.uniq hmx
      rw [hdu] at e hd
      refine idx (cxg _) (e := 64) rfl hT i rfl hi (fun b9 o9 cs hcs hR hcell4 => ?_)
      rw [← ht] at hR
      obtain ⟨a3, n3, c3, rfl, hs3⟩ := hR
      refine ld1 (cxg _) (i := 0) rfl (hcell4 1 _ rfl) rfl ?_
      refine nw (by omega) (by omega) ?_
      exact ⟨[], ⟨by rw [show t.du + g = tlV TT i by omega], rfl⟩, fun w' h => h.pick [0] rfl rfl⟩
theorem tail50_spec (hF : Fit TT) (hO : TT.length ≤ (ordF TT).length) (i : Nat) (w : World) (hi : i < TT.length) (hT : Sl encT 4 (Hp.whole w) a n c TT) :
    CallsE Tryz.prog 53 #[sv a n c a' n' c', .int .i64 i] w (RetV w (.int .i64 (tlV TT i))) := tail50_aux hF hO _ i w (Nat.lt_succ_self _) hi hT
end
end Go.Proofs.YtnlkffccobdbjaaGreat
