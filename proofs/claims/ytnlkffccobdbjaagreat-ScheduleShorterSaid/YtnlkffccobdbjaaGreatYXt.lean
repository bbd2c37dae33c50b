/- Contract of slices.Delete for ints. Its premises are its own. -/
import Derived.Test.YtnlkffccobdbjaaGreatXN
namespace Go.Dw
open Go Go.RowKit
section
variable {X : Ctx} {s : List Ch}
/-- append(s[:k], src...) into a list that has room: in place, what is behind stays -/
theorem appIn {α : Type} {f : α → List Value} (hX : X.Good) {T e ty : Nat} {te : TI} (hT : elsz X T = some (e, te)) (hf : ∀ x, (f x).length = te.size) (hone : ∀ x, allOne (f x) = true) {i : Nat} {o : Os} (hi : sget s i = some (.hp o.h)) {L : List α}
    (ho : OwnO f e te.size o L) {b : Nat} (hb : o.a = some ⟨b, 0, none⟩) (h0 : 0 < L.length) {k : Nat} {ad : Addr} {n c : Nat} {L' : List α} {kk : Nat} {h' : Hp} (hk : sget s kk = some (.hp h')) (hs : Sl (encF f) te.size h' (some ad) n c L') (hfit : k + n ≤ L.length) {q : TV → List Ch → Prop}
    (hq : ∀ h2, OwnO f e te.size ⟨o.a, o.n, o.c, h2⟩ (L.take k ++ L' ++ L.drop (k + n)) → q (.v (.slice o.a (k + n) o.c)) (sset s i (.hp h2))) :
    NeedA X.P s #[T, T] ty (.slice o.a k o.c) (.v (.slice (some ad) n c)) q := by
  obtain ⟨hu, hg⟩ := elsz_spec hX hT
  obtain ⟨⟨inf, hinf, hs1, hs2, z, hz, hzc, hzl⟩, _⟩ := hg
  have hn := ho.len
  have hln := hs.len
  refine ⟨.slice (some ad) n c, rfl, ⟨fun w0 w hok => ?_⟩⟩
  rcases hs.src hf (hok.mem kk _ hk) with ⟨c'', e1, _⟩ | ⟨ad', c', e1, hcells⟩
  · cases e1
  cases e1
  rcases ho.2.2 with ⟨g0, g1⟩ | ⟨b', arr, h1, h2, h3, h4, h5, h6⟩
  · omega
  rw [hb] at h1; cases h1
  have hblk := hok.mem i _ hi b _ h2
  have hnl : (L'.flatMap f).length = n * te.size := by rw [flatN hf, hln]
  have hmul : k * te.size + n * te.size = (k + n) * te.size := (Nat.add_mul _ _ _).symm
  have hle1 : (k + n) * te.size ≤ o.n * te.size := Nat.mul_le_mul_right _ (by omega)
  have hle2 : o.n * te.size ≤ o.c * te.size := Nat.mul_le_mul_right _ h3
  have hr := run_append_room (P := X.P) w T ty e inf hu hinf b k o.c arr hblk ad n c (L'.flatMap f) (by rw [hs1]; exact hnl) hcells (fun v hv => by
    obtain ⟨x, _, hx⟩ := List.mem_flatMap.1 hv
    exact allOne_sound (hone x) v hx) (by omega) (by rw [hs1, hnl]; omega)
  rw [hs1] at hr
  rw [hb] at hq ⊢
  refine ⟨.v _, _, _, _, hr, Own.row hok hi h2, Keep.set hi (fun b cs T e => by cases e), rfl, hq _ ⟨?_, ?_, .inr ⟨b, _, rfl, Hp.upd_self _ _ _, h3, h4, ?_, ?_⟩⟩⟩
  · simp only [List.length_append, List.length_take, List.length_drop]; omega
  · rw [flatN hf]; simp only [List.length_append, List.length_take, List.length_drop]; congr 1; omega
  · simp only [List.size_toArray, List.length_append, List.length_take, List.length_drop, Array.length_toList, hnl]; omega
  · simp only [hnl, hmul]
    have e1 : arr.toList.take (k * te.size) = (L.take k).flatMap f := by
      rw [← flat_take hf, ← h6, List.take_take, Nat.min_eq_left (by omega)]
    have e2 : (arr.toList.drop ((k + n) * te.size)).take (o.n * te.size - (k + n) * te.size) = (L.drop (k + n)).flatMap f := by
      rw [← flat_drop hf, ← h6, List.drop_take]
    have l1 : (arr.toList.take (k * te.size) ++ L'.flatMap f).length = (k + n) * te.size := by rw [e1, List.length_append, flatN hf, hnl, List.length_take, Nat.min_eq_left (by omega), hmul]
    rw [List.take_append, l1, List.take_of_length_le (by rw [l1]; exact hle1), e2, e1, List.flatMap_append, List.flatMap_append]
end
end Go.Dw
namespace Go.Dw
open Go Go.RowKit
section
variable {X : Ctx} {s : List Ch}
theorem qRemI {P : Program} {s : List Ch} {ty : Nat} {k : IntKind} {x y : Int} (hx : 0 ≤ x) (hy : 0 < y) {q : TV → Prop} (h : q (.v (.int k (x % y)))) : NeedQ P s (binOp .rem ty (.int k x) (.int k y)) q := by
  refine ⟨_, fun w _ => ?_, h⟩
  have h0 : ¬ y = 0 := by omega
  simp [binOp, Op.intDiv, h0, Int.tmod_eq_emod_of_nonneg hx]
/-- s[l:m:p] -/
theorem slq3 (hX : X.Good) {T e : Nat} {te : TI} (hT : elsz X T = some (e, te)) {a : Option Addr} {n c : Nat} (l m p : Nat) {i1 i2 i3 : IntKind} {x y z : Int} (hx : x = l) (hy : y = m) (hz : z = p) (hlm : l ≤ m) (hmp : m ≤ p) (hpc : p ≤ c) {q : TV → Prop}
    (hq : ∀ a', q (.v (.slice a' (m - l) (p - l)))) : NeedQ X.P s (Instr.sliceAt T (.slice a n c) (some (.int i1 x)) (some (.int i2 y)) (some (.int i3 z))) q := by
  subst hx hy hz
  obtain ⟨hu, hg⟩ := elsz_spec hX hT
  obtain ⟨⟨inf, hinf, hs1, hs2, z, hz, hzc, hzl⟩, _⟩ := hg
  refine ⟨_, fun w _ => ?_, hq (if p = l then a else a.map (·.add (l * te.size)))⟩
  simp [Instr.sliceAt, Instr.slice, run_underlying hu, Instr.sliceBounds, run_sliceBound, sizeOf, typeInfo, hinf, hs1, hlm, hmp, hpc]
/-- s[k:m] of a slice that lies at the begin of its block -/
theorem slK (hX : X.Good) {T e : Nat} {te : TI} (hT : elsz X T = some (e, te)) {a : Option Addr} {b n c : Nat} (hb : a = some ⟨b, 0, none⟩) (k m : Nat) {i1 i2 : IntKind} {x y : Int} (hx : x = k) (hy : y = m) (hkm : k ≤ m) (hmc : m ≤ c) (hkc : k < c) {q : TV → Prop}
    (hq : q (.v (.slice (some ⟨b, 0 + k * te.size, none⟩) (m - k) (c - k)))) : NeedQ X.P s (Instr.sliceAt T (.slice a n c) (some (.int i1 x)) (some (.int i2 y)) none) q := by
  subst hb
  refine slq hX hT k m (.inr ⟨_, _, rfl, hx⟩) (.inr ⟨_, _, rfl, hy⟩) hkm hmc ?_
  rw [if_neg (by omega)]
  simpa [Addr.add_mk] using hq
end
end Go.Dw
namespace Go.Proofs.YtnlkffccobdbjaaGreat
open Go Go.RowKit Go.Dw
set_option maxRecDepth 10000 in
theorem deleteInts_spec {o : Dw.Os} {L : List Int} (i : Nat) (w : World) (hin : o.h.In w) (ho : OwnO fI 3 1 o L) (hi : i < L.length) (hn : L.length < 1000000) :
    CallsE Tryz.prog 72 #[o.v, .int .i64 i, .int .i64 ((i + 1 : Nat) : Int)] w (RetM w o.h fun v h' cs => v = .slice o.a (o.n - 1) o.c ∧ cs = [] ∧ OwnO fI 3 1 ⟨o.a, o.n - 1, o.c, h'⟩ (L.eraseIdx i)) := by
  have ln := ho.len
  have hcap : o.n ≤ o.c := Own.cap ho.2
  obtain ⟨b, hb⟩ : ∃ b, o.a = some ⟨b, 0, none⟩ := by
    rcases ho.2.2 with ⟨g0, _⟩ | ⟨b, _, g1, _⟩
    · omega
    · exact ⟨b, g1⟩
  have sO := OwnO.sl (f := fI) (fun _ => rfl) (by decide) ho
  obtain ⟨oa, on, oc, oh⟩ := o
  dsimp only at *
  subst hb
  obtain ⟨ad, had, hsl⟩ : ∃ ad, (if oc = i + 1 then some (⟨b, 0, none⟩ : Addr) else (some (⟨b, 0, none⟩ : Addr)).map (·.add ((i + 1) * 1))) = some ad ∧ Sl (encF fI) 1 oh (some ad) (on - (i + 1)) (oc - (i + 1)) (L.drop (i + 1)) := by
    by_cases hc : oc = i + 1
    · rw [if_pos hc]
      have hd : L.drop (i + 1) = [] := List.drop_eq_nil_of_le (by omega)
      exact ⟨_, rfl, by rw [hd]; simp; omega, by omega, fun k hk => by rw [hd] at hk; cases hk⟩
    · rw [if_neg hc]
      exact ⟨_, rfl, sO.drop (i + 1) (by omega)⟩
  refine enterM (X := cx 33) (cxg _) (args := [.slice (some ⟨b, 0, none⟩) on oc, .int .i64 i, .int .i64 ((i + 1 : Nat) : Int)]) hin [.tmp 6] Tryz.func72 rfl rfl rfl rfl rfl ?_
  refine slq3 (cxg _) (e := 3) rfl i (i + 1) on rfl rfl rfl (by omega) (by omega) (by omega) (fun _ => ?_)
  refine bsplitd (fun h1 => absurd h1 (by omega)) (fun _ => ?_)
  refine NeedD.by_order0 (cxg _) (.take 0 <| .take 1 <| .take 2 <| .take 3 <| .take 4 <| .take 5 <| .run 6 <| .run 7 <| .done) (by kernel_rfl) (subL_blank _ 1) ?_
  refine slT (cxg _) (e := 3) rfl i rfl (by omega) ?_
  refine slq (cxg _) (e := 3) rfl (i + 1) on (.inr ⟨_, _, rfl, rfl⟩) (.inl ⟨rfl, rfl⟩) (by omega) (by omega) ?_
  rw [had]
  refine appIn (o := ⟨some ⟨b, 0, none⟩, on, oc, oh⟩) (cxg _) (e := 3) rfl (fun _ => rfl) (fun _ => rfl) (i := 1) rfl ho rfl (by omega) (kk := 1) rfl hsl (by omega) fun h2 ho2 => ?_
  refine ⟨(by repeat first | exact trivial | refine ⟨.inl rfl, ?_⟩ | refine ⟨.inr rfl, ?_⟩), ?_⟩
  refine slK (cxg _) (e := 3) rfl (b := b) rfl (on - 1) on (by omega) rfl (by omega) (by dsimp only; omega) (by dsimp only; omega) ?_
  refine clrO (o := ⟨some ⟨b, 0, none⟩, on, oc, h2⟩) (cxg _) (e := 3) rfl (fun _ => rfl) (i := 1) rfl rfl ho2 (k := on - 1) (by have := ho2.len; dsimp only at this; omega) rfl fun h3 ho3 => ?_
  have e1 : (L.take i ++ L.drop (i + 1) ++ L.drop (i + (on - (i + 1)))).take (on - 1) = L.eraseIdx i := by
    rw [List.eraseIdx_eq_take_drop_succ, List.take_append_of_le_length (by simp; omega), List.take_of_length_le (by simp; omega)]
  rw [e1] at ho3
  refine ⟨h3, [], ⟨?_, rfl, ho3⟩, fun w' h => h⟩
  rw [show i + (on - (i + 1)) = on - 1 by omega]
end Go.Proofs.YtnlkffccobdbjaaGreat
