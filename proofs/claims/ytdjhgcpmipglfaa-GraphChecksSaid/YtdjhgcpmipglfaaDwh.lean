/- A layer over the wp of loaded Go code: a chunk in two parts; rows that the call itself owns. No condition. -/
import Derived.Test.YtdjhgcpmipglfaaDwg
namespace Go.Dw
open Go Go.RowKit

theorem Hp.dj_le {h k h' : Hp} (d : h.dj k) (l : h'.le h) : h'.dj k := fun b => by
  rcases d b with e | e
  · left
    cases hb : h' b with
    | none => rfl
    | some o => rw [l b o hb] at e; cases e
  · exact .inr e
theorem Hp.dj_join {h d e : Hp} (h1 : h.dj d) (h2 : h.dj e) : h.dj (d.join e) := fun b => by
  by_cases hx : h b = none
  · exact .inl hx
  · right
    have e1 := (h1 b).resolve_left hx
    have e2 := (h2 b).resolve_left hx
    simp [Hp.join, e1, e2]
theorem sget_put {s : List Ch} {i : Nat} {c c0 : Ch} (hi : sget s i = some c0) (k : Nat) : sget (sset s i c) k = if k = i then some c else sget s k := by
  rw [sget_eq] at hi
  rw [sget_eq, sget_eq, sset_eq, List.getElem?_set]
  have := (List.getElem?_eq_some_iff.1 hi).1
  by_cases h : k = i
  · subst h; simp [this]
  · simp [h, Ne.symm h]
theorem sset_len (s : List Ch) (i : Nat) (c : Ch) : (sset s i c).length = s.length := by rw [sset_eq]; simp
theorem Ok.part {w0 w : World} {s : List Ch} {i : Nat} {H d e : Hp} (hok : Ok w0 s w) (hi : sget s i = some (.hp H)) (hd : d.le H) (he : e.le H) (hdj : d.dj e) : Ok w0 (sset s i (.hp d) ++ [.hp e]) w := by
  have hlt : i < s.length := by rw [sget_eq] at hi; exact (List.getElem?_eq_some_iff.1 hi).1
  have get : ∀ k c, sget (sset s i (.hp d) ++ [.hp e]) k = some c → (k < s.length ∧ k ≠ i ∧ sget s k = some c) ∨ (k = i ∧ c = .hp d) ∨ (k = s.length ∧ c = .hp e) := fun k c hc => by
    rw [sget_append, sset_len] at hc
    split at hc
    · rename_i hk
      rw [sget_put hi] at hc
      split at hc
      · rename_i e; cases hc; exact .inr (.inl ⟨e, rfl⟩)
      · rename_i e; exact .inl ⟨hk, e, hc⟩
    · match hk : k - s.length, hc with
      | 0, hc => simp [sget] at hc; exact .inr (.inr ⟨by omega, hc.symm⟩)
  refine ⟨hok.os, hok.tape, hok.output, hok.size, hok.drawn, fun k c hc => ?_, fun j k c c' hjk h1 h2 => ?_⟩
  · rcases get k c hc with ⟨_, _, h⟩ | ⟨_, rfl⟩ | ⟨_, rfl⟩
    · exact hok.mem k c h
    · exact (hok.mem i _ hi).le hd
    · exact (hok.mem i _ hi).le he
  · rcases get j c h1 with ⟨_, hj, g1⟩ | ⟨rfl, rfl⟩ | ⟨rfl, rfl⟩ <;> rcases get k c' h2 with ⟨_, hk, g2⟩ | ⟨rfl, rfl⟩ | ⟨rfl, rfl⟩
    · exact hok.disj j k c c' hjk g1 g2
    · exact (Hp.dj_le (hok.disj _ _ _ _ (Ne.symm hj) hi g1) hd).symm
    · exact (Hp.dj_le (hok.disj _ _ _ _ (Ne.symm hj) hi g1) he).symm
    · exact Hp.dj_le (hok.disj _ _ _ _ (Ne.symm hk) hi g2) hd
    · exact absurd rfl hjk
    · exact hdj
    · exact Hp.dj_le (hok.disj _ _ _ _ (Ne.symm hk) hi g2) he
    · exact hdj.symm
    · exact absurd rfl hjk
theorem Ok.unpart {w0 w : World} {s : List Ch} {i : Nat} {c0 : Ch} {d e : Hp} (hi : sget s i = some c0) (hok : Ok w0 (sset s i (.hp d) ++ [.hp e]) w) : Ok w0 (sset s i (.hp (d.join e))) w ∧ d.dj e := by
  have hlt : i < s.length := by rw [sget_eq] at hi; exact (List.getElem?_eq_some_iff.1 hi).1
  have gi : sget (sset s i (.hp d) ++ [.hp e]) i = some (.hp d) := by rw [sget_append, sset_len, if_pos hlt, sget_put hi, if_pos rfl]
  have ge : sget (sset s i (.hp d) ++ [.hp e]) s.length = some (.hp e) := by rw [sget_append, sset_len, if_neg (by omega), Nat.sub_self]; rfl
  have gk : ∀ k c, k ≠ i → sget s k = some c → sget (sset s i (.hp d) ++ [.hp e]) k = some c ∧ k ≠ s.length := fun k c hk hc => by
    have : k < s.length := by rw [sget_eq] at hc; exact (List.getElem?_eq_some_iff.1 hc).1
    exact ⟨by rw [sget_append, sset_len, if_pos this, sget_put hi, if_neg hk]; exact hc, by omega⟩
  refine ⟨⟨hok.os, hok.tape, hok.output, hok.size, hok.drawn, fun k c hc => ?_, fun j k c c' hjk h1 h2 => ?_⟩, hok.disj _ _ _ _ (by omega) gi ge⟩
  · rw [sget_put hi] at hc
    split at hc
    · cases hc
      intro b o hb
      have hb : (match d b with | some o => some o | none => e b) = some o := hb
      cases hd : d b with
      | some o' => rw [hd] at hb; cases hb; exact hok.mem i _ gi b o hd
      | none => rw [hd] at hb; exact hok.mem _ _ ge b o hb
    · rename_i hk; exact hok.mem k c (gk k c hk hc).1
  · rw [sget_put hi] at h1 h2
    split at h1 <;> split at h2
    · omega
    · rename_i hj hk
      cases h1
      have := gk k c' hk h2
      exact (Hp.dj_join (hok.disj _ _ _ _ hk this.1 gi) (hok.disj _ _ _ _ this.2 this.1 ge)).symm
    · rename_i hj hk
      cases h2
      have := gk j c hj h1
      exact Hp.dj_join (hok.disj _ _ _ _ hj this.1 gi) (hok.disj _ _ _ _ this.2 this.1 ge)
    · rename_i hj hk
      exact hok.disj _ _ _ _ hjk (gk j c hj h1).1 (gk k c' hk h2).1
/-- an operation that needs one part of chunk i alone -/
theorem NeedE.part {P : Program} {s : List Ch} {i : Nat} {H d e : Hp} {E : Sem Value} {q : TV → List Ch → Prop} (hi : sget s i = some (.hp H)) (hd : d.le H) (he : e.le H) (hdj : d.dj e)
    (h : NeedE P (sset s i (.hp d) ++ [.hp e]) E fun tv s' => ∃ v d', tv = .v v ∧ s' = sset s i (.hp d') ++ [.hp e] ∧ (d'.dj e → q (.v v) (sset s i (.hp (d'.join e))))) : NeedE P s E q := by
  obtain ⟨h⟩ := h
  refine ⟨fun w0 w hok => ?_⟩
  obtain ⟨tv, v, w', s', h1, h2, h3, h4, v', d', rfl, rfl, h5⟩ := h w0 w (hok.part hi hd he hdj)
  have := h2.unpart hi
  exact ⟨.v v', v, w', _, h1, this.1, Keep.set hi (fun b cs T e => by cases e), h4, h5 this.2⟩

/-! ### Rows that the call owns -/
structure Rws {α : Type} (f : α → List Value) (T sz : Nat) (H : Hp) (os : List Os) (LL : List (List α)) : Prop where
  len : os.length = LL.length
  own : ∀ (i : Nat) (o : Os) (L : List α), os[i]? = some o → LL[i]? = some L → OwnO f T sz o L ∧ o.h.le H
  dj : ∀ (i j : Nat) (o o' : Os), i ≠ j → os[i]? = some o → os[j]? = some o' → o.h.dj o'.h
theorem Rws.init {α : Type} (f : α → List Value) (T sz : Nat) (H : Hp) (n : Nat) : Rws f T sz H (List.replicate n Os.nil) (List.replicate n []) := by
  refine ⟨by simp, fun i o L h1 h2 => ?_, fun i j o o' _ h1 h2 => ?_⟩
  · rw [List.getElem?_replicate] at h1 h2
    split at h1
    · cases h1
      rw [if_pos (by assumption)] at h2
      cases h2
      exact ⟨OwnO.nil _ _ _, fun b o h => by cases h⟩
    · cases h1
  · rw [List.getElem?_replicate] at h1
    split at h1
    · cases h1; exact fun b => .inl rfl
    · cases h1
def fV (v : Value) : List Value := [v]
def Os.row (o : Os) : List Value := [o.v]

section
variable {X : Ctx} {s : List Ch}
/-- append of one element to row k -/
theorem appR {α : Type} {f : α → List Value} (hX : X.Good) {T e ty : Nat} {te : TI} (hT : elsz X T = some (e, te)) {i : Nat} {H : Hp} (hi : sget s i = some (.hp H)) {os : List Os} {LL : List (List α)}
    (hr : Rws f e te.size H os LL) {k : Nat} (hk : k < LL.length) {y : Value} (hy : y = (os[k]'(by rw [hr.len]; exact hk)).v) {j b e' : Nat} (x : α) (hj : sget s j = some (.box b (f x) e')) (hf : (f x).length = te.size) (h1 : allOne (f x) = true)
    (hby : Nat.ble te.bytes 140 = true) (hn : LL[k].length < 1000000000000) {q : TV → List Ch → Prop}
    (hq : ∀ o' H', Rws f e te.size H' (os.set k o') (LL.set k (LL[k] ++ [x])) → q (.v o'.v) (sset s i (.hp H'))) :
    NeedA X.P s #[T, T] ty y (.bs j 1) q := by
  subst hy
  have hk' : k < os.length := by rw [hr.len]; exact hk
  have gk := List.getElem?_eq_getElem hk'
  have gl := List.getElem?_eq_getElem hk
  obtain ⟨ho, hle⟩ := hr.own k _ _ gk gl
  have hij : j ≠ i := fun e => by subst e; rw [hi] at hj; cases hj
  have hlt : j < s.length := by rw [sget_eq] at hj; exact (List.getElem?_eq_some_iff.1 hj).1
  have hlti : i < s.length := by rw [sget_eq] at hi; exact (List.getElem?_eq_some_iff.1 hi).1
  have hj2 : sget (sset s i (.hp os[k].h) ++ [.hp (H.minus os[k].h)]) j = some (.box b (f x) e') := by
    rw [sget_append, sset_len, if_pos hlt, sget_put hi, if_neg hij]; exact hj
  have hi2 : sget (sset s i (.hp os[k].h) ++ [.hp (H.minus os[k].h)]) i = some (.hp os[k].h) := by
    rw [sget_append, sset_len, if_pos hlti, sget_put hi, if_pos rfl]
  have step := appO hX hT (ty := ty) hi2 ho x hj2 hf h1 hby hn (q := fun tv s' => ∃ v d', tv = .v v ∧ s' = sset s i (.hp d') ++ [.hp (H.minus os[k].h)] ∧ (d'.dj (H.minus os[k].h) → q (.v v) (sset s i (.hp (d'.join (H.minus os[k].h)))))) ?_
  · obtain ⟨yv, hy, he⟩ := step
    refine ⟨yv, ?_, NeedE.part hi hle (Hp.minus_le _ _) (Hp.minus_dj _ _).symm he⟩
    simp only [TV.val, hj2] at hy
    simp only [TV.val, hj]
    exact hy
  · intro o' ho'
    refine ⟨o'.v, o'.h, rfl, ?_, fun hdj => hq o' _ ⟨?_, fun i' o L g1 g2 => ?_, fun i' j' o o2 hne g1 g2 => ?_⟩⟩
    · simp only [sset_eq]
      rw [List.set_append_left _ _ (by simpa using hlti), List.set_set]
    · simp [hr.len]
    · rw [List.getElem?_set] at g1 g2
      by_cases hki : k = i'
      · subst hki
        rw [if_pos rfl, if_pos (by assumption)] at g1 g2
        cases g1; cases g2
        exact ⟨ho', Hp.le_join_l _ _⟩
      · rw [if_neg hki] at g1 g2
        obtain ⟨h1, h2⟩ := hr.own i' o L g1 g2
        exact ⟨h1, fun b ob hb => Hp.le_join_r hdj b ob (Hp.le_minus h2 (hr.dj i' k _ _ (Ne.symm hki) g1 gk) b ob hb)⟩
    · rw [List.getElem?_set] at g1 g2
      have rest : ∀ i' o, k ≠ i' → os[i']? = some o → o.h.dj o'.h := fun i' o hki g => by
        have : o.h.le (H.minus os[k].h) := by
          have hl : i' < LL.length := by rw [← hr.len]; exact (List.getElem?_eq_some_iff.1 g).1
          exact Hp.le_minus (hr.own i' o _ g (List.getElem?_eq_getElem hl)).2 (hr.dj i' k _ _ (Ne.symm hki) g gk)
        exact Hp.dj_le hdj.symm this
      by_cases hki : k = i' <;> by_cases hkj : k = j'
      · omega
      · subst hki
        rw [if_pos rfl, if_pos hk'] at g1
        rw [if_neg hkj] at g2
        cases g1
        exact (rest j' o2 hkj g2).symm
      · subst hkj
        rw [if_pos rfl, if_pos hk'] at g2
        rw [if_neg hki] at g1
        cases g2
        exact rest i' o hki g1
      · rw [if_neg hki] at g1
        rw [if_neg hkj] at g2
        exact hr.dj i' j' o o2 hne g1 g2
end
/-- a row of a heaplet of its own is put in the place of another -/
theorem Rws.put {α : Type} {f : α → List Value} {T sz : Nat} {H : Hp} {os : List Os} {LL : List (List α)} (hr : Rws f T sz H os LL) {o : Os} {L : List α} (ho : OwnO f T sz o L) (hdj : H.dj o.h) (k : Nat) : Rws f T sz (H.join o.h) (os.set k o) (LL.set k L) := by
  refine ⟨by simp [hr.len], fun i oi Li g1 g2 => ?_, fun i j oi oj hne g1 g2 => ?_⟩
  · rw [List.getElem?_set] at g1 g2
    by_cases h : k = i
    · subst h
      rw [if_pos rfl] at g1 g2
      split at g1
      · rw [if_pos (by rw [← hr.len]; assumption)] at g2
        cases g1; cases g2
        exact ⟨ho, Hp.le_join_r hdj⟩
      · cases g1
    · rw [if_neg h] at g1 g2
      obtain ⟨h1, h2⟩ := hr.own i _ _ g1 g2
      exact ⟨h1, h2.trans (Hp.le_join_l _ _)⟩
  · rw [List.getElem?_set] at g1 g2
    have old : ∀ (i : Nat) (oi : Os), os[i]? = some oi → oi.h.le H := fun i oi g => by
      have : i < LL.length := by rw [← hr.len]; exact (List.getElem?_eq_some_iff.1 g).1
      exact (hr.own i oi _ g (List.getElem?_eq_getElem this)).2
    by_cases hi : k = i <;> by_cases hj : k = j
    · omega
    · rw [if_pos hi] at g1
      rw [if_neg hj] at g2
      split at g1
      · cases g1; exact (Hp.dj_le hdj (old _ _ g2)).symm
      · cases g1
    · rw [if_neg hi] at g1
      rw [if_pos hj] at g2
      split at g2
      · cases g2; exact Hp.dj_le hdj (old _ _ g1)
      · cases g2
    · rw [if_neg hi] at g1
      rw [if_neg hj] at g2
      exact hr.dj i j _ _ hne g1 g2
theorem Rws.nil {α : Type} (f : α → List Value) (T sz : Nat) (H : Hp) : Rws f T sz H [] [] := Rws.init f T sz H 0
/-- one more row -/
theorem Rws.push {α : Type} {f : α → List Value} {T sz : Nat} {H : Hp} {os : List Os} {LL : List (List α)} (hr : Rws f T sz H os LL) {o : Os} {L : List α} (ho : OwnO f T sz o L) (hdj : H.dj o.h) : Rws f T sz (H.join o.h) (os ++ [o]) (LL ++ [L]) := by
  have h1 : Rws f T sz H (os ++ [Os.nil]) (LL ++ [[]]) := by
    refine ⟨by simp [hr.len], fun i oi Li g1 g2 => ?_, fun i j oi oj hne g1 g2 => ?_⟩
    · rw [List.getElem?_append] at g1 g2
      by_cases h : i < os.length
      · rw [if_pos h] at g1
        rw [if_pos (by rw [← hr.len]; exact h)] at g2
        exact hr.own i _ _ g1 g2
      · rw [if_neg h] at g1
        rw [if_neg (by rw [← hr.len]; exact h)] at g2
        have hz : i - os.length = 0 := by have := (List.getElem?_eq_some_iff.1 g1).1; simp at this; omega
        rw [hz] at g1
        rw [← hr.len, hz] at g2
        cases g1; cases g2
        exact ⟨OwnO.nil _ _ _, fun b o h => by cases h⟩
    · rw [List.getElem?_append] at g1 g2
      have nl : ∀ i (oi : Os), ¬ i < os.length → [Os.nil][i - os.length]? = some oi → oi = Os.nil := fun i oi h g => by
        have hz : i - os.length = 0 := by have := (List.getElem?_eq_some_iff.1 g).1; simp at this; omega
        rw [hz] at g; cases g; rfl
      split at g1
      · split at g2
        · exact hr.dj i j _ _ hne g1 g2
        · rw [nl j oj (by assumption) g2]; exact fun b => .inr rfl
      · rw [nl i oi (by assumption) g1]; exact fun b => .inl rfl
  have h2 := h1.put ho hdj os.length
  rw [List.set_append_right _ _ (Nat.le_refl _), List.set_append_right _ _ (by rw [hr.len]; exact Nat.le_refl _)] at h2
  simpa [hr.len] using h2
/-- rows are read -/
theorem Rws.sl {α : Type} {f : α → List Value} {T sz T' : Nat} (hf : ∀ x, (f x).length = sz) (h0 : 0 < sz) {H : Hp} {os : List Os} {LL : List (List α)} (hr : Rws f T sz H os LL) {o : Os} (ho : OwnO Os.row T' 1 o os) (hdj : o.h.dj H) : Sl (encS (encF f) sz) 1 (o.h.join H) o.a o.n o.c LL := by
  have hs := OwnO.sl (f := Os.row) (fun _ => rfl) (by decide) ho
  refine ⟨by rw [hs.len, hr.len], hs.cap, fun i hi => ?_⟩
  have hi' : i < os.length := by rw [hr.len]; exact hi
  obtain ⟨b, off, cs, h1, h2, h3, h4⟩ := hs.cells i hi'
  obtain ⟨g1, g2⟩ := hr.own i _ _ (List.getElem?_eq_getElem hi') (List.getElem?_eq_getElem hi)
  refine ⟨b, off, cs, h1, h2, ⟨_, _, _, h3, ?_⟩, fun j v hj => (Hp.le_join_l _ _).cell (h4 j v hj)⟩
  exact (g1.sl hf h0).mono (encF_mono _) (g2.trans (Hp.le_join_r hdj))
/-- a region that draws ends in a state of our choice, whatever the order -/
theorem NeedD.cut {X : Ctx} {ops : List Oper} {Q : Tm → List Ch → Prop} {t : Tm} {s : List Ch} (G : Type) (I : G → Tm) (S : G → List Ch) (R : G → Prop)
    (h : NeedD X ops (fun t s => ∃ g, R g ∧ Ent t s (I g) (S g)) t s) (k : ∀ g, R g → Sat (S g) → Q (I g) (S g)) : NeedD X ops Q t s := by
  obtain ⟨h⟩ := h
  refine ⟨fun w0 w a Q' hok hf hQ hP => h w0 w a Q' hok hf (fun t s a w hok hf ⟨g, hR, he⟩ => ?_) hP⟩
  obtain ⟨hok', hf'⟩ := he _ w0 w a hok hf
  exact hQ _ _ a w hok' hf' (k g hR ⟨w0, w, hok'⟩)
end Go.Dw
