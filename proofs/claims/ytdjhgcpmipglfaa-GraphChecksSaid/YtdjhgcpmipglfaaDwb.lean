/- A layer over the wp of loaded Go code: slices as lists, and the laws by which WP's demands are met. No condition. -/
import Derived.Test.YtdjhgcpmipglfaaTt
namespace Go.Dw
open Go Go.RowKit

/-! ### Chunks are dropped, exchanged, joined -/
def pick (s : List Ch) : List Nat → Option (List Ch)
  | [] => some []
  | i :: r => match sget s i, pick s r with | some c, some cs => some (c :: cs) | _, _ => none
theorem pick_get : ∀ {s : List Ch} {is : List Nat} {s' : List Ch}, pick s is = some s' → ∀ k c, sget s' k = some c → ∃ i, is[k]? = some i ∧ sget s i = some c
  | s, [], s', h, k, c, hc => by simp [pick] at h; subst h; cases hc
  | s, i :: r, s', h, k, c, hc => by
    simp only [pick] at h
    cases h1 : sget s i with
    | none => simp [h1] at h
    | some d =>
      cases h2 : pick s r with
      | none => simp [h1, h2] at h
      | some cs =>
        simp only [h1, h2, Option.some.injEq] at h
        subst h
        cases k with
        | zero => simp [sget] at hc; subst hc; exact ⟨i, rfl, h1⟩
        | succ k => obtain ⟨j, h3, h4⟩ := pick_get h2 k c hc; exact ⟨j, by simpa using h3, h4⟩
def nodupN : List Nat → Bool
  | [] => true
  | i :: r => match r.all (fun j => !Nat.beq i j) with | true => nodupN r | false => false
theorem nodupN_spec : ∀ {l : List Nat}, nodupN l = true → ∀ j k i : Nat, l[j]? = some i → l[k]? = some i → j = k
  | [], _, j, k, i, h, _ => by simp at h
  | x :: r, h, j, k, i, h1, h2 => by
    simp only [nodupN] at h
    cases ha : r.all (fun j => !Nat.beq x j) with
    | false => simp [ha] at h
    | true =>
      simp only [ha] at h
      have ne : ∀ m : Nat, r[m]? = some x → False := fun m hm => by
        have := List.all_eq_true.1 ha x (List.mem_of_getElem? hm)
        simp at this
      match j, k, h1, h2 with
      | 0, 0, _, _ => rfl
      | 0, k + 1, h1, h2 => simp at h1; subst h1; exact (ne k (by simpa using h2)).elim
      | j + 1, 0, h1, h2 => simp at h2; subst h2; exact (ne j (by simpa using h1)).elim
      | j + 1, k + 1, h1, h2 => rw [nodupN_spec h j k i (by simpa using h1) (by simpa using h2)]
theorem Ok.pick {w0 w : World} {s s' : List Ch} (is : List Nat) (h : Dw.pick s is = some s') (hn : nodupN is = true) (hok : Ok w0 s w) : Ok w0 s' w := by
  refine ⟨hok.os, hok.tape, hok.output, hok.size, hok.drawn, fun k c hc => ?_, fun j k c d hjk h1 h2 => ?_⟩
  · obtain ⟨i, _, h2⟩ := pick_get h k c hc; exact hok.mem i c h2
  · obtain ⟨i, h3, h4⟩ := pick_get h j c h1
    obtain ⟨i', h5, h6⟩ := pick_get h k d h2
    refine hok.disj i i' c d (fun e => hjk ?_) h4 h6
    subst e; exact nodupN_spec hn j k i h3 h5
/-- chunks 1 and 2 of a list become one -/
theorem Ok.join {w0 w : World} {c d e : Ch} {s : List Ch} (hok : Ok w0 (c :: d :: e :: s) w) : Ok w0 (c :: .hp (d.h.join e.h) :: s) w := by
  have hde := hok.disj 1 2 d e (by omega) rfl rfl
  have jn : ∀ b, (d.h.join e.h) b ≠ none → d.h b ≠ none ∨ e.h b ≠ none := by
    intro b hb
    unfold Hp.join at hb
    cases h : d.h b with
    | some o => left; simp
    | none => right; simpa [h] using hb
  have out : ∀ x : Ch, x.h.dj d.h → x.h.dj e.h → x.h.dj (d.h.join e.h) := by
    intro x h1 h2 b
    by_cases hx : x.h b = none
    · exact .inl hx
    · right
      have e1 := (h1 b).resolve_left hx
      have e2 := (h2 b).resolve_left hx
      simp [Hp.join, e1, e2]
  refine ⟨hok.os, hok.tape, hok.output, hok.size, hok.drawn, fun k x hx => ?_, fun j k x y hjk h1 h2 => ?_⟩
  · match k, hx with
    | 0, hx => exact hok.mem 0 x hx
    | 1, hx =>
      simp [sget] at hx; subst hx
      intro b o hb
      have hb : (match d.h b with | some o => some o | none => e.h b) = some o := hb
      cases hd : d.h b with
      | some o' => rw [hd] at hb; cases hb; exact hok.mem 1 d rfl b o hd
      | none => rw [hd] at hb; exact hok.mem 2 e rfl b o hb
    | k + 2, hx => exact hok.mem (k + 3) x hx
  · match j, k, h1, h2 with
    | 0, 0, _, _ => exact absurd rfl hjk
    | 1, 1, _, _ => exact absurd rfl hjk
    | 0, 1, h1, h2 =>
      simp [sget] at h1 h2; subst h1; subst h2
      exact out _ (hok.disj 0 1 _ _ (by omega) rfl rfl) (hok.disj 0 2 _ _ (by omega) rfl rfl)
    | 1, 0, h1, h2 =>
      simp [sget] at h1 h2; subst h1; subst h2
      exact (out _ (hok.disj 0 1 _ _ (by omega) rfl rfl) (hok.disj 0 2 _ _ (by omega) rfl rfl)).symm
    | 0, k + 2, h1, h2 => exact hok.disj 0 (k + 3) x y (by omega) h1 h2
    | j + 2, 0, h1, h2 => exact hok.disj (j + 3) 0 x y (by omega) h1 h2
    | 1, k + 2, h1, h2 =>
      simp [sget] at h1; subst h1
      exact (out _ (hok.disj (k + 3) 1 _ _ (by omega) h2 rfl) (hok.disj (k + 3) 2 _ _ (by omega) h2 rfl)).symm
    | j + 2, 1, h1, h2 =>
      simp [sget] at h2; subst h2
      exact out _ (hok.disj (j + 3) 1 _ _ (by omega) h1 rfl) (hok.disj (j + 3) 2 _ _ (by omega) h1 rfl)
    | j + 2, k + 2, h1, h2 => exact hok.disj (j + 3) (k + 3) x y (by omega) h1 h2
/-- an empty chunk at the end -/
theorem Ok.emp {w0 w : World} {s : List Ch} (hok : Ok w0 s w) : Ok w0 (s ++ [.hp Hp.emp]) w := by
  refine ⟨hok.os, hok.tape, hok.output, hok.size, hok.drawn, fun k c hc => ?_, fun j k c d hjk h1 h2 => ?_⟩
  · rw [sget_append] at hc
    split at hc
    · exact hok.mem k c hc
    · match hk : k - s.length, hc with
      | 0, hc => simp [sget] at hc; subst hc; exact Hp.emp_in w
  · rw [sget_append] at h1 h2
    split at h1 <;> split at h2
    · exact hok.disj j k c d hjk h1 h2
    · match hk : k - s.length, h2 with
      | 0, h2 => simp [sget] at h2; subst h2; exact fun b => .inr rfl
    · match hk : j - s.length, h1 with
      | 0, h1 => simp [sget] at h1; subst h1; exact fun b => .inl rfl
    · match hk : j - s.length, hk' : k - s.length, h1, h2 with
      | 0, 0, _, _ => omega

/-- what the slots hold now, and what they are to hold -/
def look (s : List Ch) (t : Tm) : Tm → List (Option Value)
  | [] => []
  | (i, _) :: r => (match aget t i with | some tv => tv.val s | none => none) :: look s t r
def want (s' : List Ch) : Tm → List (Option Value)
  | [] => []
  | (_, tv) :: r => tv.val s' :: want s' r
def allSome : List (Option Value) → Bool
  | [] => true
  | none :: _ => false
  | some _ :: r => allSome r
theorem look_spec {s : List Ch} {t : Tm} {s' : List Ch} : ∀ {t' : Tm}, look s t t' = want s' t' → allSome (want s' t') = true → ∀ i tv', aget t' i = some tv' → ∃ tv v, aget t i = some tv ∧ tv.val s = some v ∧ tv'.val s' = some v
  | [], _, _, i, tv', h => by cases h
  | (j, x) :: r, h1, h2, i, tv', h => by
    simp only [look, want, List.cons.injEq] at h1
    cases hx : x.val s' with
    | none => simp [want, hx, allSome] at h2
    | some v =>
      rw [aget_cons] at h
      split at h
      · rename_i e; subst e; cases h
        rw [hx] at h1
        cases ha : aget t j with
        | none => simp [ha] at h1
        | some tv => simp only [ha] at h1; exact ⟨tv, v, rfl, h1.1, hx⟩
      · exact look_spec h1.2 (by simpa [want, hx, allSome] using h2) i tv' h
theorem Ent.mk {t : Tm} {s : List Ch} {t' : Tm} {s' : List Ch} (hs : ∀ w0 w, Ok w0 s w → Ok w0 s' w) (h1 : look s t t' = want s' t') (h2 : allSome (want s' t') = true) : Ent t s t' s' := by
  intro n w0 w a hok hf
  refine ⟨hs w0 w hok, hf.1, hf.2.1, fun i tv' hi => ?_⟩
  obtain ⟨tv, v, h1, h2, h3⟩ := look_spec h1 h2 i tv' hi
  obtain ⟨v', h4, h5⟩ := hf.2.2 i tv h1
  rw [h2] at h4; cases h4
  exact ⟨v, h3, h5⟩

/-! ### Numbers -/
theorem nw {x : Int} {q : Int → Prop} (h1 : -9223372036854775808 ≤ x) (h2 : x ≤ 9223372036854775807) (hq : q x) : NeedW .i64 x q := by
  refine ⟨x, ?_, hq⟩
  rw [IntKind.wrap_i64]; omega

/-! ### Calls -/
theorem call {P : Program} {s : List Ch} {f : Nat} {args : List Value} {q : TV → List Ch → Prop} {R : Value → List Ch → Prop}
    (h : ∀ w, Mem s w → CallsE P f args.toArray w (Ret w R)) (k : ∀ v cs, R v cs → q (.v v) (s ++ cs)) : NeedF P s f args q := by
  refine ⟨fun w0 w hok => ⟨(h w hok.mem).1, (h w hok.mem).2.mono fun e w' he => ?_⟩⟩
  obtain ⟨v, cs, rfl, h1, h2⟩ := he
  exact ⟨v, s ++ cs, rfl, hok.call h1, Keep.app s cs, k v cs h2⟩

theorem callS {P : Program} {s : List Ch} {f : Nat} {args : List Value} {q : TV → List Ch → Prop} {R : Value → List Ch → Prop}
    (h : ∀ w, Mem s w → CallsE P f args.toArray w (Ret w R)) (k : ∀ v cs, R v cs → Sat (s ++ cs) → q (.v v) (s ++ cs)) : NeedF P s f args q := by
  refine ⟨fun w0 w hok => ⟨(h w hok.mem).1, (h w hok.mem).2.mono fun e w' he => ?_⟩⟩
  obtain ⟨v, cs, rfl, h1, h2⟩ := he
  exact ⟨v, s ++ cs, rfl, hok.call h1, Keep.app s cs, k v cs h2 ⟨w0, w', hok.call h1⟩⟩
theorem Sat.dj {s : List Ch} (h : Sat s) (i j : Nat) {c d : Ch} (hi : sget s i = some c) (hj : sget s j = some d) (hij : i ≠ j) : c.h.dj d.h := let ⟨_, _, hok⟩ := h; hok.disj i j c d hij hi hj

/-! ### Slices as lists -/
abbrev Enc (α : Type) := Hp → α → List Value → Prop
def encF {α : Type} (f : α → List Value) : Enc α := fun _ x cs => cs = f x
def fI (x : Int) : List Value := [.int .i64 x]
def fB (x : Bool) : List Value := [.bool x]
def fE (x : Int × Int) : List Value := [.int .i64 x.1, .int .i64 x.2]
structure Sl {α : Type} (R : Enc α) (sz : Nat) (h : Hp) (a : Option Addr) (n c : Nat) (L : List α) : Prop where
  len : n = L.length
  cap : n ≤ c
  cells : ∀ i (hi : i < L.length), ∃ b off cs, a = some ⟨b, off, none⟩ ∧ cs.length = sz ∧ R h L[i] cs ∧ ∀ j v, cs[j]? = some v → h.cell? ⟨b, off + i * sz + j, none⟩ = some v
/-- a slice of slices -/
def encS {α : Type} (R : Enc α) (sz : Nat) : Enc (List α) := fun h L cs => ∃ a n c, cs = [.slice a n c] ∧ Sl R sz h a n c L
def Mono {α : Type} (R : Enc α) : Prop := ∀ h k x cs, Hp.le h k → R h x cs → R k x cs
theorem encF_mono {α : Type} (f : α → List Value) : Mono (encF f) := fun _ _ _ _ _ h => h
theorem Sl.mono {α : Type} {R : Enc α} (hR : Mono R) {sz : Nat} {h k : Hp} {a : Option Addr} {n c : Nat} {L : List α} (hl : h.le k) (hs : Sl R sz h a n c L) : Sl R sz k a n c L :=
  ⟨hs.len, hs.cap, fun i hi => let ⟨b, off, cs, h1, h2, h3, h4⟩ := hs.cells i hi; ⟨b, off, cs, h1, h2, hR _ _ _ _ hl h3, fun j v hj => hl.cell (h4 j v hj)⟩⟩
theorem encS_mono {α : Type} {R : Enc α} (hR : Mono R) (sz : Nat) : Mono (encS R sz) := fun _ _ _ _ hl ⟨a, n, c, h1, h2⟩ => ⟨a, n, c, h1, h2.mono hR hl⟩
theorem Sl.nil {α : Type} (R : Enc α) (sz : Nat) (h : Hp) (a : Option Addr) (c : Nat) : Sl R sz h a 0 c [] := ⟨rfl, Nat.zero_le _, fun i hi => by cases hi⟩

/-- size of the elements of slice type T -/
def elsz (X : Ctx) (T : Nat) : Option (Nat × TI) := match tget X.tt T with
  | some ⟨.sl e, _, _, _⟩ => (match tget X.tt e with | some te => some (e, te) | none => none)
  | _ => none
theorem elsz_spec {X : Ctx} (hX : X.Good) {T e : Nat} {te : TI} (h : elsz X T = some (e, te)) : X.P.underlying T = some (.slice e) ∧ GoodT X.P e te := by
  unfold elsz at h
  split at h
  · rename_i e' _ _ _ hT
    split at h
    · rename_i te' hte
      simp only [Option.some.injEq, Prod.mk.injEq] at h
      obtain ⟨rfl, rfl⟩ := h
      exact ⟨(Good.und hX hT).2, Good.und hX hte⟩
    · cases h
  · cases h

section
variable {X : Ctx} {s : List Ch} {q : TV → Prop}

theorem run_indexAt {T e : Nat} {te : TI} (hX : X.Good) (hT : elsz X T = some (e, te)) {b off n c k : Nat} (hk : k < n) (w : World) :
    (Instr.indexAt T (.slice (some ⟨b, off, none⟩) n c) (.int .i64 k)).run X.P w = .ok (.pointer (some ⟨b, off + k * te.size, none⟩)) w := by
  obtain ⟨h1, h2⟩ := elsz_spec hX hT
  have hu : (underlying T).run X.P w = .ok (.slice e) w := by simp [underlying, h1]
  simp only [Instr.indexAt, asIntOf, Sem.run_bind, Sem.run_pure, Result.andThen_ok, hu]
  rw [if_pos ⟨Int.natCast_nonneg k, by omega⟩]
  simp [h2.size, Addr.add_mk]

theorem idx (hX : X.Good) {α : Type} {R : Enc α} {T e : Nat} {te : TI} (hT : elsz X T = some (e, te)) {h : Hp} {a : Option Addr} {n c : Nat} {L : List α} (hs : Sl R te.size h a n c L) {x : Int} (k : Nat) (hx : x = k) (hk : k < L.length)
    (hq : ∀ b o cs, cs.length = te.size → R h L[k] cs → (∀ j v, cs[j]? = some v → h.cell? ⟨b, o + j, none⟩ = some v) → q (.v (.pointer (some ⟨b, o, none⟩)))) :
    NeedQ X.P s (Instr.indexAt T (.slice a n c) (.int .i64 x)) q := by
  subst hx
  obtain ⟨b, off, cs, rfl, h2, h3, h4⟩ := hs.cells k hk
  exact ⟨_, fun w _ => run_indexAt hX hT (by rw [hs.len]; exact hk) w, hq b (off + k * te.size) cs h2 h3 h4⟩

theorem ld1 (hX : X.Good) {T : Nat} {i : Nat} {h : Hp} (hi : sget s i = some (.hp h)) {b o : Nat} {v : Value} (hc : h.cell? ⟨b, o, none⟩ = some v) (hT : (tget X.tt T).map TI.agg = some false) (hq : q (.v v)) :
    NeedQ X.P s (Instr.loadAt T (.pointer (some ⟨b, o, none⟩))) q := by
  refine ⟨v, fun w hm => ?_, hq⟩
  cases ht : tget X.tt T with
  | none => simp [ht] at hT
  | some ti =>
    have ha : ti.agg = false := by simpa [ht] using hT
    have := (hm i _ hi).cell hc
    simp [Instr.loadAt, Instr.sureAddr, loadVar, (Good.und hX ht).agg, ha, this]

theorem ldn (hX : X.Good) {T : Nat} {i : Nat} {h : Hp} (hi : sget s i = some (.hp h)) {b o : Nat} {cs : List Value} (hc : ∀ j v, cs[j]? = some v → h.cell? ⟨b, o + j, none⟩ = some v)
    (hT : (tget X.tt T).map (fun t => (t.agg, t.size)) = some (true, cs.length)) (hq : q (.v (.agg cs.toArray))) :
    NeedQ X.P s (Instr.loadAt T (.pointer (some ⟨b, o, none⟩))) q := by
  refine ⟨_, fun w hm => ?_, hq⟩
  cases ht : tget X.tt T with
  | none => simp [ht] at hT
  | some ti =>
    have ha : ti.agg = true ∧ ti.size = cs.length := by simpa [ht] using hT
    have := run_loadCells_list (P := X.P) w ⟨b, o, none⟩ cs (fun j v hj => by rw [Addr.add_mk]; exact (hm i _ hi).cell (hc j v hj))
    simp [Instr.loadAt, Instr.sureAddr, loadVar, (Good.und hX ht).agg, (Good.und hX ht).size, ha, this]
end
end Go.Dw
