/- Parts of one proof, joined: Dwb, Dwc, Dwd, Dwe, Dwf, Dwg, Dwh, Dwi, Dwj, Dwk, Dwl. No condition of its own. -/
import Derived.Test.YtoholjdojdmbkaaGreatDoorYTt
import Derived.Lib.AppendZeros
namespace Go.Dw
open Go Go.RowKit

/-! ### Chunks are dropped, exchanged, joined -/
def pick (s : List Ch) : List Nat → Option (List Ch)
  | [] => some []
  | i :: r => match sget s i, pick s r with | some c, some cs => some (c :: cs) | _, _ => none
theorem pick_get : ∀ {s : List Ch} {is : List Nat} {s' : List Ch}, pick s is = some s' → ∀ k c, sget s' k = some c → ∃ i, is[k]? = some i ∧ sget s i = some c
  | s, [], s', h, k, c, hc => by simp [pick] at h; subst h; cases hc
  | s, i :: r, s', h, k, c, hc => by
    simp only [pick] at h
    cases h1 : sget s i with
    | none => simp [h1] at h
    | some d =>
      cases h2 : pick s r with
      | none => simp [h1, h2] at h
      | some cs =>
        simp only [h1, h2, Option.some.injEq] at h
        subst h
        cases k with
        | zero => simp [sget] at hc; subst hc; exact ⟨i, rfl, h1⟩
        | succ k => obtain ⟨j, h3, h4⟩ := pick_get h2 k c hc; exact ⟨j, by simpa using h3, h4⟩
def nodupN : List Nat → Bool
  | [] => true
  | i :: r => match r.all (fun j => !Nat.beq i j) with | true => nodupN r | false => false
theorem nodupN_spec : ∀ {l : List Nat}, nodupN l = true → ∀ j k i : Nat, l[j]? = some i → l[k]? = some i → j = k
  | [], _, j, k, i, h, _ => by simp at h
  | x :: r, h, j, k, i, h1, h2 => by
    simp only [nodupN] at h
    cases ha : r.all (fun j => !Nat.beq x j) with
    | false => simp [ha] at h
    | true =>
      simp only [ha] at h
      have ne : ∀ m : Nat, r[m]? = some x → False := fun m hm => by
        have := List.all_eq_true.1 ha x (List.mem_of_getElem? hm)
        simp at this
      match j, k, h1, h2 with
      | 0, 0, _, _ => rfl
      | 0, k + 1, h1, h2 => simp at h1; subst h1; exact (ne k (by simpa using h2)).elim
      | j + 1, 0, h1, h2 => simp at h2; subst h2; exact (ne j (by simpa using h1)).elim
      | j + 1, k + 1, h1, h2 => rw [nodupN_spec h j k i (by simpa using h1) (by simpa using h2)]
theorem Ok.pick {w0 w : World} {s s' : List Ch} (is : List Nat) (h : Dw.pick s is = some s') (hn : nodupN is = true) (hok : Ok w0 s w) : Ok w0 s' w := by
  refine ⟨hok.os, hok.tape, hok.output, hok.size, hok.drawn, fun k c hc => ?_, fun j k c d hjk h1 h2 => ?_⟩
  · obtain ⟨i, _, h2⟩ := pick_get h k c hc; exact hok.mem i c h2
  · obtain ⟨i, h3, h4⟩ := pick_get h j c h1
    obtain ⟨i', h5, h6⟩ := pick_get h k d h2
    refine hok.disj i i' c d (fun e => hjk ?_) h4 h6
    subst e; exact nodupN_spec hn j k i h3 h5
/-- chunks 1 and 2 of a list become one -/
theorem Ok.join {w0 w : World} {c d e : Ch} {s : List Ch} (hok : Ok w0 (c :: d :: e :: s) w) : Ok w0 (c :: .hp (d.h.join e.h) :: s) w := by
  have hde := hok.disj 1 2 d e (by omega) rfl rfl
  have jn : ∀ b, (d.h.join e.h) b ≠ none → d.h b ≠ none ∨ e.h b ≠ none := by
    intro b hb
    unfold Hp.join at hb
    cases h : d.h b with
    | some o => left; simp
    | none => right; simpa [h] using hb
  have out : ∀ x : Ch, x.h.dj d.h → x.h.dj e.h → x.h.dj (d.h.join e.h) := by
    intro x h1 h2 b
    by_cases hx : x.h b = none
    · exact .inl hx
    · right
      have e1 := (h1 b).resolve_left hx
      have e2 := (h2 b).resolve_left hx
      simp [Hp.join, e1, e2]
  refine ⟨hok.os, hok.tape, hok.output, hok.size, hok.drawn, fun k x hx => ?_, fun j k x y hjk h1 h2 => ?_⟩
  · match k, hx with
    | 0, hx => exact hok.mem 0 x hx
    | 1, hx =>
      simp [sget] at hx; subst hx
      intro b o hb
      have hb : (match d.h b with | some o => some o | none => e.h b) = some o := hb
      cases hd : d.h b with
      | some o' => rw [hd] at hb; cases hb; exact hok.mem 1 d rfl b o hd
      | none => rw [hd] at hb; exact hok.mem 2 e rfl b o hb
    | k + 2, hx => exact hok.mem (k + 3) x hx
  · match j, k, h1, h2 with
    | 0, 0, _, _ => exact absurd rfl hjk
    | 1, 1, _, _ => exact absurd rfl hjk
    | 0, 1, h1, h2 =>
      simp [sget] at h1 h2; subst h1; subst h2
      exact out _ (hok.disj 0 1 _ _ (by omega) rfl rfl) (hok.disj 0 2 _ _ (by omega) rfl rfl)
    | 1, 0, h1, h2 =>
      simp [sget] at h1 h2; subst h1; subst h2
      exact (out _ (hok.disj 0 1 _ _ (by omega) rfl rfl) (hok.disj 0 2 _ _ (by omega) rfl rfl)).symm
    | 0, k + 2, h1, h2 => exact hok.disj 0 (k + 3) x y (by omega) h1 h2
    | j + 2, 0, h1, h2 => exact hok.disj (j + 3) 0 x y (by omega) h1 h2
    | 1, k + 2, h1, h2 =>
      simp [sget] at h1; subst h1
      exact (out _ (hok.disj (k + 3) 1 _ _ (by omega) h2 rfl) (hok.disj (k + 3) 2 _ _ (by omega) h2 rfl)).symm
    | j + 2, 1, h1, h2 =>
      simp [sget] at h2; subst h2
      exact out _ (hok.disj (j + 3) 1 _ _ (by omega) h1 rfl) (hok.disj (j + 3) 2 _ _ (by omega) h1 rfl)
    | j + 2, k + 2, h1, h2 => exact hok.disj (j + 3) (k + 3) x y (by omega) h1 h2
/-- an empty chunk at the end -/
theorem Ok.emp {w0 w : World} {s : List Ch} (hok : Ok w0 s w) : Ok w0 (s ++ [.hp Hp.emp]) w := by
  refine ⟨hok.os, hok.tape, hok.output, hok.size, hok.drawn, fun k c hc => ?_, fun j k c d hjk h1 h2 => ?_⟩
  · rw [sget_append] at hc
    split at hc
    · exact hok.mem k c hc
    · match hk : k - s.length, hc with
      | 0, hc => simp [sget] at hc; subst hc; exact Hp.emp_in w
  · rw [sget_append] at h1 h2
    split at h1 <;> split at h2
    · exact hok.disj j k c d hjk h1 h2
    · match hk : k - s.length, h2 with
      | 0, h2 => simp [sget] at h2; subst h2; exact fun b => .inr rfl
    · match hk : j - s.length, h1 with
      | 0, h1 => simp [sget] at h1; subst h1; exact fun b => .inl rfl
    · match hk : j - s.length, hk' : k - s.length, h1, h2 with
      | 0, 0, _, _ => omega

/-- what the slots hold now, and what they are to hold -/
def look (s : List Ch) (t : Tm) : Tm → List (Option Value)
  | [] => []
  | (i, _) :: r => (match aget t i with | some tv => tv.val s | none => none) :: look s t r
def want (s' : List Ch) : Tm → List (Option Value)
  | [] => []
  | (_, tv) :: r => tv.val s' :: want s' r
def allSome : List (Option Value) → Bool
  | [] => true
  | none :: _ => false
  | some _ :: r => allSome r
theorem look_spec {s : List Ch} {t : Tm} {s' : List Ch} : ∀ {t' : Tm}, look s t t' = want s' t' → allSome (want s' t') = true → ∀ i tv', aget t' i = some tv' → ∃ tv v, aget t i = some tv ∧ tv.val s = some v ∧ tv'.val s' = some v
  | [], _, _, i, tv', h => by cases h
  | (j, x) :: r, h1, h2, i, tv', h => by
    simp only [look, want, List.cons.injEq] at h1
    cases hx : x.val s' with
    | none => simp [want, hx, allSome] at h2
    | some v =>
      rw [aget_cons] at h
      split at h
      · rename_i e; subst e; cases h
        rw [hx] at h1
        cases ha : aget t j with
        | none => simp [ha] at h1
        | some tv => simp only [ha] at h1; exact ⟨tv, v, rfl, h1.1, hx⟩
      · exact look_spec h1.2 (by simpa [want, hx, allSome] using h2) i tv' h
theorem Ent.mk {t : Tm} {s : List Ch} {t' : Tm} {s' : List Ch} (hs : ∀ w0 w, Ok w0 s w → Ok w0 s' w) (h1 : look s t t' = want s' t') (h2 : allSome (want s' t') = true) : Ent t s t' s' := by
  intro n w0 w a hok hf
  refine ⟨hs w0 w hok, hf.1, hf.2.1, fun i tv' hi => ?_⟩
  obtain ⟨tv, v, h1, h2, h3⟩ := look_spec h1 h2 i tv' hi
  obtain ⟨v', h4, h5⟩ := hf.2.2 i tv h1
  rw [h2] at h4; cases h4
  exact ⟨v, h3, h5⟩

/-! ### Numbers -/
theorem nw {x : Int} {q : Int → Prop} (h1 : -9223372036854775808 ≤ x) (h2 : x ≤ 9223372036854775807) (hq : q x) : NeedW .i64 x q := by
  refine ⟨x, ?_, hq⟩
  rw [IntKind.wrap_i64]; omega

/-! ### Calls -/
theorem call {P : Program} {s : List Ch} {f : Nat} {args : List Value} {q : TV → List Ch → Prop} {R : Value → List Ch → Prop}
    (h : ∀ w, Mem s w → CallsE P f args.toArray w (Ret w R)) (k : ∀ v cs, R v cs → q (.v v) (s ++ cs)) : NeedF P s f args q := by
  refine ⟨fun w0 w hok => ⟨(h w hok.mem).1, (h w hok.mem).2.mono fun e w' he => ?_⟩⟩
  obtain ⟨v, cs, rfl, h1, h2⟩ := he
  exact ⟨v, s ++ cs, rfl, hok.call h1, Keep.app s cs, k v cs h2⟩

theorem callS {P : Program} {s : List Ch} {f : Nat} {args : List Value} {q : TV → List Ch → Prop} {R : Value → List Ch → Prop}
    (h : ∀ w, Mem s w → CallsE P f args.toArray w (Ret w R)) (k : ∀ v cs, R v cs → Sat (s ++ cs) → q (.v v) (s ++ cs)) : NeedF P s f args q := by
  refine ⟨fun w0 w hok => ⟨(h w hok.mem).1, (h w hok.mem).2.mono fun e w' he => ?_⟩⟩
  obtain ⟨v, cs, rfl, h1, h2⟩ := he
  exact ⟨v, s ++ cs, rfl, hok.call h1, Keep.app s cs, k v cs h2 ⟨w0, w', hok.call h1⟩⟩
theorem Sat.dj {s : List Ch} (h : Sat s) (i j : Nat) {c d : Ch} (hi : sget s i = some c) (hj : sget s j = some d) (hij : i ≠ j) : c.h.dj d.h := let ⟨_, _, hok⟩ := h; hok.disj i j c d hij hi hj

/-! ### Slices as lists -/
abbrev Enc (α : Type) := Hp → α → List Value → Prop
def encF {α : Type} (f : α → List Value) : Enc α := fun _ x cs => cs = f x
def fI (x : Int) : List Value := [.int .i64 x]
def fB (x : Bool) : List Value := [.bool x]
def fE (x : Int × Int) : List Value := [.int .i64 x.1, .int .i64 x.2]
structure Sl {α : Type} (R : Enc α) (sz : Nat) (h : Hp) (a : Option Addr) (n c : Nat) (L : List α) : Prop where
  len : n = L.length
  cap : n ≤ c
  cells : ∀ i (hi : i < L.length), ∃ b off cs, a = some ⟨b, off, none⟩ ∧ cs.length = sz ∧ R h L[i] cs ∧ ∀ j v, cs[j]? = some v → h.cell? ⟨b, off + i * sz + j, none⟩ = some v
/-- a slice of slices -/
def encS {α : Type} (R : Enc α) (sz : Nat) : Enc (List α) := fun h L cs => ∃ a n c, cs = [.slice a n c] ∧ Sl R sz h a n c L
def Mono {α : Type} (R : Enc α) : Prop := ∀ h k x cs, Hp.le h k → R h x cs → R k x cs
theorem encF_mono {α : Type} (f : α → List Value) : Mono (encF f) := fun _ _ _ _ _ h => h
theorem Sl.mono {α : Type} {R : Enc α} (hR : Mono R) {sz : Nat} {h k : Hp} {a : Option Addr} {n c : Nat} {L : List α} (hl : h.le k) (hs : Sl R sz h a n c L) : Sl R sz k a n c L :=
  ⟨hs.len, hs.cap, fun i hi => let ⟨b, off, cs, h1, h2, h3, h4⟩ := hs.cells i hi; ⟨b, off, cs, h1, h2, hR _ _ _ _ hl h3, fun j v hj => hl.cell (h4 j v hj)⟩⟩
theorem encS_mono {α : Type} {R : Enc α} (hR : Mono R) (sz : Nat) : Mono (encS R sz) := fun _ _ _ _ hl ⟨a, n, c, h1, h2⟩ => ⟨a, n, c, h1, h2.mono hR hl⟩
theorem Sl.nil {α : Type} (R : Enc α) (sz : Nat) (h : Hp) (a : Option Addr) (c : Nat) : Sl R sz h a 0 c [] := ⟨rfl, Nat.zero_le _, fun i hi => by cases hi⟩

/-- size of the elements of slice type T -/
def elsz (X : Ctx) (T : Nat) : Option (Nat × TI) := match tget X.tt T with
  | some ⟨.sl e, _, _, _⟩ => (match tget X.tt e with | some te => some (e, te) | none => none)
  | _ => none
theorem elsz_spec {X : Ctx} (hX : X.Good) {T e : Nat} {te : TI} (h : elsz X T = some (e, te)) : X.P.underlying T = some (.slice e) ∧ GoodT X.P e te := by
  unfold elsz at h
  split at h
  · rename_i e' _ _ _ hT
    split at h
    · rename_i te' hte
      simp only [Option.some.injEq, Prod.mk.injEq] at h
      obtain ⟨rfl, rfl⟩ := h
      exact ⟨(Good.und hX hT).2, Good.und hX hte⟩
    · cases h
  · cases h

section
variable {X : Ctx} {s : List Ch} {q : TV → Prop}

theorem run_indexAt {T e : Nat} {te : TI} (hX : X.Good) (hT : elsz X T = some (e, te)) {b off n c k : Nat} (hk : k < n) (w : World) :
    (Instr.indexAt T (.slice (some ⟨b, off, none⟩) n c) (.int .i64 k)).run X.P w = .ok (.pointer (some ⟨b, off + k * te.size, none⟩)) w := by
  obtain ⟨h1, h2⟩ := elsz_spec hX hT
  have hu : (underlying T).run X.P w = .ok (.slice e) w := by simp [underlying, h1]
  simp only [Instr.indexAt, asIntOf, Sem.run_bind, Sem.run_pure, Result.andThen_ok, hu]
  rw [if_pos ⟨Int.natCast_nonneg k, by omega⟩]
  simp [h2.size, Addr.add_mk]

theorem idx (hX : X.Good) {α : Type} {R : Enc α} {T e : Nat} {te : TI} (hT : elsz X T = some (e, te)) {h : Hp} {a : Option Addr} {n c : Nat} {L : List α} (hs : Sl R te.size h a n c L) {x : Int} (k : Nat) (hx : x = k) (hk : k < L.length)
    (hq : ∀ b o cs, cs.length = te.size → R h L[k] cs → (∀ j v, cs[j]? = some v → h.cell? ⟨b, o + j, none⟩ = some v) → q (.v (.pointer (some ⟨b, o, none⟩)))) :
    NeedQ X.P s (Instr.indexAt T (.slice a n c) (.int .i64 x)) q := by
  subst hx
  obtain ⟨b, off, cs, rfl, h2, h3, h4⟩ := hs.cells k hk
  exact ⟨_, fun w _ => run_indexAt hX hT (by rw [hs.len]; exact hk) w, hq b (off + k * te.size) cs h2 h3 h4⟩

theorem ld1 (hX : X.Good) {T : Nat} {i : Nat} {h : Hp} (hi : sget s i = some (.hp h)) {b o : Nat} {v : Value} (hc : h.cell? ⟨b, o, none⟩ = some v) (hT : (tget X.tt T).map TI.agg = some false) (hq : q (.v v)) :
    NeedQ X.P s (Instr.loadAt T (.pointer (some ⟨b, o, none⟩))) q := by
  refine ⟨v, fun w hm => ?_, hq⟩
  cases ht : tget X.tt T with
  | none => simp [ht] at hT
  | some ti =>
    have ha : ti.agg = false := by simpa [ht] using hT
    have := (hm i _ hi).cell hc
    simp [Instr.loadAt, Instr.sureAddr, loadVar, (Good.und hX ht).agg, ha, this]

theorem ldn (hX : X.Good) {T : Nat} {i : Nat} {h : Hp} (hi : sget s i = some (.hp h)) {b o : Nat} {cs : List Value} (hc : ∀ j v, cs[j]? = some v → h.cell? ⟨b, o + j, none⟩ = some v)
    (hT : (tget X.tt T).map (fun t => (t.agg, t.size)) = some (true, cs.length)) (hq : q (.v (.agg cs.toArray))) :
    NeedQ X.P s (Instr.loadAt T (.pointer (some ⟨b, o, none⟩))) q := by
  refine ⟨_, fun w hm => ?_, hq⟩
  cases ht : tget X.tt T with
  | none => simp [ht] at hT
  | some ti =>
    have ha : ti.agg = true ∧ ti.size = cs.length := by simpa [ht] using hT
    have := run_loadCells_list (P := X.P) w ⟨b, o, none⟩ cs (fun j v hj => by rw [Addr.add_mk]; exact (hm i _ hi).cell (hc j v hj))
    simp [Instr.loadAt, Instr.sureAddr, loadVar, (Good.und hX ht).agg, (Good.und hX ht).size, ha, this]
end
end Go.Dw
namespace Go.Dw
open Go Go.RowKit

/-- The slice value (a, n, c) owns the cells xs: nil, or the head of a block of heaplet h. -/
def Own (T sz : Nat) (h : Hp) (a : Option Addr) (n c : Nat) (xs : List Value) : Prop :=
  xs.length = n * sz ∧ ((n = 0 ∧ c = 0) ∨ ∃ b arr, a = some ⟨b, 0, none⟩ ∧ h b = some (.cells arr T (0, 0)) ∧ n ≤ c ∧ c ≤ maxLen ∧ arr.size = c * sz ∧ arr.toList.take (n * sz) = xs)
theorem Own.nil (T sz : Nat) (h : Hp) (a : Option Addr) : Own T sz h a 0 0 [] := ⟨by simp, .inl ⟨rfl, rfl⟩⟩
theorem Own.cap {T sz : Nat} {h : Hp} {a : Option Addr} {n c : Nat} {xs : List Value} (ho : Own T sz h a n c xs) : n ≤ c := by
  rcases ho.2 with ⟨rfl, rfl⟩ | ⟨_, _, _, _, h1, _⟩
  · exact Nat.le_refl _
  · exact h1
theorem Own.cell {T sz : Nat} {h : Hp} {a : Option Addr} {n c : Nat} {xs : List Value} (ho : Own T sz h a n c xs) {j : Nat} {v : Value} (hj : xs[j]? = some v) :
    ∃ b arr, a = some ⟨b, 0, none⟩ ∧ h b = some (.cells arr T (0, 0)) ∧ arr[j]? = some v ∧ h.cell? ⟨b, j, none⟩ = some v := by
  rcases ho.2 with ⟨rfl, _⟩ | ⟨b, arr, h1, h2, _, _, _, h5⟩
  · have := ho.1; simp at this; subst this; simp at hj
  · rw [← h5, List.getElem?_take] at hj
    split at hj
    · have hj' : arr[j]? = some v := by simpa using hj
      exact ⟨b, arr, h1, h2, hj', by rw [Hp.cell_block h2]; exact hj'⟩
    · cases hj

/-- element list, each element's cells by f (always sz of them) -/
def OwnL {α : Type} (f : α → List Value) (T sz : Nat) (h : Hp) (a : Option Addr) (n c : Nat) (L : List α) : Prop := n = L.length ∧ Own T sz h a n c (L.flatMap f)
theorem OwnL.nil {α : Type} (f : α → List Value) (T sz : Nat) (h : Hp) : OwnL f T sz h none 0 0 [] := ⟨rfl, by simpa using Own.nil T sz h none⟩
theorem flat_get {α : Type} (f : α → List Value) {sz : Nat} (hf : ∀ x, (f x).length = sz) : ∀ (L : List α) (i j : Nat) (hi : i < L.length), j < sz → (L.flatMap f)[i * sz + j]? = (f L[i])[j]?
  | x :: r, 0, j, _, hj => by simp [List.flatMap_cons, List.getElem?_append, hf, hj]
  | x :: r, i + 1, j, hi, hj => by
    have : (i + 1) * sz + j = sz + (i * sz + j) := by rw [Nat.succ_mul]; omega
    rw [List.flatMap_cons, this, List.getElem?_append_right (by rw [hf]; omega), hf]
    simpa using flat_get f hf r i j (by simpa using hi) hj
theorem OwnL.sl {α : Type} {f : α → List Value} {T sz : Nat} (hf : ∀ x, (f x).length = sz) (h0 : 0 < sz) {h : Hp} {a : Option Addr} {n c : Nat} {L : List α} (ho : OwnL f T sz h a n c L) : Sl (encF f) sz h a n c L := by
  obtain ⟨rfl, ho⟩ := ho
  refine ⟨rfl, ho.cap, fun i hi => ?_⟩
  have get : ∀ j v, (f L[i])[j]? = some v → ∃ b arr, a = some ⟨b, 0, none⟩ ∧ h b = some (.cells arr T (0, 0)) ∧ arr[i * sz + j]? = some v ∧ h.cell? ⟨b, i * sz + j, none⟩ = some v := fun j v hj => by
    have : j < sz := by rw [← hf L[i]]; exact (List.getElem?_eq_some_iff.1 hj).1
    exact ho.cell (by rw [flat_get f hf L i j hi this]; exact hj)
  have h00 : (f L[i])[0]? = some ((f L[i])[0]'(by rw [hf]; exact h0)) := List.getElem?_eq_getElem (by rw [hf]; exact h0)
  obtain ⟨b, arr, rfl, _⟩ := get 0 _ h00
  refine ⟨b, 0, f L[i], rfl, hf _, rfl, fun j v hj => ?_⟩
  obtain ⟨b', arr', e, _, _, h4⟩ := get j v hj
  cases e
  simpa using h4
theorem Sl.ofOwnL {α : Type} {f : α → List Value} {T sz : Nat} (hf : ∀ x, (f x).length = sz) (h0 : 0 < sz) {h : Hp} {a : Option Addr} {n c : Nat} {L : List α} (ho : OwnL f T sz h a n c L) : Sl (encF f) sz h a n c L := ho.sl hf h0

section
variable {X : Ctx} {s : List Ch}

/-- the row that an owned slice lies in, written anew -/
theorem Own.row {w0 w : World} (hok : Ok w0 s w) {i : Nat} {h : Hp} (hi : sget s i = some (.hp h)) {b T : Nat} {arr arr' : Array Value} (hb : h b = some (.cells arr T (0, 0))) :
    Ok w0 (sset s i (.hp (h.upd b (.cells arr' T (0, 0))))) (w.setRow b arr') := by
  have hblk := hok.mem i _ hi b _ hb
  refine hok.upd hi _ rfl rfl rfl (by simp [World.setRow]) (Nat.le_refl _) (fun k _ hk => ?_) ?_ (fun k hk => ?_)
  · refine setRow_other w b k _ (fun e => ?_)
    subst e
    rw [show (Ch.hp h).h = h from rfl, hb] at hk; cases hk
  · intro k o hk
    simp only [Ch.h, Hp.upd] at hk
    split at hk
    · rename_i e; subst e; cases hk; exact setRow_heap w k _ _ _ _ hblk
    · rename_i e
      rw [setRow_other w b k _ e]
      exact hok.mem i _ hi k o hk
  · left
    simp only [Ch.h, Hp.upd] at hk ⊢
    split at hk
    · rename_i e; subst e; rw [hb]; simp
    · exact hk

/-- the chunk moves to a new block -/
theorem Own.move {w0 w : World} (hok : Ok w0 s w) {i : Nat} {h : Hp} (hi : sget s i = some (.hp h)) (o : Obj) :
    Ok w0 (sset s i (.hp (Hp.one w.heap.size o))) (w.drew.alloc o) := by
  refine hok.upd hi _ rfl rfl rfl (by simp) (by first | exact Nat.le_succ _ | exact Nat.le_refl _) (fun k hk _ => _root_.Go.heap_alloc_old w.drew o hk) ?_ (fun k hk => ?_)
  · intro k o' hk
    simp only [Ch.h, Hp.one] at hk
    split at hk
    · rename_i e; subst e; cases hk; exact _root_.Go.heap_alloc_new w.drew _
    · cases hk
  · right
    simp only [Ch.h, Hp.one] at hk
    split at hk
    · rename_i e; omega
    · exact absurd rfl hk

/-- append to an owned slice: m new elements, whose cells are news. -/
theorem append_own (hX : X.Good) {T e ty : Nat} {te : TI} (hT : elsz X T = some (e, te)) {i : Nat} {h : Hp} (hi : sget s i = some (.hp h)) {a : Option Addr} {n c : Nat} {xs : List Value}
    (ho : Own e te.size h a n c xs) {m : Nat} {news : List Value} (hl : news.length = m * te.size) (h1 : ∀ v ∈ news, v.oneCell' = true) (hby : (n + m) * te.bytes ≤ 140737488355328) (hmx : n + m ≤ maxLen)
    {y : Value} (hy : ∀ w, Mem s w → (∃ c'', y = .slice none 0 c'' ∧ m = 0) ∨ ∃ ad c', y = .slice (some ad) m c' ∧ ∀ j u, news[j]? = some u → w.cell? (ad.add j) = some u) {q : TV → List Ch → Prop}
    (hq : ∀ a' c' h', Own e te.size h' a' (n + m) c' (xs ++ news) → (a' = none → n + m = 0) → q (.v (.slice a' (n + m) c')) (sset s i (.hp h'))) :
    NeedE X.P s (Builtin.append_ #[T, T] ty #[.slice a n c, y]) q := by
  obtain ⟨hu, hg⟩ := elsz_spec hX hT
  obtain ⟨⟨inf, hinf, hs1, hs2, z, hz, hzc, hzl⟩, _⟩ := hg
  have hsm : n + m ≤ 9223372036854775807 := by simp only [maxLen] at hmx; omega
  have hlen : (xs ++ news).length = (n + m) * te.size := by rw [List.length_append, ho.1, hl, Nat.add_mul]
  refine ⟨fun w0 w hok => ?_⟩
  have keep : ∀ h', Keep s (sset s i (.hp h')) := fun h' => Keep.set hi (fun b cs T e => by cases e)
  -- no element is appended, from nil
  rcases hy w hok.mem with ⟨c'', rfl, rfl⟩ | ⟨ad, c', rfl, hcells⟩
  · have hn : news = [] := List.eq_nil_of_length_eq_zero (by simpa using hl)
    subst hn
    simp only [Nat.add_zero, List.append_nil] at hq
    have hcap := ho.cap
    refine ⟨.v (.slice a n c), _, w, sset s i (.hp h), ?_, ?_, keep h, rfl, hq a c h ho ?_⟩
    · have hcap' : n ≤ c := hcap
      cases a with
      | none => simp [Builtin.append_, run_underlying hu, sizeOf, typeInfo, hinf, Builtin.lenOf, Builtin.firstCells, hcap']
      | some a => simp [Builtin.append_, run_underlying hu, sizeOf, typeInfo, hinf, Builtin.lenOf, Builtin.firstCells, hcap', storeCells]
    · have : sset s i (.hp h) = s := by
        rw [sset_eq]; rw [sget_eq] at hi
        exact List.ext_getElem? fun j => by
          rw [List.getElem?_set]
          split
          · rename_i e; subst e; split
            · exact hi.symm
            · rename_i hh; rw [List.getElem?_eq_none (by omega)] at hi; cases hi
          · rfl
      rw [this]; exact hok
    · intro ha
      rcases ho.2 with ⟨h0, _⟩ | ⟨b, arr, h0, _⟩
      · exact h0
      · rw [ha] at h0; cases h0
  · rcases ho.2 with ⟨rfl, rfl⟩ | ⟨b, arr, rfl, hb, hnc, hcm, hcs, htk⟩
    · have hx : xs = [] := List.eq_nil_of_length_eq_zero (by simpa using ho.1)
      subst hx
      have same : Ok w0 (sset s i (.hp h)) w := by
        have : sset s i (.hp h) = s := by
          rw [sset_eq]; rw [sget_eq] at hi
          exact List.ext_getElem? fun j => by
            rw [List.getElem?_set]
            split
            · rename_i e; subst e; split
              · exact hi.symm
              · rename_i hh; rw [List.getElem?_eq_none (by omega)] at hi; cases hi
            · rfl
        rw [this]; exact hok
      by_cases hm : m = 0
      · subst hm
        have hn : news = [] := List.eq_nil_of_length_eq_zero (by simpa using hl)
        subst hn
        refine ⟨.v (.slice a 0 0), _, w, sset s i (.hp h), ?_, same, keep h, rfl, hq a 0 h (Own.nil _ _ _ _) (fun _ => rfl)⟩
        cases a with
        | none => simp [Builtin.append_, run_underlying hu, sizeOf, typeInfo, hinf, Builtin.lenOf, Builtin.firstCells, loadCells, loadCellsFrom]
        | some a => simp [Builtin.append_, run_underlying hu, sizeOf, typeInfo, hinf, Builtin.lenOf, Builtin.firstCells, loadCells, loadCellsFrom, storeCells]
      · have hge := grownCap_ge w m 0 e
        have hcm := grownCap_le_maxLen w m 0 e (by omega)
        have hr : (Builtin.append_ #[T, T] ty #[.slice a 0 0, .slice (some ad) m c']).run X.P w =
            .ok (.slice (some ⟨w.heap.size, 0, none⟩) m (grownCap w m 0 e)) (w.drew.alloc (.cells (news.toArray ++ Builtin.zeroCells z.cells (grownCap w m 0 e - m)) e)) := by
          cases a with
          | none => exact run_append_nil (P := X.P) w T ty e inf z hu hinf hz ad m c' news (by rw [hs1]; exact hl) hcells (by omega) (by omega) (by rw [hs2]; simp only [Nat.zero_add] at hby; omega)
          | some b =>
            have := run_append_grow (P := X.P) w T ty e inf z hu hinf hz b 0 0 [] (by simp) (fun j v hj => by simp at hj) ad m c' news (by rw [hs1]; exact hl) hcells (by omega) (by omega) (growslice_fits (by omega) (by rw [hs2]; exact hby))
            simpa using this
        refine ⟨.v _, _, _, _, hr, Own.move hok hi _, keep _, rfl, ?_⟩
        have := hq (some ⟨w.heap.size, 0, none⟩) (grownCap w m 0 e) (Hp.one w.heap.size (.cells (news.toArray ++ Builtin.zeroCells z.cells (grownCap w m 0 e - m)) e))
          ⟨hlen, .inr ⟨_, _, rfl, Hp.one_self _ _, by simpa using hge, hcm, ?_, ?_⟩⟩ (fun h => by cases h)
        · simpa using this
        · simp only [Array.size_append, List.size_toArray, size_zeroCells, hzc, hzl, hl, ← Nat.add_mul]
          congr 1; omega
        · simp only [Array.toList_append, List.nil_append, Nat.zero_add, ← hl]
          exact List.take_left
    · by_cases hroom : n + m ≤ c
      · have hblk := hok.mem i _ hi b _ hb
        have hfit : n * inf.size + news.length ≤ arr.size := by rw [hs1, hl, hcs, ← Nat.add_mul]; exact Nat.mul_le_mul_right _ hroom
        have hr := run_append_room (P := X.P) w T ty e inf hu hinf b n c arr hblk ad m c' news (by rw [hs1]; exact hl) hcells h1 hroom hfit
        refine ⟨.v _, _, _, _, hr, Own.row hok hi hb, keep _, rfl, hq _ _ _ ⟨hlen, .inr ⟨b, _, rfl, Hp.upd_self _ _ _, hroom, hcm, ?_, ?_⟩⟩ (fun h => by cases h)⟩
        · simp only [List.size_toArray, List.length_append, List.length_take, List.length_drop, Array.length_toList]
          omega
        · simp only [hs1]
          rw [htk, ← hlen]
          exact List.take_left
      · have holds : ∀ j u, xs[j]? = some u → w.cell? ((⟨b, 0, none⟩ : Addr).add j) = some u := fun j u hu => by
          obtain ⟨b', arr', e1, _, _, h4⟩ := ho.cell hu
          cases e1
          rw [Addr.add_mk, Nat.zero_add]
          exact (hok.mem i _ hi).cell h4
        have hr := run_append_grow (P := X.P) w T ty e inf z hu hinf hz ⟨b, 0, none⟩ n c xs (by rw [hs1]; exact ho.1) holds ad m c' news (by rw [hs1]; exact hl) hcells (by omega) (by omega) (growslice_fits (by omega) (by rw [hs2]; exact hby))
        have hge := grownCap_ge w (n + m) c e
        have hcm' := grownCap_le_maxLen w (n + m) c e hmx
        refine ⟨.v _, _, _, _, hr, Own.move hok hi _, keep _, rfl, hq _ _ _ ⟨hlen, .inr ⟨_, _, rfl, Hp.one_self _ _, hge, hcm', ?_, ?_⟩⟩ (fun h => by cases h)⟩
        · simp only [Array.size_append, List.size_toArray, size_zeroCells, hzc, hzl, hl, ho.1, ← Nat.add_mul]
          congr 1; omega
        · simp only [Array.toList_append, List.append_assoc]
          rw [← List.append_assoc, ← hlen]
          exact List.take_left
end
end Go.Dw
namespace Go.Dw
open Go Go.RowKit

section
variable {X : Ctx} {s : List Ch}

/-- append(v, x1, .., xm): the new elements lie in a box of their own. -/
theorem app_bs (hX : X.Good) {T e ty : Nat} {te : TI} (hT : elsz X T = some (e, te)) {i : Nat} {h : Hp} (hi : sget s i = some (.hp h)) {a : Option Addr} {n c : Nat} {xs : List Value}
    (ho : Own e te.size h a n c xs) {j m b e' : Nat} {news : List Value} (hj : sget s j = some (.box b news e')) (hl : news.length = m * te.size) (h1 : allOne news = true)
    (hby : (n + m) * te.bytes ≤ 140737488355328) (hmx : n + m ≤ maxLen) {q : TV → List Ch → Prop}
    (hq : ∀ a' c' h', Own e te.size h' a' (n + m) c' (xs ++ news) → (a' = none → n + m = 0) → q (.v (.slice a' (n + m) c')) (sset s i (.hp h'))) :
    NeedA X.P s #[T, T] ty (.slice a n c) (.bs j m) q := by
  refine ⟨.slice (some ⟨b, 0, none⟩) m m, by simp [TV.val, hj], append_own hX hT hi ho hl (allOne_sound h1) hby hmx (fun w hm => .inr ⟨_, _, rfl, fun k u hk => ?_⟩) hq⟩
  rw [Addr.add_mk, Nat.zero_add]
  exact box_cell hm hj hk

/-- the same, for typed lists -/
theorem appL {α : Type} {f : α → List Value} (hX : X.Good) {T e ty : Nat} {te : TI} (hT : elsz X T = some (e, te)) {i : Nat} {h : Hp} (hi : sget s i = some (.hp h)) {a : Option Addr} {n c : Nat} {L : List α}
    (ho : OwnL f e te.size h a n c L) {j b e' : Nat} (x : α) (hj : sget s j = some (.box b (f x) e')) (hf : (f x).length = te.size) (h1 : allOne (f x) = true)
    (hby : Nat.ble te.bytes 140 = true) (hn : L.length < 1000000000000) {q : TV → List Ch → Prop}
    (hq : ∀ a' c' h', OwnL f e te.size h' a' (n + 1) c' (L ++ [x]) → q (.v (.slice a' (n + 1) c')) (sset s i (.hp h'))) :
    NeedA X.P s #[T, T] ty (.slice a n c) (.bs j 1) q := by
  obtain ⟨rfl, ho⟩ := ho
  have hb := Nat.le_of_ble_eq_true hby
  have hm := Nat.mul_le_mul (show L.length + 1 ≤ 1000000000000 by omega) hb
  exact app_bs hX hT hi ho hj (by simpa using hf) h1 (by omega) (by simp only [maxLen]; omega) fun a' c' h' ho' _ => hq a' c' h' ⟨by simp, by simpa using ho'⟩

/-- make([]T, n) -/
theorem mkE (hX : X.Good) {T e : Nat} {te : TI} (hT : elsz X T = some (e, te)) (n : Nat) {l c : Int} (hl : l = n) (hc : c = n) (hby : te.bytes * n ≤ 281474976710656) (hn : n ≤ 9223372036854775807) {q : TV → List Ch → Prop}
    (hq : ∀ b h', Own e te.size h' (some ⟨b, 0, none⟩) n n (repL n te.zero) → q (.v (.slice (some ⟨b, 0, none⟩) n n)) (s ++ [.hp h'])) :
    NeedE X.P s (Instr.makeSlice T (.int .i64 l) (.int .i64 c)) q := by
  subst hl; subst hc
  obtain ⟨hu, hg⟩ := elsz_spec hX hT
  obtain ⟨⟨inf, hinf, hs1, hs2, z, hz, hzc, hzl⟩, _⟩ := hg
  refine ⟨fun w0 w hok => ?_⟩
  have hr := run_make (P := X.P) w T e inf z hu hinf hz .i64 .i64 n n (by omega) (Int.le_refl _) (by rw [hs2]; have : ((te.bytes * n : Nat) : Int) ≤ 281474976710656 := by omega
                                                                                                     simpa using this) (by omega)
  simp only [Int.toNat_natCast, hs1, hzc] at hr
  have hm : madeCells te.zero.toArray (n * te.size) = (repL n te.zero).toArray := by
    have := repL_eq te.zero n
    rw [hzl] at this
    simpa [madeCells, hzl] using this
  rw [hm] at hr
  refine ⟨.v _, _, _, _, hr, hok.alloc (.hp (Hp.one w.heap.size _)) _ rfl, Keep.app s _, rfl, hq w.heap.size _ ⟨?_, .inr ⟨_, _, rfl, Hp.one_self _ _, Nat.le_refl _, by simp only [maxLen]; omega, ?_, ?_⟩⟩⟩
  all_goals
    have hlen : (repL n te.zero).length = n * te.size := by
      clear hr hm hq hby hn
      induction n with
      | zero => simp [repL]
      | succ n ih => simp [repL, hzl, ih, Nat.succ_mul, Nat.add_comm]
  · exact hlen
  · simpa using hlen
  · rw [← hlen]; simp

/-- index into an owned slice: the pointer -/
theorem oidx (hX : X.Good) {T e : Nat} {te : TI} (hT : elsz X T = some (e, te)) {h : Hp} {a : Option Addr} {n c : Nat} {xs : List Value} (ho : Own e te.size h a n c xs) {x : Int} (k : Nat) (hx : x = k) (hk : k < n) {q : TV → Prop}
    (hq : ∀ b, a = some ⟨b, 0, none⟩ → q (.v (.pointer (some ⟨b, 0 + k * te.size, none⟩)))) : NeedQ X.P s (Instr.indexAt T (.slice a n c) (.int .i64 x)) q := by
  subst hx
  rcases ho.2 with ⟨rfl, _⟩ | ⟨b, arr, rfl, _⟩
  · omega
  · exact ⟨_, fun w _ => run_indexAt hX hT hk w, hq b rfl⟩

/-- load of a one-cell element of an owned slice -/
theorem old1 (hX : X.Good) {T e sz : Nat} {i : Nat} {h : Hp} (hi : sget s i = some (.hp h)) {b c n j : Nat} {xs : List Value} (ho : Own e sz h (some ⟨b, 0, none⟩) n c xs) {v : Value} (hj : xs[j]? = some v) (hT : (tget X.tt T).map TI.agg = some false) {q : TV → Prop} (hq : q (.v v)) :
    NeedQ X.P s (Instr.loadAt T (.pointer (some ⟨b, 0 + j, none⟩))) q := by
  obtain ⟨b', arr, e1, _, _, h4⟩ := ho.cell hj
  cases e1
  rw [Nat.zero_add]
  exact ld1 hX hi h4 hT hq

/-- store into an owned slice: the cells from j on become vs -/
theorem ost (hX : X.Good) {T e sz : Nat} {i : Nat} {h : Hp} (hi : sget s i = some (.hp h)) {b c n j : Nat} {xs : List Value} (ho : Own e sz h (some ⟨b, 0, none⟩) n c xs) {v : Value} {ti : TI} (hT : tget X.tt T = some ti)
    (hv : v.cells.size = ti.size) (h1 : allOne v.cells.toList = true) (hj : j + ti.size ≤ n * sz) (hps : Nat.blt 0 ti.size = true) {q : List Ch → Prop}
    (hq : ∀ h', Own e sz h' (some ⟨b, 0, none⟩) n c (xs.take j ++ v.cells.toList ++ xs.drop (j + ti.size)) → q (sset s i (.hp h'))) :
    NeedU X.P s (Instr.storeAt T (.pointer (some ⟨b, 0 + j, none⟩)) v) q := by
  refine ⟨fun w0 w hok => ?_⟩
  rcases ho.2 with ⟨h0, _⟩ | ⟨b', arr, e1, hb, hnc, hcm, hcs, htk⟩
  · subst h0; simp [Nat.blt_eq] at hps hj; omega
  · cases e1
    have hblk := hok.mem i _ hi b _ hb
    have hle : n * sz ≤ c * sz := Nat.mul_le_mul_right _ hnc
    have hst := run_storeCells_at X.P b (0 + j) e v.cells.toList 0 arr w hblk (by simp [hv, hcs]; omega) (allOne_sound h1)
    simp only [Nat.add_zero, Nat.zero_add, Array.length_toList, hv] at hst
    refine ⟨_, _, ?_, Own.row (arr' := (arr.toList.take j ++ v.cells.toList ++ arr.toList.drop (j + ti.size)).toArray) hok hi hb, Keep.set hi (fun b cs T e => by cases e), hq _ ⟨?_, .inr ⟨b, _, rfl, Hp.upd_self _ _ _, hnc, hcm, ?_, ?_⟩⟩⟩
    · simp [Instr.storeAt, Instr.sureAddr, storeVar, (Good.und hX hT).size, hv, hst]
    · have := ho.1; simp [hv]; omega
    · simp [hv]; omega
    · have hxl := ho.1
      subst htk
      apply List.ext_getElem?
      intro k
      simp only [List.getElem?_take, List.getElem?_append, List.length_append, List.length_take, Array.length_toList, List.getElem?_drop, hv, hcs]
      have e1 : min j (c * sz) = j := by omega
      have e2 : min j (min (n * sz) (c * sz)) = j := by omega
      rw [e1, e2]
      by_cases c1 : k < n * sz
      · rw [if_pos c1]
        by_cases c2 : k < j + ti.size
        · rw [if_pos c2, if_pos c2]
          by_cases c3 : k < j
          · simp [c3, c1]
          · simp [c3]
        · rw [if_neg c2, if_neg c2]
          have : j + ti.size + (k - (j + ti.size)) = k := by omega
          rw [this, if_pos c1]
      · rw [if_neg c1, if_neg (by omega)]
        rw [if_neg (by omega)]
end
end Go.Dw
namespace Go.Dw
open Go Go.RowKit

/-- an owned slice: its value, and the heaplet that bears it -/
structure Os where
  a : Option Addr
  n : Nat
  c : Nat
  h : Hp
def Os.v (o : Os) : Value := .slice o.a o.n o.c
def Os.nil : Os := ⟨none, 0, 0, Hp.emp⟩
def OwnO {α : Type} (f : α → List Value) (T sz : Nat) (o : Os) (L : List α) : Prop := OwnL f T sz o.h o.a o.n o.c L
theorem OwnO.nil {α : Type} (f : α → List Value) (T sz : Nat) : OwnO f T sz Os.nil [] := OwnL.nil f T sz _
theorem OwnO.len {α : Type} {f : α → List Value} {T sz : Nat} {o : Os} {L : List α} (h : OwnO f T sz o L) : o.n = L.length := h.1
theorem OwnO.sl {α : Type} {f : α → List Value} {T sz : Nat} (hf : ∀ x, (f x).length = sz) (h0 : 0 < sz) {o : Os} {L : List α} (ho : OwnO f T sz o L) : Sl (encF f) sz o.h o.a o.n o.c L := OwnL.sl hf h0 ho
theorem OwnO.nilAddr {α : Type} {f : α → List Value} {T sz : Nat} {o : Os} {L : List α} (h : OwnO f T sz o L) (ha : o.a = none) : L = [] := by
  obtain ⟨h1, h2⟩ := h
  rcases h2.2 with ⟨h3, _⟩ | ⟨b, arr, h3, _⟩
  · exact List.eq_nil_of_length_eq_zero (by omega)
  · rw [ha] at h3; cases h3
/-- naturals, pairs of them -/
def fN (x : Nat) : List Value := [.int .i64 x]
def fEN (x : Nat × Nat) : List Value := [.int .i64 x.1, .int .i64 x.2]

section
variable {X : Ctx} {s : List Ch}
theorem appO {α : Type} {f : α → List Value} (hX : X.Good) {T e ty : Nat} {te : TI} (hT : elsz X T = some (e, te)) {i : Nat} {o : Os} (hi : sget s i = some (.hp o.h)) {L : List α}
    (ho : OwnO f e te.size o L) {j b e' : Nat} (x : α) (hj : sget s j = some (.box b (f x) e')) (hf : (f x).length = te.size) (h1 : allOne (f x) = true)
    (hby : Nat.ble te.bytes 140 = true) (hn : L.length < 1000000000000) {q : TV → List Ch → Prop}
    (hq : ∀ o', OwnO f e te.size o' (L ++ [x]) → q (.v o'.v) (sset s i (.hp o'.h))) :
    NeedA X.P s #[T, T] ty o.v (.bs j 1) q :=
  appL hX hT hi ho x hj hf h1 hby hn fun a' c' h' ho' => hq ⟨a', o.n + 1, c', h'⟩ ho'

theorem repL_flat {α : Type} (f : α → List Value) (z : α) : ∀ n, repL n (f z) = (List.replicate n z).flatMap f
  | 0 => rfl
  | n + 1 => by simp [repL, repL_flat f z n, List.replicate_succ]

/-- make([]T, n): n times the element z, whose cells are the zero value's -/
theorem mkO {α : Type} {f : α → List Value} (hX : X.Good) {T e : Nat} {te : TI} (hT : elsz X T = some (e, te)) (n : Nat) (z : α) (hz : te.zero = f z) {l c : Int} (hl : l = n) (hc : c = n) (hby : Nat.ble te.bytes 140 = true) (hn : n < 1000000000000) {q : TV → List Ch → Prop}
    (hq : ∀ o, o.n = n → OwnO f e te.size o (List.replicate n z) → q (.v o.v) (s ++ [.hp o.h])) :
    NeedE X.P s (Instr.makeSlice T (.int .i64 l) (.int .i64 c)) q := by
  have hb := Nat.le_of_ble_eq_true hby
  have hm := Nat.mul_le_mul hb (show n ≤ 1000000000000 by omega)
  refine mkE hX hT n hl hc (by omega) (by omega) fun b h' ho => hq ⟨_, n, n, h'⟩ rfl ⟨by simp, ?_⟩
  rw [hz, repL_flat] at ho
  exact ho

/-- index into an owned slice of one-cell elements -/
theorem oidx1 {α : Type} {f : α → List Value} (hX : X.Good) {T e : Nat} {te : TI} (hT : elsz X T = some (e, te)) (h1 : te.size = 1) {o : Os} {L : List α} (ho : OwnO f e 1 o L) {x : Int} (k : Nat) (hx : x = k) (hk : k < L.length) {q : TV → Prop}
    (hq : ∀ b, o.a = some ⟨b, 0, none⟩ → q (.v (.pointer (some ⟨b, 0 + k, none⟩)))) : NeedQ X.P s (Instr.indexAt T o.v (.int .i64 x)) q := by
  obtain ⟨hl, ho⟩ := ho
  refine oidx hX hT (by rw [h1]; exact ho) k hx (by omega) fun b hb => ?_
  rw [h1, Nat.mul_one]
  exact hq b hb

theorem flat1 {α : Type} {f : α → List Value} {g : α → Value} (hf : ∀ x, f x = [g x]) : ∀ L : List α, L.flatMap f = L.map g
  | [] => rfl
  | x :: r => by simp [hf, flat1 hf r]

/-- load of an element -/
theorem old {α : Type} {f : α → List Value} {g : α → Value} (hf : ∀ x, f x = [g x]) (hX : X.Good) {T e : Nat} {i : Nat} {o : Os} (hi : sget s i = some (.hp o.h)) {b k : Nat} (hb : o.a = some ⟨b, 0, none⟩) {L : List α} (ho : OwnO f e 1 o L) (hk : k < L.length)
    (hT : (tget X.tt T).map TI.agg = some false) {q : TV → Prop} (hq : q (.v (g L[k]))) : NeedQ X.P s (Instr.loadAt T (.pointer (some ⟨b, 0 + k, none⟩))) q := by
  obtain ⟨hl, ho⟩ := ho
  rw [hb, flat1 hf] at ho
  exact old1 hX hi ho (by simp [hk]) hT hq

/-- store of an element -/
theorem osto {α : Type} {f : α → List Value} {g : α → Value} (hf : ∀ x, f x = [g x]) (hX : X.Good) {T e : Nat} {i : Nat} {o : Os} (hi : sget s i = some (.hp o.h)) {b k : Nat} (hb : o.a = some ⟨b, 0, none⟩) {L : List α} (ho : OwnO f e 1 o L) (hk : k < L.length)
    {ti : TI} (hT : tget X.tt T = some ti) (h1 : ti.size = 1) (x : α) {v : Value} (hv : v = g x) (hc : (g x).cells = #[g x]) (hone : (g x).oneCell' = true) {q : List Ch → Prop}
    (hq : ∀ o', o'.a = o.a → o'.n = o.n → o'.c = o.c → OwnO f e 1 o' (L.set k x) → q (sset s i (.hp o'.h))) : NeedU X.P s (Instr.storeAt T (.pointer (some ⟨b, 0 + k, none⟩)) v) q := by
  subst hv
  obtain ⟨hl, ho⟩ := ho
  rw [hb, flat1 hf] at ho
  refine ost hX hi ho hT (by rw [hc, h1]; rfl) (by rw [hc]; simp [allOne, hone]) (by rw [h1, hl]; omega) (by rw [h1]; rfl) fun h' ho' => hq ⟨o.a, o.n, o.c, h'⟩ rfl rfl rfl ⟨by simpa using hl, ?_⟩
  rw [flat1 hf, hb]
  have : (L.map g).take k ++ (g x).cells.toList ++ (L.map g).drop (k + ti.size) = (L.set k x).map g := by
    rw [hc, h1]
    apply List.ext_getElem?
    intro j
    simp only [List.getElem?_append, List.getElem?_take, List.length_take, List.length_map, List.getElem?_drop, List.getElem?_map, List.getElem?_set, List.length_append, List.length_cons, List.length_nil]
    have e1 : min k L.length = k := by omega
    rw [e1]
    by_cases c1 : j < k
    · simp [c1, show j < k + 1 by omega, show ¬ k = j by omega]
    · by_cases c2 : j = k
      · subst c2; simp [hk]
      · simp [show ¬ j < k + 1 by omega, show ¬ k = j by omega, show k + 1 + (j - (k + 1)) = j by omega]
  rw [← this]
  exact ho'
end
end Go.Dw
namespace Go.Dw
open Go Go.RowKit

def Hp.minus (g h : Hp) : Hp := fun b => match h b with | some _ => none | none => g b
theorem Hp.minus_le (g h : Hp) : (g.minus h).le g := fun b o e => by
  unfold Hp.minus at e
  cases hb : h b with
  | some x => simp [hb] at e
  | none => simpa [hb] using e
theorem Hp.minus_dj (g h : Hp) : (g.minus h).dj h := fun b => by
  cases hb : h b with
  | some x => left; simp [Hp.minus, hb]
  | none => right; rfl
theorem Hp.le_minus {g h k : Hp} (l : k.le g) (d : k.dj h) : k.le (g.minus h) := fun b o e => by
  have : h b = none := (d b).resolve_left (by rw [e]; simp)
  simp [Hp.minus, this, l b o e]

theorem Ok.start2 (w : World) {h : Hp} (hi : h.In w) : Ok w [.hp ((Hp.whole w).minus h), .hp h] w := by
  refine ⟨rfl, rfl, rfl, Nat.le_refl _, Nat.le_refl _, fun i c e => ?_, fun i j c d hij e1 e2 => ?_⟩
  · match i, e with
    | 0, e => simp [sget] at e; subst e; exact (Hp.whole_in w).le (Hp.minus_le _ _)
    | 1, e => simp [sget] at e; subst e; exact hi
  · match i, j, e1, e2 with
    | 0, 0, _, _ => exact absurd rfl hij
    | 1, 1, _, _ => exact absurd rfl hij
    | 0, 1, e1, e2 => simp [sget] at e1 e2; subst e1; subst e2; exact Hp.minus_dj _ _
    | 1, 0, e1, e2 => simp [sget] at e1 e2; subst e1; subst e2; exact (Hp.minus_dj _ _).symm

/-- What a call that changes heaplet h alone comes to: a value, the heaplet as it is now, and new chunks. -/
def RetM (w : World) (h : Hp) (R : Value → Hp → List Ch → Prop) : Ending → World → Prop := fun e w' => ∃ v h' cs, e = .returned v ∧ Ok w (.hp ((Hp.whole w).minus h) :: .hp h' :: cs) w' ∧ R v h' cs

theorem Ok.callM {w0 w w' : World} {s cs : List Ch} {i : Nat} {h h' : Hp} (hok : Ok w0 s w) (hi : sget s i = some (.hp h)) (hc : Ok w (.hp ((Hp.whole w).minus h) :: .hp h' :: cs) w') : Ok w0 (sset s i (.hp h') ++ cs) w' := by
  -- first the heaplet alone, then the new chunks
  have hlen : ∀ j d, sget (sset s i (.hp h')) j = some d → ∃ d', sget s j = some d' ∧ (j ≠ i → d' = d) ∧ (j = i → d = .hp h') := by
    intro j d e
    rw [sget_sset] at e
    split at e
    · rename_i hij; subst hij; rw [hi] at e; simp at e; exact ⟨_, hi, fun h => absurd rfl h, fun _ => e.symm⟩
    · rename_i hij; exact ⟨d, e, fun _ => rfl, fun h => absurd h.symm hij⟩
  have old : ∀ j d, j ≠ i → sget s j = some d → d.h.le ((Hp.whole w).minus h) := fun j d hj e => Hp.le_minus (hok.mem j d e).whole (hok.disj j i d _ hj e hi)
  have oldIn : ∀ j d, j ≠ i → sget s j = some d → d.h.In w' := fun j d hj e => (hc.mem 0 _ rfl).le (old j d hj e)
  have djl : ∀ {a b c : Hp}, a.le b → b.dj c → a.dj c := fun l d b => by
    rename_i a b' c
    rcases d b with h1 | h1
    · left
      cases ha : a b with
      | none => rfl
      | some o => rw [l b o ha] at h1; cases h1
    · exact .inr h1
  have hdj : (Ch.hp ((Hp.whole w).minus h)).h.dj h' := hc.disj 0 1 _ _ (by omega) rfl rfl
  have cget : ∀ k d, sget cs k = some d → sget (.hp ((Hp.whole w).minus h) :: .hp h' :: cs) (k + 2) = some d := fun k d e => by simpa [sget] using e
  refine ⟨hc.os.trans hok.os, hc.tape.trans hok.tape, hc.output.trans hok.output, Nat.le_trans hok.size hc.size, Nat.le_trans hok.drawn hc.drawn, fun j d e => ?_, fun j k d d' hjk e1 e2 => ?_⟩
  · rw [sget_append] at e
    split at e
    · obtain ⟨d', h1, h2, h3⟩ := hlen j d e
      by_cases hj : j = i
      · rw [h3 hj]; exact hc.mem 1 _ rfl
      · rw [← h2 hj]; exact oldIn j d' hj h1
    · exact hc.mem _ d (cget _ d e)
  · have kk : ∀ j k d d', sget (sset s i (.hp h')) j = some d → sget cs k = some d' → d.h.dj d'.h := by
      intro j k d d' e1 e2
      obtain ⟨x, h1, h2, h3⟩ := hlen j d e1
      by_cases hj : j = i
      · rw [h3 hj]; exact hc.disj 1 (k + 2) _ _ (by omega) rfl (cget k d' e2)
      · rw [← h2 hj]; exact djl (old j x hj h1) (hc.disj 0 (k + 2) _ _ (by omega) rfl (cget k d' e2))
    rw [sget_append] at e1 e2
    split at e1 <;> split at e2
    · obtain ⟨x, h1, h2, h3⟩ := hlen j d e1
      obtain ⟨x', h1', h2', h3'⟩ := hlen k d' e2
      by_cases hj : j = i
      · have hk : k ≠ i := fun e => hjk (hj.trans e.symm)
        rw [h3 hj, ← h2' hk]
        exact (djl (old k x' hk h1') hdj).symm
      · by_cases hk : k = i
        · rw [h3' hk, ← h2 hj]
          exact djl (old j x hj h1) hdj
        · rw [← h2 hj, ← h2' hk]
          exact hok.disj j k x x' hjk h1 h1'
    · exact kk _ _ _ _ e1 e2
    · exact (kk _ _ _ _ e2 e1).symm
    · exact hc.disj _ _ d d' (by omega) (cget _ d e1) (cget _ d' e2)

theorem callM {P : Program} {s : List Ch} {f : Nat} {args : List Value} {q : TV → List Ch → Prop} {i : Nat} {h : Hp} (hi : sget s i = some (.hp h)) {R : Value → Hp → List Ch → Prop}
    (hc : ∀ w, Mem s w → CallsE P f args.toArray w (RetM w h R)) (k : ∀ v h' cs, R v h' cs → q (.v v) (sset s i (.hp h') ++ cs)) : NeedF P s f args q := by
  refine ⟨fun w0 w hok => ⟨(hc w hok.mem).1, (hc w hok.mem).2.mono fun e w' he => ?_⟩⟩
  obtain ⟨v, h', cs, rfl, h1, h2⟩ := he
  exact ⟨v, _, rfl, hok.callM hi h1, (Keep.set hi (fun b cs T e => by cases e)).trans (Keep.app _ cs), k v h' cs h2⟩

/-- The entry of a function that changes heaplet h. -/
theorem enterM {X : Ctx} (hX : X.Good) {f : Nat} {fn : Func} {c : Code} {args : List Value} {w : World} {h : Hp} (hin : h.In w) {R : Value → Hp → List Ch → Prop} (rs : List ResultVar)
    (hf : X.P.funcs[f]? = some fn) (hb : fn.body = some c) (hn : (fn.name == "runtime.NumGoroutine") = false) (hr : fn.results = rs.toArray) (hm : fn.ntmps = X.n) (hl : Nat.ble args.length X.n = true)
    (hwp : WP X c (fun e t s => match e with
      | .exit _ => False
      | _ => resk X s t rs fun v => ∃ h' cs, R v h' cs ∧ ∀ w', Ok w s w' → Ok w (.hp ((Hp.whole w).minus h) :: .hp h' :: cs) w') (iniT 0 args) [.hp ((Hp.whole w).minus h), .hp h]) :
    CallsE X.P f args.toArray w (RetM w h R) := by
  have hl := Nat.le_of_ble_eq_true hl
  refine ⟨fun w => ?_, calls_of_wp hf hb ?_⟩
  · have hn' : ¬ fn.name = "runtime.NumGoroutine" := by simpa using hn
    simp [callFunc, hf, hn', hb]
  · refine wp_mono (WP_sound hX c _ _ _ _ w hwp ⟨by simp [hm]; omega, rfl, fun i tv hi => ?_⟩ (Ok.start2 w hin)) fun e a w' hq => ?_
    · obtain ⟨v, rfl, _, h2⟩ := aget_iniT args 0 i tv hi
      refine ⟨v, rfl, ?_⟩
      have : i < args.length := (List.getElem?_eq_some_iff.1 (by simpa using h2)).1
      rw [Array.getElem?_append_left (by simpa using this)]
      simpa using h2
    · have fin : ∀ t s, Fr X.n t s a → Ok w s w' → (resk X s t rs fun v => ∃ h' cs, R v h' cs ∧ ∀ w', Ok w s w' → Ok w (.hp ((Hp.whole w).minus h) :: .hp h' :: cs) w') →
          a.defers = [] ∧ ∃ v, (results fn a.tmps).run X.P w' = .ok v w' ∧ RetM w h R (.returned v) w' := by
        intro t s hf' hok hk
        obtain ⟨v, h1, h', cs, h2, h3⟩ := resk_ok hX hf'.w hok.mem hk hr
        exact ⟨hf'.2.1, v, h1, v, h', cs, rfl, h3 w' hok, h2⟩
      cases e with
      | normal => obtain ⟨t, s, h1, h2, h3⟩ := hq; exact fin t s h1 h2 h3
      | ret => obtain ⟨t, s, h1, h2, h3⟩ := hq; exact fin t s h1 h2 h3
      | exit i => obtain ⟨t, s, h1, h2, h3⟩ := hq; exact h3.elim
      | goto l => exact hq.elim
      | panic c => exact hq.elim
      | outgrown => exact hq.elim

/-! ### Appending a slice to a slice -/
theorem Sl.src {α : Type} {f : α → List Value} {sz : Nat} (hf : ∀ x, (f x).length = sz) {h : Hp} {a : Option Addr} {n c : Nat} {L : List α} (hs : Sl (encF f) sz h a n c L) {w : World} (hin : h.In w) :
    (∃ c'', Value.slice a n c = .slice none 0 c'' ∧ n = 0) ∨ ∃ ad c', Value.slice a n c = .slice (some ad) n c' ∧ ∀ j u, (L.flatMap f)[j]? = some u → w.cell? (ad.add j) = some u := by
  cases a with
  | none =>
    left
    cases L with
    | nil => have := hs.len; simp at this; subst this; exact ⟨c, rfl, rfl⟩
    | cons x r => obtain ⟨b, off, cs, h1, _⟩ := hs.cells 0 (by simp); cases h1
  | some ad =>
    right
    refine ⟨ad, c, rfl, fun j u hj => ?_⟩
    have hlen : ∀ L : List α, (L.flatMap f).length = L.length * sz := fun L => by
      induction L with
      | nil => simp
      | cons x r ih => simp [List.flatMap_cons, hf, ih, Nat.succ_mul, Nat.add_comm]
    have hjl : j < L.length * sz := by rw [← hlen]; exact (List.getElem?_eq_some_iff.1 hj).1
    have hsz : 0 < sz := by rcases Nat.eq_zero_or_pos sz with h0 | h0; · rw [h0] at hjl; omega
                            · exact h0
    have hi : j / sz < L.length := Nat.div_lt_of_lt_mul (by rw [Nat.mul_comm]; exact hjl)
    obtain ⟨b, off, cs, h1, h2, h3, h4⟩ := hs.cells (j / sz) hi
    cases h1
    have hr : j % sz < sz := Nat.mod_lt _ hsz
    have hjj : j / sz * sz + j % sz = j := by rw [Nat.mul_comm]; exact Nat.div_add_mod j sz
    have e := flat_get f hf L (j / sz) (j % sz) hi hr
    rw [hjj] at e
    rw [e] at hj
    have := h4 (j % sz) u (by rw [show cs = f L[j / sz] from h3]; exact hj)
    rw [Addr.add_mk]
    rw [Nat.add_assoc, hjj] at this
    exact hin.cell this

theorem NeedE.emp {P : Program} {s : List Ch} {e : Sem Value} {q : TV → List Ch → Prop} (h : NeedE P (s ++ [.hp Hp.emp]) e q) : NeedE P s e q := by
  obtain ⟨h⟩ := h
  refine ⟨fun w0 w hok => ?_⟩
  obtain ⟨tv, v, w', s', h1, h2, h3, h4, h5⟩ := h w0 w hok.emp
  exact ⟨tv, v, w', s', h1, h2, (Keep.app s _).trans h3, h4, h5⟩

section
variable {X : Ctx} {s : List Ch}
/-- append(dst, src...), dst owned, src a slice that reads as L' in chunk k -/
theorem appS {α : Type} {f : α → List Value} (hX : X.Good) {T e ty : Nat} {te : TI} (hT : elsz X T = some (e, te)) (hf : ∀ x, (f x).length = te.size) (hone : ∀ x, allOne (f x) = true) {i : Nat} {o : Os} (hi : sget s i = some (.hp o.h)) {L : List α}
    (ho : OwnO f e te.size o L) {a : Option Addr} {n c : Nat} {L' : List α} {k : Nat} {h' : Hp} (hk : sget s k = some (.hp h')) (hs : Sl (encF f) te.size h' a n c L')
    (hby : Nat.ble te.bytes 140 = true) (hn : L.length + L'.length < 1000000000000) {q : TV → List Ch → Prop}
    (hq : ∀ o', OwnO f e te.size o' (L ++ L') → (o'.a = none → L ++ L' = []) → q (.v o'.v) (sset s i (.hp o'.h))) :
    NeedA X.P s #[T, T] ty o.v (.v (.slice a n c)) q := by
  obtain ⟨hl, ho⟩ := ho
  have hb := Nat.le_of_ble_eq_true hby
  have hm := Nat.mul_le_mul (show o.n + n ≤ 1000000000000 by have := hs.len; omega) hb
  have hlen : ∀ L : List α, (L.flatMap f).length = L.length * te.size := fun L => by
    induction L with
    | nil => simp
    | cons x r ih => simp [List.flatMap_cons, hf, ih, Nat.succ_mul, Nat.add_comm]
  refine ⟨.slice a n c, rfl, append_own hX hT hi ho (m := n) (news := L'.flatMap f) (by rw [hlen, hs.len]) (fun v hv => ?_) (by omega) (by have := hs.len; simp only [maxLen]; omega) (fun w hm => hs.src hf (hm k _ hk)) fun a' c' h' ho' hnil => hq ⟨a', o.n + n, c', h'⟩ ⟨?_, ?_⟩ fun ha => ?_⟩
  · obtain ⟨x, _, hx⟩ := List.mem_flatMap.1 hv
    exact allOne_sound (hone x) v hx
  · simp [hl, hs.len]
  · rw [List.flatMap_append]; exact ho'
  · have h0 := hnil ha
    have h2 := hs.len
    refine List.eq_nil_of_length_eq_zero ?_
    rw [List.length_append, ← hl, ← h2]
    exact h0

/-- append(dst, src...), dst of no element and no capacity: the result lies in a new chunk -/
theorem app0 {α : Type} {f : α → List Value} (hX : X.Good) {T e ty : Nat} {te : TI} (hT : elsz X T = some (e, te)) (hf : ∀ x, (f x).length = te.size) (hone : ∀ x, allOne (f x) = true) {a0 : Option Addr}
    {a : Option Addr} {n c : Nat} {L' : List α} {k : Nat} {h' : Hp} (hk : sget s k = some (.hp h')) (hs : Sl (encF f) te.size h' a n c L')
    (hby : Nat.ble te.bytes 140 = true) (hn : L'.length < 1000000000000) {q : TV → List Ch → Prop}
    (hq : ∀ o', OwnO f e te.size o' L' → q (.v o'.v) (s ++ [.hp o'.h])) :
    NeedA X.P s #[T, T] ty (.slice a0 0 0) (.v (.slice a n c)) q := by
  have hk' : sget (s ++ [.hp Hp.emp]) k = some (.hp h') := by
    rw [sget_append, if_pos]
    · exact hk
    · rw [sget_eq] at hk; exact (List.getElem?_eq_some_iff.1 hk).1
  have hset : ∀ c : Ch, sset (s ++ [.hp Hp.emp]) s.length c = s ++ [c] := fun c => by rw [sset_eq]; simp
  obtain ⟨yv, hy, h1⟩ := appS (s := s ++ [.hp Hp.emp]) (ty := ty) hX hT hf hone (i := s.length) (o := ⟨a0, 0, 0, Hp.emp⟩) (sget_last s _) (L := []) ⟨rfl, by simpa using Own.nil _ _ _ _⟩ hk' hs hby (by simpa using hn) (q := q)
    (fun o' ho' _ => by rw [hset]; exact hq o' (by simpa using ho'))
  exact ⟨yv, by simpa [TV.val] using hy, h1.emp⟩
end
end Go.Dw
namespace Go.Dw
open Go Go.RowKit

section
variable {X : Ctx} {s : List Ch}

/-- s[l:m] of a slice -/
theorem slq (hX : X.Good) {T e : Nat} {te : TI} (hT : elsz X T = some (e, te)) {a : Option Addr} {n c : Nat} (l m : Nat) {lo hi : Option Value}
    (hlo : (lo = none ∧ l = 0) ∨ ∃ k x, lo = some (.int k x) ∧ x = (l : Int)) (hhi : (hi = none ∧ m = n) ∨ ∃ k x, hi = some (.int k x) ∧ x = (m : Int)) (hlm : l ≤ m) (hmc : m ≤ c) {q : TV → Prop}
    (hq : q (.v (.slice (if c = l then a else a.map (·.add (l * te.size))) (m - l) (c - l)))) : NeedQ X.P s (Instr.sliceAt T (.slice a n c) lo hi none) q := by
  obtain ⟨hu, hg⟩ := elsz_spec hX hT
  obtain ⟨⟨inf, hinf, hs1, hs2, z, hz, hzc, hzl⟩, _⟩ := hg
  refine ⟨_, fun w _ => ?_, hq⟩
  have e1 : ((m : Int).toNat : Int) = m := rfl
  rcases hlo with ⟨rfl, rfl⟩ | ⟨k, x, rfl, rfl⟩ <;> rcases hhi with ⟨rfl, rfl⟩ | ⟨k', x', rfl, rfl⟩ <;>
    simp [Instr.sliceAt, Instr.slice, run_underlying hu, Instr.sliceBounds, run_sliceBound, sizeOf, typeInfo, hinf, hs1, hlm, hmc]

/-- the same, read as a list -/
theorem slS (hX : X.Good) {α : Type} {R : Enc α} {T e : Nat} {te : TI} (hT : elsz X T = some (e, te)) {h : Hp} {a : Option Addr} {n c : Nat} {L : List α} (hs : Sl R te.size h a n c L) (l m : Nat) {lo hi : Option Value}
    (hlo : (lo = none ∧ l = 0) ∨ ∃ k x, lo = some (.int k x) ∧ x = (l : Int)) (hhi : (hi = none ∧ m = n) ∨ ∃ k x, hi = some (.int k x) ∧ x = (m : Int)) (hlm : l ≤ m) (hmn : m ≤ n) {q : TV → Prop}
    (hq : ∀ a', Sl R te.size h a' (m - l) (c - l) ((L.take m).drop l) → q (.v (.slice a' (m - l) (c - l)))) : NeedQ X.P s (Instr.sliceAt T (.slice a n c) lo hi none) q := by
  have hlen := hs.len
  have hcap := hs.cap
  refine slq hX hT l m hlo hhi hlm (by omega) (hq _ ⟨by simp; omega, by omega, fun i hi => ?_⟩)
  simp only [List.length_drop, List.length_take] at hi
  obtain ⟨b, off, cs, rfl, h2, h3, h4⟩ := hs.cells (l + i) (by omega)
  refine ⟨b, off + l * te.size, cs, by rw [if_neg (by omega)]; simp [Addr.add_mk], h2, ?_, fun j v hj => ?_⟩
  · simpa using h3
  · have := h4 j v hj
    rw [Nat.add_mul] at this
    rwa [show off + l * te.size + i * te.size + j = off + (l * te.size + i * te.size) + j by omega]
end

/-! ### Owned queues -/
def OwnQ {α : Type} (f : α → List Value) (T sz : Nat) (o : Os) (L : List α) : Prop :=
  o.n = L.length ∧ (L.flatMap f).length = o.n * sz ∧ ((o.n = 0 ∧ o.c = 0) ∨ ∃ b off arr, o.a = some ⟨b, off, none⟩ ∧ o.h b = some (.cells arr T (0, 0)) ∧ o.n ≤ o.c ∧ o.c ≤ maxLen ∧ arr.size = off + o.c * sz ∧ (arr.toList.drop off).take (o.n * sz) = L.flatMap f)
theorem OwnO.q {α : Type} {f : α → List Value} {T sz : Nat} {o : Os} {L : List α} (h : OwnO f T sz o L) : OwnQ f T sz o L := by
  refine ⟨h.1, h.2.1, ?_⟩
  rcases h.2.2 with h0 | ⟨b, arr, h1, h2, h3, h4, h5, h6⟩
  · exact .inl h0
  · exact .inr ⟨b, 0, arr, h1, h2, h3, h4, by omega, by simpa using h6⟩
theorem OwnQ.len {α : Type} {f : α → List Value} {T sz : Nat} {o : Os} {L : List α} (h : OwnQ f T sz o L) : o.n = L.length := h.1
theorem OwnQ.cell {α : Type} {f : α → List Value} {T sz : Nat} {o : Os} {L : List α} (h : OwnQ f T sz o L) {j : Nat} {v : Value} (hj : (L.flatMap f)[j]? = some v) :
    ∃ b off, o.a = some ⟨b, off, none⟩ ∧ o.h.cell? ⟨b, off + j, none⟩ = some v := by
  rcases h.2.2 with ⟨h0, _⟩ | ⟨b, off, arr, h1, h2, h3, h4, h5, h6⟩
  · have := h.2.1; rw [h0] at this; simp only [Nat.zero_mul] at this
    have := List.eq_nil_of_length_eq_zero this
    rw [this] at hj; simp at hj
  · refine ⟨b, off, h1, ?_⟩
    rw [← h6, List.getElem?_take] at hj
    split at hj
    · rw [Hp.cell_block h2]; simpa using hj
    · cases hj
theorem OwnQ.sl {α : Type} {f : α → List Value} {T sz : Nat} (hf : ∀ x, (f x).length = sz) (h0 : 0 < sz) {o : Os} {L : List α} (ho : OwnQ f T sz o L) : Sl (encF f) sz o.h o.a o.n o.c L := by
  have hcap : o.n ≤ o.c := by
    rcases ho.2.2 with ⟨h0, h1⟩ | ⟨b, off, arr, h1, h2, h3, h4⟩ <;> omega
  refine ⟨ho.1, hcap, fun i hi => ?_⟩
  have get : ∀ j v, (f L[i])[j]? = some v → ∃ b off, o.a = some ⟨b, off, none⟩ ∧ o.h.cell? ⟨b, off + (i * sz + j), none⟩ = some v := fun j v hj => by
    have : j < sz := by rw [← hf L[i]]; exact (List.getElem?_eq_some_iff.1 hj).1
    exact ho.cell (by rw [flat_get f hf L i j hi this]; exact hj)
  have h00 : (f L[i])[0]? = some ((f L[i])[0]'(by rw [hf]; exact h0)) := List.getElem?_eq_getElem (by rw [hf]; exact h0)
  obtain ⟨b, off, e1, _⟩ := get 0 _ h00
  refine ⟨b, off, f L[i], e1, hf _, rfl, fun j v hj => ?_⟩
  obtain ⟨b', off', e, h4⟩ := get j v hj
  rw [e1] at e; cases e
  simpa [Nat.add_assoc] using h4

section
variable {X : Ctx} {s : List Ch}
/-- the tail of a queue -/
theorem qtail {α : Type} {f : α → List Value} (hX : X.Good) {T e : Nat} {te : TI} (hT : elsz X T = some (e, te)) (hf : ∀ x, (f x).length = te.size) {o : Os} {x : α} {L : List α} (ho : OwnQ f e te.size o (x :: L)) {k : IntKind} {q : TV → Prop}
    (hq : ∀ o', OwnQ f e te.size o' L → o'.h = o.h → q (.v o'.v)) : NeedQ X.P s (Instr.sliceAt T o.v (some (.int k 1)) none none) q := by
  have hn := ho.1
  simp only [List.length_cons] at hn
  have hfl := ho.2.1
  have h11 : (1 : Int) = ((1 : Nat) : Int) := rfl
  rcases ho.2.2 with ⟨h0, _⟩ | ⟨b, off, arr, h1, h2, h3, h4, h5, h6⟩
  · omega
  · refine slq hX hT 1 o.n (.inr ⟨_, _, rfl, h11⟩) (.inl ⟨rfl, rfl⟩) (by omega) h3 (hq ⟨if o.c = 1 then o.a else o.a.map (·.add (1 * te.size)), o.n - 1, o.c - 1, o.h⟩ ⟨by simp; omega, ?_, ?_⟩ rfl)
    · simp only [List.flatMap_cons, List.length_append, hf] at hfl
      rw [hn, Nat.add_mul] at hfl
      simp only [hn, Nat.add_sub_cancel]
      omega
    · by_cases hc : o.c = 1
      · exact .inl ⟨by simp only; omega, by simp only; omega⟩
      · refine .inr ⟨b, off + te.size, arr, by simp only [Nat.one_mul]; rw [if_neg hc, h1]; simp [Addr.add_mk], h2, by simp only; omega, by simp only; omega, ?_, ?_⟩
        · simp only
          obtain ⟨c', hc'⟩ : ∃ c', o.c = c' + 1 := ⟨o.c - 1, by omega⟩
          rw [h5, hc', Nat.add_mul]
          simp only [Nat.add_sub_cancel]
          omega
        · simp only [hn, Nat.add_sub_cancel]
          rw [hn, Nat.add_mul, Nat.one_mul] at h6
          have h7 : (List.flatMap f (x :: L)).drop te.size = L.flatMap f := by rw [List.flatMap_cons, ← hf x]; exact List.drop_left
          rw [← h7, ← h6, List.drop_take, List.drop_drop, Nat.add_sub_cancel]

/-- append of one element to a queue -/
theorem appQ {α : Type} {f : α → List Value} (hX : X.Good) {T e ty : Nat} {te : TI} (hT : elsz X T = some (e, te)) {i : Nat} {o : Os} (hi : sget s i = some (.hp o.h)) {L : List α}
    (ho : OwnQ f e te.size o L) {j b e' : Nat} (x : α) (hj : sget s j = some (.box b (f x) e')) (hf : (f x).length = te.size) (h1 : allOne (f x) = true)
    (hby : Nat.ble te.bytes 140 = true) (hn : L.length < 1000000000000) {q : TV → List Ch → Prop}
    (hq : ∀ o', OwnQ f e te.size o' (L ++ [x]) → q (.v o'.v) (sset s i (.hp o'.h))) :
    NeedA X.P s #[T, T] ty o.v (.bs j 1) q := by
  have hb := Nat.le_of_ble_eq_true hby
  have hmb := Nat.mul_le_mul (show L.length + 1 ≤ 1000000000000 by omega) hb
  have hlen := ho.1
  have hfl := ho.2.1
  rcases ho.2.2 with h0 | ⟨b1, off, arr, h1', h2, h3, h4, h5, h6⟩
  · refine appO (o := o) (L := L) hX hT hi ⟨ho.1, ho.2.1, .inl h0⟩ x hj hf h1 hby hn fun o' ho' => hq o' ho'.q
  · refine ⟨.slice (some ⟨b, 0, none⟩) 1 1, by simp [TV.val, hj], ?_⟩
    obtain ⟨hu, hg⟩ := elsz_spec hX hT
    obtain ⟨⟨inf, hinf, hs1, hs2, z, hz, hzc, hzl⟩, _⟩ := hg
    refine ⟨fun w0 w hok => ?_⟩
    have hcells : ∀ j' u, (f x)[j']? = some u → w.cell? ((⟨b, 0, none⟩ : Addr).add j') = some u := fun k u hk => by
      rw [Addr.add_mk, Nat.zero_add]
      exact box_cell hok.mem hj hk
    have keep : ∀ h', Keep s (sset s i (.hp h')) := fun h' => Keep.set hi (fun b cs T e => by cases e)
    have hlen' : (List.flatMap f (L ++ [x])).length = (o.n + 1) * te.size := by simp only [List.flatMap_append, List.length_append, hfl, List.flatMap_cons, List.flatMap_nil, List.append_nil, hf, Nat.add_mul, Nat.one_mul]
    have hov : o.v = .slice (some ⟨b1, off, none⟩) o.n o.c := by rw [Os.v, h1']
    by_cases hroom : o.n + 1 ≤ o.c
    · have hblk := hok.mem i _ hi b1 _ h2
      have hfit : off + o.n * inf.size + (f x).length ≤ arr.size := by
        have := Nat.mul_le_mul_right te.size hroom
        rw [Nat.add_mul, Nat.one_mul] at this
        rw [hs1, hf, h5]; omega
      have hfc := run_firstCells_some (P := X.P) w inf.size 1 ⟨b, 0, none⟩ 1 1 (f x) (by rw [hs1, hf]; omega) hcells
      have hst := run_storeCells_at X.P b1 (off + o.n * inf.size) e (f x) 0 arr w hblk (by simpa using hfit) (allOne_sound h1)
      simp only [Nat.add_zero] at hst
      have hr : (Builtin.append_ #[T, T] ty #[o.v, .slice (some ⟨b, 0, none⟩) 1 1]).run X.P w = .ok (.slice (some ⟨b1, off, none⟩) (o.n + 1) o.c) (w.setRow b1 (arr.toList.take (off + o.n * inf.size) ++ (f x) ++ arr.toList.drop (off + o.n * inf.size + (f x).length)).toArray) := by
        rw [hov]
        simp [Builtin.append_, run_underlying hu, sizeOf, typeInfo, hinf, Builtin.lenOf, hroom, hfc, Addr.add_lit, hst]
      refine ⟨.v _, _, _, _, hr, Own.row hok hi h2, keep _, rfl, hq ⟨some ⟨b1, off, none⟩, o.n + 1, o.c, _⟩ ⟨by simp [hlen], hlen', .inr ⟨b1, off, _, rfl, Hp.upd_self _ _ _, hroom, h4, ?_, ?_⟩⟩⟩
      · simp only [List.size_toArray, List.length_append, List.length_take, List.length_drop, Array.length_toList]
        omega
      · simp only
        rw [hs1, List.drop_append_of_le_length (by simp; omega), List.drop_append_of_le_length (by simp; omega), List.drop_take, Nat.add_sub_cancel_left, h6, List.take_append_of_le_length (by simp only [List.length_append, hf, hfl, Nat.add_mul, Nat.one_mul]; omega), List.take_of_length_le (by simp only [List.length_append, hf, hfl, Nat.add_mul, Nat.one_mul]; omega)]
        simp
    · have holds : ∀ j u, (L.flatMap f)[j]? = some u → w.cell? ((⟨b1, off, none⟩ : Addr).add j) = some u := fun j u hu => by
        obtain ⟨b', off', e1, h4⟩ := ho.cell hu
        rw [h1'] at e1; cases e1
        rw [Addr.add_mk]
        exact (hok.mem i _ hi).cell h4
      have hr := run_append_grow (P := X.P) w T ty e inf z hu hinf hz ⟨b1, off, none⟩ o.n o.c (L.flatMap f) (by rw [hs1]; exact hfl) holds ⟨b, 0, none⟩ 1 1 (f x) (by rw [hs1, hf]; omega) hcells (by omega) (by omega) (growslice_fits (by omega) (by rw [hs2, hlen]; omega))
      have hge := grownCap_ge w (o.n + 1) o.c e
      have hcm' := grownCap_le_maxLen w (o.n + 1) o.c e (by unfold maxLen; omega)
      rw [← hov] at hr
      refine ⟨.v _, _, _, _, hr, Own.move hok hi _, keep _, rfl, hq ⟨some ⟨w.heap.size, 0, none⟩, o.n + 1, grownCap w (o.n + 1) o.c e, _⟩ ⟨by simp [hlen], hlen', .inr ⟨_, 0, _, rfl, Hp.one_self _ _, hge, hcm', ?_, ?_⟩⟩⟩
      · simp only [Array.size_append, List.size_toArray, size_zeroCells, hzc, hzl, hfl, hf]
        obtain ⟨d, hd⟩ : ∃ d, grownCap w (o.n + 1) o.c e = (o.n + 1) + d := ⟨grownCap w (o.n + 1) o.c e - (o.n + 1), by omega⟩
        rw [hd, show o.n + 1 + d - (o.n + 1) = d by omega]
        simp only [Nat.add_mul, Nat.one_mul]
        omega
      · simp only [Array.toList_append, List.drop_zero]
        rw [show List.flatMap f (L ++ [x]) = L.flatMap f ++ f x by simp, ← hlen', show (List.flatMap f (L ++ [x])).length = (L.flatMap f ++ f x).length by simp]
        exact List.take_left
end
end Go.Dw
namespace Go.Dw
open Go Go.RowKit

theorem Hp.dj_le {h k h' : Hp} (d : h.dj k) (l : h'.le h) : h'.dj k := fun b => by
  rcases d b with e | e
  · left
    cases hb : h' b with
    | none => rfl
    | some o => rw [l b o hb] at e; cases e
  · exact .inr e
theorem Hp.dj_join {h d e : Hp} (h1 : h.dj d) (h2 : h.dj e) : h.dj (d.join e) := fun b => by
  by_cases hx : h b = none
  · exact .inl hx
  · right
    have e1 := (h1 b).resolve_left hx
    have e2 := (h2 b).resolve_left hx
    simp [Hp.join, e1, e2]
theorem sget_put {s : List Ch} {i : Nat} {c c0 : Ch} (hi : sget s i = some c0) (k : Nat) : sget (sset s i c) k = if k = i then some c else sget s k := by
  rw [sget_eq] at hi
  rw [sget_eq, sget_eq, sset_eq, List.getElem?_set]
  have := (List.getElem?_eq_some_iff.1 hi).1
  by_cases h : k = i
  · subst h; simp [this]
  · simp [h, Ne.symm h]
theorem sset_len (s : List Ch) (i : Nat) (c : Ch) : (sset s i c).length = s.length := by rw [sset_eq]; simp
theorem Ok.part {w0 w : World} {s : List Ch} {i : Nat} {H d e : Hp} (hok : Ok w0 s w) (hi : sget s i = some (.hp H)) (hd : d.le H) (he : e.le H) (hdj : d.dj e) : Ok w0 (sset s i (.hp d) ++ [.hp e]) w := by
  have hlt : i < s.length := by rw [sget_eq] at hi; exact (List.getElem?_eq_some_iff.1 hi).1
  have get : ∀ k c, sget (sset s i (.hp d) ++ [.hp e]) k = some c → (k < s.length ∧ k ≠ i ∧ sget s k = some c) ∨ (k = i ∧ c = .hp d) ∨ (k = s.length ∧ c = .hp e) := fun k c hc => by
    rw [sget_append, sset_len] at hc
    split at hc
    · rename_i hk
      rw [sget_put hi] at hc
      split at hc
      · rename_i e; cases hc; exact .inr (.inl ⟨e, rfl⟩)
      · rename_i e; exact .inl ⟨hk, e, hc⟩
    · match hk : k - s.length, hc with
      | 0, hc => simp [sget] at hc; exact .inr (.inr ⟨by omega, hc.symm⟩)
  refine ⟨hok.os, hok.tape, hok.output, hok.size, hok.drawn, fun k c hc => ?_, fun j k c c' hjk h1 h2 => ?_⟩
  · rcases get k c hc with ⟨_, _, h⟩ | ⟨_, rfl⟩ | ⟨_, rfl⟩
    · exact hok.mem k c h
    · exact (hok.mem i _ hi).le hd
    · exact (hok.mem i _ hi).le he
  · rcases get j c h1 with ⟨_, hj, g1⟩ | ⟨rfl, rfl⟩ | ⟨rfl, rfl⟩ <;> rcases get k c' h2 with ⟨_, hk, g2⟩ | ⟨rfl, rfl⟩ | ⟨rfl, rfl⟩
    · exact hok.disj j k c c' hjk g1 g2
    · exact (Hp.dj_le (hok.disj _ _ _ _ (Ne.symm hj) hi g1) hd).symm
    · exact (Hp.dj_le (hok.disj _ _ _ _ (Ne.symm hj) hi g1) he).symm
    · exact Hp.dj_le (hok.disj _ _ _ _ (Ne.symm hk) hi g2) hd
    · exact absurd rfl hjk
    · exact hdj
    · exact Hp.dj_le (hok.disj _ _ _ _ (Ne.symm hk) hi g2) he
    · exact hdj.symm
    · exact absurd rfl hjk
theorem Ok.unpart {w0 w : World} {s : List Ch} {i : Nat} {c0 : Ch} {d e : Hp} (hi : sget s i = some c0) (hok : Ok w0 (sset s i (.hp d) ++ [.hp e]) w) : Ok w0 (sset s i (.hp (d.join e))) w ∧ d.dj e := by
  have hlt : i < s.length := by rw [sget_eq] at hi; exact (List.getElem?_eq_some_iff.1 hi).1
  have gi : sget (sset s i (.hp d) ++ [.hp e]) i = some (.hp d) := by rw [sget_append, sset_len, if_pos hlt, sget_put hi, if_pos rfl]
  have ge : sget (sset s i (.hp d) ++ [.hp e]) s.length = some (.hp e) := by rw [sget_append, sset_len, if_neg (by omega), Nat.sub_self]; rfl
  have gk : ∀ k c, k ≠ i → sget s k = some c → sget (sset s i (.hp d) ++ [.hp e]) k = some c ∧ k ≠ s.length := fun k c hk hc => by
    have : k < s.length := by rw [sget_eq] at hc; exact (List.getElem?_eq_some_iff.1 hc).1
    exact ⟨by rw [sget_append, sset_len, if_pos this, sget_put hi, if_neg hk]; exact hc, by omega⟩
  refine ⟨⟨hok.os, hok.tape, hok.output, hok.size, hok.drawn, fun k c hc => ?_, fun j k c c' hjk h1 h2 => ?_⟩, hok.disj _ _ _ _ (by omega) gi ge⟩
  · rw [sget_put hi] at hc
    split at hc
    · cases hc
      intro b o hb
      have hb : (match d b with | some o => some o | none => e b) = some o := hb
      cases hd : d b with
      | some o' => rw [hd] at hb; cases hb; exact hok.mem i _ gi b o hd
      | none => rw [hd] at hb; exact hok.mem _ _ ge b o hb
    · rename_i hk; exact hok.mem k c (gk k c hk hc).1
  · rw [sget_put hi] at h1 h2
    split at h1 <;> split at h2
    · omega
    · rename_i hj hk
      cases h1
      have := gk k c' hk h2
      exact (Hp.dj_join (hok.disj _ _ _ _ hk this.1 gi) (hok.disj _ _ _ _ this.2 this.1 ge)).symm
    · rename_i hj hk
      cases h2
      have := gk j c hj h1
      exact Hp.dj_join (hok.disj _ _ _ _ hj this.1 gi) (hok.disj _ _ _ _ this.2 this.1 ge)
    · rename_i hj hk
      exact hok.disj _ _ _ _ hjk (gk j c hj h1).1 (gk k c' hk h2).1
/-- an operation that needs one part of chunk i alone -/
theorem NeedE.part {P : Program} {s : List Ch} {i : Nat} {H d e : Hp} {E : Sem Value} {q : TV → List Ch → Prop} (hi : sget s i = some (.hp H)) (hd : d.le H) (he : e.le H) (hdj : d.dj e)
    (h : NeedE P (sset s i (.hp d) ++ [.hp e]) E fun tv s' => ∃ v d', tv = .v v ∧ s' = sset s i (.hp d') ++ [.hp e] ∧ (d'.dj e → q (.v v) (sset s i (.hp (d'.join e))))) : NeedE P s E q := by
  obtain ⟨h⟩ := h
  refine ⟨fun w0 w hok => ?_⟩
  obtain ⟨tv, v, w', s', h1, h2, h3, h4, v', d', rfl, rfl, h5⟩ := h w0 w (hok.part hi hd he hdj)
  have := h2.unpart hi
  exact ⟨.v v', v, w', _, h1, this.1, Keep.set hi (fun b cs T e => by cases e), h4, h5 this.2⟩

/-! ### Rows that the call owns -/
structure Rws {α : Type} (f : α → List Value) (T sz : Nat) (H : Hp) (os : List Os) (LL : List (List α)) : Prop where
  len : os.length = LL.length
  own : ∀ (i : Nat) (o : Os) (L : List α), os[i]? = some o → LL[i]? = some L → OwnO f T sz o L ∧ o.h.le H
  dj : ∀ (i j : Nat) (o o' : Os), i ≠ j → os[i]? = some o → os[j]? = some o' → o.h.dj o'.h
theorem Rws.init {α : Type} (f : α → List Value) (T sz : Nat) (H : Hp) (n : Nat) : Rws f T sz H (List.replicate n Os.nil) (List.replicate n []) := by
  refine ⟨by simp, fun i o L h1 h2 => ?_, fun i j o o' _ h1 h2 => ?_⟩
  · rw [List.getElem?_replicate] at h1 h2
    split at h1
    · cases h1
      rw [if_pos (by assumption)] at h2
      cases h2
      exact ⟨OwnO.nil _ _ _, fun b o h => by cases h⟩
    · cases h1
  · rw [List.getElem?_replicate] at h1
    split at h1
    · cases h1; exact fun b => .inl rfl
    · cases h1
def fV (v : Value) : List Value := [v]
def Os.row (o : Os) : List Value := [o.v]

section
variable {X : Ctx} {s : List Ch}
/-- append of one element to row k -/
theorem appR {α : Type} {f : α → List Value} (hX : X.Good) {T e ty : Nat} {te : TI} (hT : elsz X T = some (e, te)) {i : Nat} {H : Hp} (hi : sget s i = some (.hp H)) {os : List Os} {LL : List (List α)}
    (hr : Rws f e te.size H os LL) {k : Nat} (hk : k < LL.length) {y : Value} (hy : y = (os[k]'(by rw [hr.len]; exact hk)).v) {j b e' : Nat} (x : α) (hj : sget s j = some (.box b (f x) e')) (hf : (f x).length = te.size) (h1 : allOne (f x) = true)
    (hby : Nat.ble te.bytes 140 = true) (hn : LL[k].length < 1000000000000) {q : TV → List Ch → Prop}
    (hq : ∀ o' H', Rws f e te.size H' (os.set k o') (LL.set k (LL[k] ++ [x])) → q (.v o'.v) (sset s i (.hp H'))) :
    NeedA X.P s #[T, T] ty y (.bs j 1) q := by
  subst hy
  have hk' : k < os.length := by rw [hr.len]; exact hk
  have gk := List.getElem?_eq_getElem hk'
  have gl := List.getElem?_eq_getElem hk
  obtain ⟨ho, hle⟩ := hr.own k _ _ gk gl
  have hij : j ≠ i := fun e => by subst e; rw [hi] at hj; cases hj
  have hlt : j < s.length := by rw [sget_eq] at hj; exact (List.getElem?_eq_some_iff.1 hj).1
  have hlti : i < s.length := by rw [sget_eq] at hi; exact (List.getElem?_eq_some_iff.1 hi).1
  have hj2 : sget (sset s i (.hp os[k].h) ++ [.hp (H.minus os[k].h)]) j = some (.box b (f x) e') := by
    rw [sget_append, sset_len, if_pos hlt, sget_put hi, if_neg hij]; exact hj
  have hi2 : sget (sset s i (.hp os[k].h) ++ [.hp (H.minus os[k].h)]) i = some (.hp os[k].h) := by
    rw [sget_append, sset_len, if_pos hlti, sget_put hi, if_pos rfl]
  have step := appO hX hT (ty := ty) hi2 ho x hj2 hf h1 hby hn (q := fun tv s' => ∃ v d', tv = .v v ∧ s' = sset s i (.hp d') ++ [.hp (H.minus os[k].h)] ∧ (d'.dj (H.minus os[k].h) → q (.v v) (sset s i (.hp (d'.join (H.minus os[k].h)))))) ?_
  · obtain ⟨yv, hy, he⟩ := step
    refine ⟨yv, ?_, NeedE.part hi hle (Hp.minus_le _ _) (Hp.minus_dj _ _).symm he⟩
    simp only [TV.val, hj2] at hy
    simp only [TV.val, hj]
    exact hy
  · intro o' ho'
    refine ⟨o'.v, o'.h, rfl, ?_, fun hdj => hq o' _ ⟨?_, fun i' o L g1 g2 => ?_, fun i' j' o o2 hne g1 g2 => ?_⟩⟩
    · simp only [sset_eq]
      rw [List.set_append_left _ _ (by simpa using hlti), List.set_set]
    · simp [hr.len]
    · rw [List.getElem?_set] at g1 g2
      by_cases hki : k = i'
      · subst hki
        rw [if_pos rfl, if_pos (by assumption)] at g1 g2
        cases g1; cases g2
        exact ⟨ho', Hp.le_join_l _ _⟩
      · rw [if_neg hki] at g1 g2
        obtain ⟨h1, h2⟩ := hr.own i' o L g1 g2
        exact ⟨h1, fun b ob hb => Hp.le_join_r hdj b ob (Hp.le_minus h2 (hr.dj i' k _ _ (Ne.symm hki) g1 gk) b ob hb)⟩
    · rw [List.getElem?_set] at g1 g2
      have rest : ∀ i' o, k ≠ i' → os[i']? = some o → o.h.dj o'.h := fun i' o hki g => by
        have : o.h.le (H.minus os[k].h) := by
          have hl : i' < LL.length := by rw [← hr.len]; exact (List.getElem?_eq_some_iff.1 g).1
          exact Hp.le_minus (hr.own i' o _ g (List.getElem?_eq_getElem hl)).2 (hr.dj i' k _ _ (Ne.symm hki) g gk)
        exact Hp.dj_le hdj.symm this
      by_cases hki : k = i' <;> by_cases hkj : k = j'
      · omega
      · subst hki
        rw [if_pos rfl, if_pos hk'] at g1
        rw [if_neg hkj] at g2
        cases g1
        exact (rest j' o2 hkj g2).symm
      · subst hkj
        rw [if_pos rfl, if_pos hk'] at g2
        rw [if_neg hki] at g1
        cases g2
        exact rest i' o hki g1
      · rw [if_neg hki] at g1
        rw [if_neg hkj] at g2
        exact hr.dj i' j' o o2 hne g1 g2
end
/-- a row of a heaplet of its own is put in the place of another -/
theorem Rws.put {α : Type} {f : α → List Value} {T sz : Nat} {H : Hp} {os : List Os} {LL : List (List α)} (hr : Rws f T sz H os LL) {o : Os} {L : List α} (ho : OwnO f T sz o L) (hdj : H.dj o.h) (k : Nat) : Rws f T sz (H.join o.h) (os.set k o) (LL.set k L) := by
  refine ⟨by simp [hr.len], fun i oi Li g1 g2 => ?_, fun i j oi oj hne g1 g2 => ?_⟩
  · rw [List.getElem?_set] at g1 g2
    by_cases h : k = i
    · subst h
      rw [if_pos rfl] at g1 g2
      split at g1
      · rw [if_pos (by rw [← hr.len]; assumption)] at g2
        cases g1; cases g2
        exact ⟨ho, Hp.le_join_r hdj⟩
      · cases g1
    · rw [if_neg h] at g1 g2
      obtain ⟨h1, h2⟩ := hr.own i _ _ g1 g2
      exact ⟨h1, h2.trans (Hp.le_join_l _ _)⟩
  · rw [List.getElem?_set] at g1 g2
    have old : ∀ (i : Nat) (oi : Os), os[i]? = some oi → oi.h.le H := fun i oi g => by
      have : i < LL.length := by rw [← hr.len]; exact (List.getElem?_eq_some_iff.1 g).1
      exact (hr.own i oi _ g (List.getElem?_eq_getElem this)).2
    by_cases hi : k = i <;> by_cases hj : k = j
    · omega
    · rw [if_pos hi] at g1
      rw [if_neg hj] at g2
      split at g1
      · cases g1; exact (Hp.dj_le hdj (old _ _ g2)).symm
      · cases g1
    · rw [if_neg hi] at g1
      rw [if_pos hj] at g2
      split at g2
      · cases g2; exact Hp.dj_le hdj (old _ _ g1)
      · cases g2
    · rw [if_neg hi] at g1
      rw [if_neg hj] at g2
      exact hr.dj i j _ _ hne g1 g2
theorem Rws.nil {α : Type} (f : α → List Value) (T sz : Nat) (H : Hp) : Rws f T sz H [] [] := Rws.init f T sz H 0
/-- one more row -/
theorem Rws.push {α : Type} {f : α → List Value} {T sz : Nat} {H : Hp} {os : List Os} {LL : List (List α)} (hr : Rws f T sz H os LL) {o : Os} {L : List α} (ho : OwnO f T sz o L) (hdj : H.dj o.h) : Rws f T sz (H.join o.h) (os ++ [o]) (LL ++ [L]) := by
  have h1 : Rws f T sz H (os ++ [Os.nil]) (LL ++ [[]]) := by
    refine ⟨by simp [hr.len], fun i oi Li g1 g2 => ?_, fun i j oi oj hne g1 g2 => ?_⟩
    · rw [List.getElem?_append] at g1 g2
      by_cases h : i < os.length
      · rw [if_pos h] at g1
        rw [if_pos (by rw [← hr.len]; exact h)] at g2
        exact hr.own i _ _ g1 g2
      · rw [if_neg h] at g1
        rw [if_neg (by rw [← hr.len]; exact h)] at g2
        have hz : i - os.length = 0 := by have := (List.getElem?_eq_some_iff.1 g1).1; simp at this; omega
        rw [hz] at g1
        rw [← hr.len, hz] at g2
        cases g1; cases g2
        exact ⟨OwnO.nil _ _ _, fun b o h => by cases h⟩
    · rw [List.getElem?_append] at g1 g2
      have nl : ∀ i (oi : Os), ¬ i < os.length → [Os.nil][i - os.length]? = some oi → oi = Os.nil := fun i oi h g => by
        have hz : i - os.length = 0 := by have := (List.getElem?_eq_some_iff.1 g).1; simp at this; omega
        rw [hz] at g; cases g; rfl
      split at g1
      · split at g2
        · exact hr.dj i j _ _ hne g1 g2
        · rw [nl j oj (by assumption) g2]; exact fun b => .inr rfl
      · rw [nl i oi (by assumption) g1]; exact fun b => .inl rfl
  have h2 := h1.put ho hdj os.length
  rw [List.set_append_right _ _ (Nat.le_refl _), List.set_append_right _ _ (by rw [hr.len]; exact Nat.le_refl _)] at h2
  simpa [hr.len] using h2
/-- rows are read -/
theorem Rws.sl {α : Type} {f : α → List Value} {T sz T' : Nat} (hf : ∀ x, (f x).length = sz) (h0 : 0 < sz) {H : Hp} {os : List Os} {LL : List (List α)} (hr : Rws f T sz H os LL) {o : Os} (ho : OwnO Os.row T' 1 o os) (hdj : o.h.dj H) : Sl (encS (encF f) sz) 1 (o.h.join H) o.a o.n o.c LL := by
  have hs := OwnO.sl (f := Os.row) (fun _ => rfl) (by decide) ho
  refine ⟨by rw [hs.len, hr.len], hs.cap, fun i hi => ?_⟩
  have hi' : i < os.length := by rw [hr.len]; exact hi
  obtain ⟨b, off, cs, h1, h2, h3, h4⟩ := hs.cells i hi'
  obtain ⟨g1, g2⟩ := hr.own i _ _ (List.getElem?_eq_getElem hi') (List.getElem?_eq_getElem hi)
  refine ⟨b, off, cs, h1, h2, ⟨_, _, _, h3, ?_⟩, fun j v hj => (Hp.le_join_l _ _).cell (h4 j v hj)⟩
  exact (g1.sl hf h0).mono (encF_mono _) (g2.trans (Hp.le_join_r hdj))
/-- a region that draws ends in a state of our choice, whatever the order -/
theorem NeedD.cut {X : Ctx} {ops : List Oper} {Q : Tm → List Ch → Prop} {t : Tm} {s : List Ch} (G : Type) (I : G → Tm) (S : G → List Ch) (R : G → Prop)
    (h : NeedD X ops (fun t s => ∃ g, R g ∧ Ent t s (I g) (S g)) t s) (k : ∀ g, R g → Sat (S g) → Q (I g) (S g)) : NeedD X ops Q t s := by
  obtain ⟨h⟩ := h
  refine ⟨fun w0 w a Q' hok hf hQ hP => h w0 w a Q' hok hf (fun t s a w hok hf ⟨g, hR, he⟩ => ?_) hP⟩
  obtain ⟨hok', hf'⟩ := he _ w0 w a hok hf
  exact hQ _ _ a w hok' hf' (k g hR ⟨w0, w, hok'⟩)
end Go.Dw
namespace Go.Dw
open Go Go.RowKit

theorem Sl.drop {α : Type} {R : Enc α} {sz : Nat} {h : Hp} {b off n c : Nat} {L : List α} (hs : Sl R sz h (some ⟨b, off, none⟩) n c L) (l : Nat) (hl : l ≤ n) : Sl R sz h (some ⟨b, off + l * sz, none⟩) (n - l) (c - l) (L.drop l) := by
  have hlen := hs.len
  have hcap := hs.cap
  refine ⟨by simp; omega, by omega, fun i hi => ?_⟩
  simp only [List.length_drop] at hi
  obtain ⟨b', off', cs, e, h2, h3, h4⟩ := hs.cells (l + i) (by omega)
  cases e
  refine ⟨b, off + l * sz, cs, rfl, h2, by simpa using h3, fun j v hj => ?_⟩
  have := h4 j v hj
  rw [Nat.add_mul] at this
  rwa [show off + l * sz + i * sz + j = off + (l * sz + i * sz) + j by omega]
theorem flatN {α : Type} {f : α → List Value} {sz : Nat} (hf : ∀ x, (f x).length = sz) : ∀ L : List α, (L.flatMap f).length = L.length * sz
  | [] => by simp
  | x :: r => by rw [List.flatMap_cons, List.length_append, hf, flatN hf r, List.length_cons, Nat.succ_mul]; omega
theorem flat_take {α : Type} {f : α → List Value} {sz : Nat} (hf : ∀ x, (f x).length = sz) : ∀ (L : List α) (k : Nat), (L.flatMap f).take (k * sz) = (L.take k).flatMap f
  | L, 0 => by simp
  | [], k + 1 => by simp
  | x :: r, k + 1 => by
    rw [List.flatMap_cons, List.take_succ_cons, List.flatMap_cons, Nat.succ_mul, Nat.add_comm (k * sz), ← hf x, List.take_length_add_append, hf x, flat_take hf r k]
theorem flat_drop {α : Type} {f : α → List Value} {sz : Nat} (hf : ∀ x, (f x).length = sz) : ∀ (L : List α) (k : Nat), (L.flatMap f).drop (k * sz) = (L.drop k).flatMap f
  | L, 0 => by simp
  | [], k + 1 => by simp
  | x :: r, k + 1 => by
    rw [List.flatMap_cons, List.drop_succ_cons, Nat.succ_mul, Nat.add_comm (k * sz), ← hf x, List.drop_length_add_append, hf x, flat_drop hf r k]
theorem flat_set {α : Type} {f : α → List Value} {sz : Nat} (hf : ∀ x, (f x).length = sz) (L : List α) (k : Nat) (hk : k < L.length) (x : α) : (L.flatMap f).take (k * sz) ++ f x ++ (L.flatMap f).drop (k * sz + sz) = (L.set k x).flatMap f := by
  rw [flat_take hf, show k * sz + sz = (k + 1) * sz by rw [Nat.succ_mul], flat_drop hf, List.set_eq_take_append_cons_drop, if_pos hk]
  simp

section
variable {X : Ctx} {s : List Ch}
/-- s[:k] of an owned slice is owned -/
theorem OwnO.take {α : Type} {f : α → List Value} {T sz : Nat} (hf : ∀ x, (f x).length = sz) {o : Os} {L : List α} (ho : OwnO f T sz o L) (k : Nat) (hk : k ≤ o.n) : OwnO f T sz ⟨o.a, k, o.c, o.h⟩ (L.take k) := by
  have hn := ho.len
  have hkm : min k L.length = k := by omega
  refine ⟨by simp [hkm], by rw [flatN hf]; simp [hkm], ?_⟩
  rcases ho.2.2 with ⟨h0, h1⟩ | ⟨b, arr, h1, h2, h3, h4, h5, h6⟩
  · exact .inl ⟨by dsimp only; omega, h1⟩
  · refine .inr ⟨b, arr, h1, h2, by dsimp only; omega, h4, h5, ?_⟩
    rw [← flat_take hf, ← h6, List.take_take, Nat.min_eq_left (Nat.mul_le_mul_right _ hk)]
/-- the pointer to an element of an owned slice -/
theorem oidxN {α : Type} {f : α → List Value} (hX : X.Good) {T e : Nat} {te : TI} (hT : elsz X T = some (e, te)) {o : Os} {L : List α} (ho : OwnO f e te.size o L) {x : Int} (k : Nat) (hx : x = k) (hk : k < L.length) {q : TV → Prop}
    (hq : ∀ b, o.a = some ⟨b, 0, none⟩ → q (.v (.pointer (some ⟨b, 0 + k * te.size, none⟩)))) : NeedQ X.P s (Instr.indexAt T o.v (.int .i64 x)) q := by
  obtain ⟨hl, ho⟩ := ho
  exact oidx hX hT ho k hx (by omega) fun b hb => hq b hb
/-- store of an element of many cells -/
theorem ostoN {α : Type} {f : α → List Value} (hX : X.Good) {T e sz : Nat} (hf : ∀ x, (f x).length = sz) {i : Nat} {o : Os} (hi : sget s i = some (.hp o.h)) {b k : Nat} (hb : o.a = some ⟨b, 0, none⟩) {L : List α} (ho : OwnO f e sz o L) (hk : k < L.length)
    {ti : TI} (hT : tget X.tt T = some ti) (h1 : ti.size = sz) (x : α) {v : Value} (hv : v = .agg (f x).toArray) (hone : allOne (f x) = true) (hps : Nat.blt 0 sz = true) {q : List Ch → Prop}
    (hq : ∀ o', o'.a = o.a → o'.n = o.n → o'.c = o.c → OwnO f e sz o' (L.set k x) → q (sset s i (.hp o'.h))) : NeedU X.P s (Instr.storeAt T (.pointer (some ⟨b, 0 + k * sz, none⟩)) v) q := by
  subst hv
  obtain ⟨hl, ho⟩ := ho
  rw [hb] at ho
  have hle : k * sz + sz ≤ o.n * sz := by rw [← Nat.succ_mul]; exact Nat.mul_le_mul_right _ (by omega)
  refine ost hX hi ho hT (by rw [h1]; simp [Value.cells, hf]) (by simpa [Value.cells] using hone) (by rw [h1]; exact hle) (by rw [h1]; exact hps) fun h' ho' => hq ⟨o.a, o.n, o.c, h'⟩ rfl rfl rfl ⟨by simpa using hl, ?_⟩
  rw [hb]
  rw [h1] at ho'
  have : (L.flatMap f).take (k * sz) ++ (Value.agg (f x).toArray).cells.toList ++ (L.flatMap f).drop (k * sz + sz) = (L.set k x).flatMap f := by
    rw [← flat_set hf L k hk x]; simp [Value.cells]
  rw [← this]
  exact ho'
/-- s[k:], not at the end -/
theorem slO (hX : X.Good) {T e : Nat} {te : TI} (hT : elsz X T = some (e, te)) {a : Option Addr} {b n c : Nat} (hb : a = some ⟨b, 0, none⟩) (k : Nat) {ik : IntKind} {x : Int} (hx : x = k) (hk : k < n) (hc : n ≤ c) {q : TV → Prop}
    (hq : q (.v (.slice (some ⟨b, 0 + k * te.size, none⟩) (n - k) (c - k)))) : NeedQ X.P s (Instr.sliceAt T (.slice a n c) (some (.int ik x)) none none) q := by
  subst hb
  refine slq hX hT k n (.inr ⟨_, _, rfl, hx⟩) (.inl ⟨rfl, rfl⟩) (by omega) hc ?_
  rw [if_neg (by omega)]
  simpa [Addr.add_mk] using hq
/-- s[:k] -/
theorem slT (hX : X.Good) {T e : Nat} {te : TI} (hT : elsz X T = some (e, te)) {a : Option Addr} {n c : Nat} (k : Nat) {ik : IntKind} {x : Int} (hx : x = k) (hk : k ≤ c) {q : TV → Prop}
    (hq : q (.v (.slice a k c))) : NeedQ X.P s (Instr.sliceAt T (.slice a n c) none (some (.int ik x)) none) q := by
  refine slq hX hT 0 k (.inl ⟨rfl, rfl⟩) (.inr ⟨_, _, rfl, hx⟩) (by omega) hk ?_
  have : (if c = 0 then a else a.map (·.add (0 * te.size))) = a := by
    split
    · rfl
    · rw [Nat.zero_mul]; cases a with
      | none => rfl
      | some ad => simp [Addr.add]
  rw [this]
  simpa using hq
/-- clear(s[k:]) of an owned slice -/
theorem clrO {α : Type} {f : α → List Value} (hX : X.Good) {T e ty : Nat} {te : TI} (hT : elsz X T = some (e, te)) (hf : ∀ x, (f x).length = te.size) {i : Nat} {o : Os} (hi : sget s i = some (.hp o.h)) {b k : Nat} (hb : o.a = some ⟨b, 0, none⟩) {L : List α} (ho : OwnO f e te.size o L) (hk : k < L.length)
    (hone : allOne te.zero = true) {c' : Nat} {q : TV → List Ch → Prop} (hq : ∀ h', OwnO f e te.size ⟨o.a, k, o.c, h'⟩ (L.take k) → q (.v (.tuple #[])) (sset s i (.hp h'))) :
    NeedE X.P s (Builtin.clear_ #[T] ty #[.slice (some ⟨b, 0 + k * te.size, none⟩) (o.n - k) c']) q := by
  have hn := ho.len
  obtain ⟨hu, hg⟩ := elsz_spec hX hT
  obtain ⟨⟨inf, hinf, hs1, hs2, z, hz, hzc, hzl⟩, _⟩ := hg
  refine ⟨fun w0 w hok => ?_⟩
  rcases ho.2.2 with ⟨h0, h1⟩ | ⟨b', arr, h1, h2, h3, h4, h5, h6⟩
  · omega
  · rw [hb] at h1; cases h1
    have hblk := hok.mem i _ hi b _ h2
    have hnk : o.n - k ≠ 0 := by omega
    have hle : (0 + k * te.size) + (o.n - k) * te.size = o.n * te.size := by rw [Nat.zero_add, ← Nat.add_mul]; congr 1; omega
    have hcap : o.n * te.size ≤ o.c * te.size := Nat.mul_le_mul_right _ h3
    have hzs : (Builtin.zeroCells z.cells (o.n - k)).toList.length = (o.n - k) * te.size := by rw [Array.length_toList, size_zeroCells, hzc]; simp [hzl]
    have hone' : ∀ v ∈ (Builtin.zeroCells z.cells (o.n - k)).toList, v.oneCell' = true := fun v hv => by
      have hv : v ∈ Builtin.zeroCells z.cells (o.n - k) := Array.mem_toList_iff.1 hv
      unfold Builtin.zeroCells at hv
      obtain ⟨t, ht, rfl⟩ := Array.mem_map.1 hv
      have ht : t < (o.n - k) * z.cells.size := by simpa using ht
      have hpos : 0 < z.cells.size := Nat.pos_of_ne_zero fun e => by rw [e] at ht; simp at ht
      have hm := Nat.mod_lt t hpos
      rw [getElem!_pos z.cells (t % z.cells.size) hm]
      refine allOne_sound hone _ ?_
      have hml : t % z.cells.size < te.zero.length := by rw [hzc] at hm ⊢; simpa using hm
      have : z.cells[t % z.cells.size] = te.zero[t % z.cells.size] := by simp [hzc]
      rw [this]; exact List.getElem_mem hml
    have hst := run_storeCells_at X.P b (0 + k * te.size) e (Builtin.zeroCells z.cells (o.n - k)).toList 0 arr w hblk (by rw [hzs]; omega) hone'
    refine ⟨.v (.tuple #[]), _, _, sset s i (.hp (o.h.upd b (.cells (arr.toList.take (0 + k * te.size + 0) ++ (Builtin.zeroCells z.cells (o.n - k)).toList ++ arr.toList.drop (0 + k * te.size + 0 + (Builtin.zeroCells z.cells (o.n - k)).toList.length)).toArray e (0, 0)))), ?_, Own.row hok hi h2, Keep.set hi (fun b cs T e => by cases e), rfl, hq _ ?_⟩
    · obtain ⟨m, hm⟩ : ∃ m, o.n - k = m + 1 := ⟨o.n - k - 1, by omega⟩
      rw [hm] at hst ⊢
      simp only [Nat.add_zero, Nat.zero_add, Array.length_toList, List.append_assoc] at hst ⊢
      simp [Builtin.clear_, run_underlying hu, zeroValue, typeInfo, hinf, hz, hst]
    · have ht := (OwnO.take hf ho k (by omega))
      refine ⟨ht.1, ht.2.1, .inr ⟨b, _, hb, Hp.upd_self _ _ _, by dsimp only; omega, h4, ?_, ?_⟩⟩
      · simp only [List.size_toArray, List.length_append, List.length_take, List.length_drop, Array.length_toList, hzs]
        omega
      · simp only [Nat.zero_add, Nat.add_zero]
        rw [← flat_take hf, ← h6, List.take_take, Nat.min_eq_left (Nat.mul_le_mul_right _ (by omega)), List.append_assoc, List.take_append_of_le_length (by simp; omega), List.take_take, Nat.min_self]
end
end Go.Dw
namespace Go.Dw
open Go Go.RowKit
section
variable {X : Ctx} {s : List Ch}
theorem appB {α : Type} {f : α → List Value} (hX : X.Good) {T e ty : Nat} {te : TI} (hT : elsz X T = some (e, te)) (hf : ∀ x, (f x).length = te.size) {i b T' n : Nat} {cs : List Value} (hi : sget s i = some (.box b cs T')) {L : List α}
    (hL : cs = L.flatMap f) (hn : n = L.length) {a : Option Addr} {m c : Nat} {L' : List α} {k : Nat} {h' : Hp} (hk : sget s k = some (.hp h')) (hs : Sl (encF f) te.size h' a m c L')
    (hby : Nat.ble te.bytes 140 = true) (hln : L.length + L'.length < 1000000000000) {q : TV → List Ch → Prop}
    (h0 : L' = [] → q (.v (.slice (some ⟨b, 0, none⟩) n n)) s)
    (hq : L' ≠ [] → ∀ o', OwnO f e te.size o' (L ++ L') → o'.a ≠ none → q (.v o'.v) (s ++ [.hp o'.h])) :
    NeedA X.P s #[T, T] ty (.slice (some ⟨b, 0, none⟩) n n) (.v (.slice a m c)) q := by
  obtain ⟨hu, hg⟩ := elsz_spec hX hT
  obtain ⟨⟨inf, hinf, hs1, hs2, z, hz, hzc, hzl⟩, _⟩ := hg
  have hb := Nat.le_of_ble_eq_true hby
  have hml := hs.len
  have hmu := Nat.mul_le_mul (show n + m ≤ 1000000000000 by omega) hb
  have fl : ∀ L : List α, (L.flatMap f).length = L.length * te.size := fun L => by
    induction L with
    | nil => simp
    | cons x r ih => simp [List.flatMap_cons, hf, ih, Nat.succ_mul, Nat.add_comm]
  refine ⟨.slice a m c, rfl, ⟨fun w0 w hok => ?_⟩⟩
  rcases Nat.eq_zero_or_pos m with hm | hm
  · have hL0 : L' = [] := List.eq_nil_of_length_eq_zero (by omega)
    subst hL0 hm
    refine ⟨_, _, w, s, ?_, hok, Keep.refl s, rfl, h0 rfl⟩
    cases a with
    | none => simp [Builtin.append_, run_underlying hu, sizeOf, typeInfo, hinf, Builtin.lenOf, Builtin.firstCells, storeCells]
    | some a => simp [Builtin.append_, run_underlying hu, sizeOf, typeInfo, hinf, Builtin.lenOf, Builtin.firstCells, loadCells, loadCellsFrom, storeCells]
  · have hL1 : L' ≠ [] := by rintro rfl; simp at hml; omega
    rcases hs.src hf (hok.mem k _ hk) with ⟨_, _, hm0⟩ | ⟨ad, c', hv, hcells⟩
    · omega
    cases hv
    have hsm : n + m ≤ maxLen := by simp only [maxLen]; omega
    have hge := grownCap_ge w (n + m) n e
    have hcm := grownCap_le_maxLen w (n + m) n e hsm
    have hcl : cs.length = n * te.size := by rw [hL, fl, hn]
    have hr := run_append_grow (P := X.P) w T ty e inf z hu hinf hz ⟨b, 0, none⟩ n n cs (by rw [hs1]; exact hcl) (fun j v hj => by
      have := box_cell hok.mem hi hj
      rw [Addr.add_mk, Nat.zero_add]; exact this) ad m c (L'.flatMap f) (by rw [hs1, fl, hml]) hcells (by omega) (by omega) (growslice_fits (by omega) (by rw [hs2]; omega))
    refine ⟨.v _, _, _, _, hr, hok.drew.alloc (.hp (Hp.one w.heap.size _)) _ rfl, Keep.app _ _, rfl, ?_⟩
    refine hq hL1 ⟨some ⟨w.heap.size, 0, none⟩, n + m, grownCap w (n + m) n e, Hp.one w.heap.size (.cells (cs.toArray ++ (L'.flatMap f).toArray ++ Builtin.zeroCells z.cells (grownCap w (n + m) n e - (n + m))) e)⟩
      ⟨by simp [hn, hml], ?_, .inr ⟨_, _, rfl, Hp.one_self _ _, hge, hcm, ?_, ?_⟩⟩ (fun h => by cases h)
    · rw [fl]; simp [hn, hml]
    · simp only [Array.size_append, List.size_toArray, size_zeroCells, hzc, hzl, hcl, fl, ← hml, ← Nat.add_mul]
      congr 1; omega
    · have hL2 : (L ++ L').flatMap f = cs ++ L'.flatMap f := by rw [List.flatMap_append, hL]
      rw [hL2]
      simp only [Array.toList_append, List.append_assoc]
      rw [← List.append_assoc]
      have : (cs ++ L'.flatMap f).length = (n + m) * te.size := by rw [List.length_append, hcl, fl, ← hml, Nat.add_mul]
      rw [← this]
      exact List.take_left
/-- what follows a region, hidden while the region is walked -/
theorem hideQ {all r : List Oper} {q : Tm → List Ch → Prop} {t : Tm} (h : ∀ q' : Tm → List Ch → Prop, (∀ t s, q t s → q' t s) → wops X all r q' t s) : wops X all r q t s := h q fun _ _ h => h
theorem wops_app {all : List Oper} {q : Tm → List Ch → Prop} : ∀ (r1 r2 : List Oper) (t : Tm) (s : List Ch), wops X all (r1 ++ r2) q t s = wops X all r1 (fun t s => wops X all r2 q t s) t s
  | [], _, _, _ => rfl
  | o :: r1, r2, t, s => by
    have ih := wops_app (all := all) (q := q) r1 r2
    simp only [List.cons_append, wops, ih]
/-- the first k operations of a region; what follows is hidden meanwhile -/
theorem hideK (k : Nat) {all r : List Oper} {q : Tm → List Ch → Prop} {t : Tm} (h : ∀ q' : Tm → List Ch → Prop, (∀ t s, wops X all (r.drop k) q t s → q' t s) → wops X all (r.take k) q' t s) : wops X all r q t s := by
  have e := wops_app (X := X) (all := all) (q := q) (r.take k) (r.drop k) t s
  rw [List.take_append_drop] at e
  rw [e]
  exact h _ fun _ _ h => h
/-- the chunks, written out -/
theorem normS {all r : List Oper} {q : Tm → List Ch → Prop} {t : Tm} {s : List Ch} (s' : List Ch) (hs : s = s') (h : wops X all r q t s') : wops X all r q t s := by subst hs; exact h
/-- an element of an array, by its pointer -/
theorem idxA (hX : X.Good) {T e len : Nat} {te ti : TI} (ht : tget X.tt T = some ti) (hk : ti.k = .ar len e) (hte : tget X.tt e = some te) {b off : Nat} {k : IntKind} {x : Int} (m : Nat) (hx : x = m) (hm : Nat.blt m len = true) {q : TV → Prop}
    (hq : q (.v (.pointer (some ⟨b, off + m * te.size, none⟩)))) : NeedQ X.P s (Instr.indexAt T (.pointer (some ⟨b, off, none⟩)) (.int k x)) q := by
  subst hx
  have hlt : m < len := by simpa [Nat.blt_eq] using hm
  refine ⟨_, fun w _ => ?_, hq⟩
  obtain ⟨_, sz, by', z⟩ := ti
  dsimp only at hk
  subst hk
  have hu := (Good.und hX ht).2
  have hun : (underlying T).run X.P w = .ok (.array len e) w := by simp [underlying, show X.P.underlying T = _ from hu]
  have hsz := (Good.und hX hte).size w
  simp only [Instr.indexAt, asIntOf, Sem.run_bind, Sem.run_pure, Result.andThen_ok, hun, Instr.sureAddr]
  have c : (0 : Int) ≤ (m : Int) ∧ (m : Int) < (len : Int) := ⟨Int.natCast_nonneg m, by omega⟩
  rw [if_pos c]
  simp [hsz, Addr.add_mk]
end
end Go.Dw
namespace Go.Dw
open Go Go.RowKit
theorem hidD {X : Ctx} {ops : List Oper} {Q : Tm → List Ch → Prop} {t : Tm} {s : List Ch} (h : ∀ q' : Tm → List Ch → Prop, (∀ t s, Q t s → q' t s) → NeedD X ops q' t s) : NeedD X ops Q t s := h Q fun _ _ h => h
theorem nrmD {X : Ctx} {ops : List Oper} {Q : Tm → List Ch → Prop} {t : Tm} {s : List Ch} (s' : List Ch) (hs : s = s') (h : NeedD X ops Q t s') : NeedD X ops Q t s := by subst hs; exact h
end Go.Dw
namespace Go.Dw
open Go Go.RowKit
theorem nwEq {x y : Int} {q : Int → Prop} (h : x = y) (h1 : -9223372036854775808 ≤ y) (h2 : y ≤ 9223372036854775807) (hq : q y) : NeedW .i64 x q := by subst h; exact nw h1 h2 hq
section
variable {X : Ctx} {s : List Ch}
/-- append(nil, make(n)...): an owned row, of which no element is used yet -/
theorem appZ (hX : X.Good) {T e tn ty : Nat} {te ti : TI} (hT : elsz X T = some (e, te)) (hti : tget X.tt tn = some ti) {kn k : IntKind} (hk : ti.k = .int kn) (n : Nat) {x : Int} (hx : x = n) (h0 : 0 < n) (hsz : Nat.blt 0 te.size = true) (hby : n * te.bytes ≤ 140737488355328) (hn : n ≤ maxLen) {q : TV → List Ch → Prop}
    (hq : ∀ b c h', Own e te.size h' (some ⟨b, 0, none⟩) 0 c [] → n ≤ c → q (.v (.slice (some ⟨b, 0, none⟩) n c)) (s ++ [.hp h'])) :
    NeedA X.P s #[T, tn] ty (.slice none 0 0) (.v (.int k x)) q := by
  subst hx
  obtain ⟨hu, hg⟩ := elsz_spec hX hT
  obtain ⟨⟨inf, hinf, hs1, hs2, z, hz, hzc, hzl⟩, _⟩ := hg
  have hui : X.P.underlying tn = some (.int kn) := by
    have := (Good.und hX hti).2
    rw [hk] at this; exact this
  have hpos : 0 < te.size := Nat.le_of_ble_eq_true hsz
  refine ⟨.int k n, rfl, ⟨fun w0 w hok => ?_⟩⟩
  have hmx : n ≤ 9223372036854775807 := by simp only [maxLen] at hn; omega
  have hr := Lib.run_append_nil_zeros (P := X.P) w T tn ty e inf z k kn hu hui hinf hz n h0 (by rw [hs1]; exact hpos) (by omega) (by rw [hs2]; omega)
  have hge := grownCap_ge w n 0 e
  have hcm := grownCap_le_maxLen w n 0 e hn
  refine ⟨.v _, _, _, _, hr, hok.drew.alloc (.hp (Hp.one w.heap.size _)) _ rfl, Keep.app s _, rfl, hq w.heap.size _ _ ⟨by simp, .inr ⟨_, _, rfl, Hp.one_self _ _, Nat.zero_le _, hcm, ?_, by simp⟩⟩ hge⟩
  simp only [Array.size_append, size_zeroCells, hzc, List.size_toArray, hzl, ← Nat.add_mul]
  congr 1; omega
/-- cap(s) -/
theorem capS (hX : X.Good) {T ty : Nat} {te : TI} {e : Nat} (hT : elsz X T = some (e, te)) {a : Option Addr} {n c : Nat} {q : TV → List Ch → Prop} (hq : q (.v (.int .i64 c)) s) :
    NeedE X.P s (Builtin.cap_ #[T] ty #[.slice a n c]) q := by
  obtain ⟨hu, _⟩ := elsz_spec hX hT
  refine ⟨fun w0 w hok => ⟨.v _, _, w, s, ?_, hok, Keep.refl s, rfl, hq⟩⟩
  simp [Builtin.cap_, run_underlying hu, goInt]
end
/-- a box whose cells are rows that can be read -/
theorem Sl.boxG {α : Type} {R : Enc α} {sz : Nat} {b T : Nat} {cs : List Value} {w : World} (hh : (Ch.box b cs T).h.In w) {LL : List (List α)} (hl : cs.length = LL.length) (hr : ∀ (i : Nat) v L, cs[i]? = some v → LL[i]? = some L → encS R sz (Hp.whole w) L [v]) {n : Nat} (hn : n = cs.length) : Sl (encS R sz) 1 (Hp.whole w) (some ⟨b, 0, none⟩) n n LL := by
  refine ⟨by omega, Nat.le_refl _, fun i hi => ?_⟩
  have hi' : i < cs.length := by omega
  refine ⟨b, 0, [cs[i]], rfl, rfl, hr i _ _ (List.getElem?_eq_getElem hi') (List.getElem?_eq_getElem hi), fun j v hj => ?_⟩
  obtain rfl : j = 0 := by
    have := (List.getElem?_eq_some_iff.1 hj).1
    simpa using this
  cases hj
  have h1 : (Ch.box b cs T).h.cell? ⟨b, i, none⟩ = some cs[i] := by
    simp [Ch.h, Hp.cell?, Hp.one, hi']
  rw [show 0 + i * 1 + 0 = i by omega]
  exact Hp.le.cell hh h1
end Go.Dw
