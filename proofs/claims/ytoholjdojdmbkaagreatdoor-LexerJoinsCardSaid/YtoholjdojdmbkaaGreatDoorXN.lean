/- Parts of one proof, joined: R1, R2. No condition of its own. -/
import Derived.Test.YtoholjdojdmbkaaGreatDoorRows
import Derived.Test.YtoholjdojdmbkaaGreatDoorXC
import Derived.ProofKit
import Derived.Carry
import Derived.ChangeSame
import Derived.Handed
import Derived.JoinedOf
import Derived.RowKit3
namespace Go.Dw
open Go Go.RowKit Go.ChangeShapes Go.WideShapes Go.ChangeAt
section
variable {H : Type} {enc : TypeId × Value → H} {P : Program} {W : World} {sp : Nat → Bool} {held : Bool}

theorem range_mapM2 {β : Type} {f : Nat → Option β} {l : List β} (h : (List.range 2).mapM f = some l) : ∃ x y, l = [x, y] ∧ f 0 = some x ∧ f 1 = some y := by
  rw [show List.range 2 = [0, 1] from rfl] at h
  simp only [List.mapM_cons, List.mapM_nil, Option.bind_eq_bind, Option.bind_eq_some_iff, Option.pure_def, Option.some.injEq] at h
  obtain ⟨x, hx, _, ⟨y, hy, _, rfl, rfl⟩, rfl⟩ := h
  exact ⟨x, y, rfl, hx, hy⟩
theorem range_mapM1 {β : Type} {f : Nat → Option β} {l : List β} (h : (List.range 1).mapM f = some l) : ∃ x, l = [x] ∧ f 0 = some x := by
  rw [show List.range 1 = [0] from rfl] at h
  simp only [List.mapM_cons, List.mapM_nil, Option.bind_eq_bind, Option.bind_eq_some_iff, Option.pure_def, Option.some.injEq] at h
  obtain ⟨x, hx, _, rfl, rfl⟩ := h
  exact ⟨x, rfl, hx⟩
theorem cell_spot {w : World} {a : Addr} {v : Value} (h : w.cell? a = some v) : ∃ b off, a = ⟨b, off, none⟩ := by
  obtain ⟨b, off, spot⟩ := a
  cases spot with
  | none => exact ⟨b, off, rfl⟩
  | some k =>
    unfold World.cell? at h
    split at h <;> simp at h

/-- a struct of two ints -/
structure IsEdge (P : Program) (t e : TypeId) (F0 F1 : Field) : Prop where
  u : P.underlying t = some (.struct #[F0, F1])
  o0 : F0.offset = 0
  o1 : F1.offset = 1
  t0 : F0.type = e
  t1 : F1.type = e
  ui : P.underlying e = some (.int .i64)
  ct : P.cellsOf t = 2
  ce : P.cellsOf e = 1
theorem open_edge {t e : TypeId} {F0 F1 : Field} (K : IsEdge P t e F0 F1) {fuel : Nat} {cs : List Value} {y : DataW H × List MemPlace} (h : DataW.trod enc P W 0 sp held fuel t cs = some y) : ∃ x : Int × Int, cs = fE x := by
  obtain ⟨y0, y1, n, _, hl, h0, h1⟩ := trod_struct2 K.u h
  rw [K.t0, K.o0, K.ce] at h0
  rw [K.t1, K.o1, K.ce] at h1
  rw [K.ct] at hl
  obtain ⟨n1, e1, _⟩ := DataW.trod_int K.ui h0
  obtain ⟨n2, e2, _⟩ := DataW.trod_int K.ui h1
  obtain ⟨p, q, rfl⟩ : ∃ p q, cs = [p, q] := by
    match cs, hl with
    | [p, q], _ => exact ⟨p, q, rfl⟩
  simp at e1 e2
  exact ⟨(n1, n2), by rw [e1, e2]; rfl⟩
/-- a slice whose elements read each as one of α, n cells long -/
theorem open_slice {α : Type} [Inhabited α] {f : α → List Value} {t e : TypeId} {n : Nat} (ht : P.underlying t = some (.slice e)) (hc : P.cellsOf e = n) (hn : 0 < n)
    (hf : ∀ fuel cs (y : DataW H × List MemPlace), DataW.trod enc P W 0 sp held fuel e cs = some y → ∃ x : α, cs = f x)
    (hm : ∀ (g : Nat → Option Value) (x : α), (List.range n).mapM g = some (f x) → (f x).length = n ∧ ∀ j v, (f x)[j]? = some v → g j = some v)
    {fuel : Nat} {cs : List Value} {y : DataW H × List MemPlace} (h : DataW.trod enc P W 0 sp held fuel t cs = some y) :
    ∃ a m c L, cs = [.slice a m c] ∧ Sl (encF f) n (Hp.whole W) a m c L := by
  rcases DataW.trod_slice ht h with ⟨h0, _⟩ | ⟨a, len, cap, elems, rest, k, _, rfl, _, hb, hl, _, hlen, hel, _, _⟩
  · exact ⟨none, 0, 0, [], h0, Sl.nil _ _ _ _ _⟩
  rw [hc] at hel
  have each : ∀ i, i < len → ∃ x : α, (f x).length = n ∧ ∀ j v, (f x)[j]? = some v → W.cell? ((a.add (i * n)).add j) = some v := by
    intro i hi
    have h1 := hel i hi
    rw [List.getElem?_eq_getElem (by omega), Option.bind_eq_some_iff] at h1
    obtain ⟨cs', hcs, hy⟩ := h1
    obtain ⟨x, rfl⟩ := hf _ _ _ hy
    unfold World.cells? at hcs
    rw [if_pos (Nat.zero_le _)] at hcs
    exact ⟨x, hm _ x hcs⟩
  obtain ⟨g, hg⟩ : ∃ g : Nat → α, ∀ i, i < len → (f (g i)).length = n ∧ ∀ j v, (f (g i))[j]? = some v → W.cell? ((a.add (i * n)).add j) = some v := by
    refine ⟨fun i => if h : i < len then (each i h).choose else default, fun i hi => ?_⟩
    simp only [hi, ↓reduceDIte]
    exact (each i hi).choose_spec
  refine ⟨some a, len, cap, (List.range len).map g, rfl, by simp, hl, fun i hi => ?_⟩
  simp only [List.length_map, List.length_range] at hi
  obtain ⟨b, off, rfl⟩ : ∃ b off, a = ⟨b, off, none⟩ := by
    obtain ⟨h1, h2⟩ := hg 0 (by omega)
    have := h2 0 _ (List.getElem?_eq_getElem (by omega))
    rw [Nat.zero_mul] at this
    simp only [Addr.add, ↓reduceIte] at this
    exact cell_spot this
  obtain ⟨h1, h2⟩ := hg i hi
  refine ⟨b, off, f (g i), rfl, h1, by simp [encF], fun j v hj => ?_⟩
  have := h2 j v hj
  rw [Addr.add_mk, Addr.add_mk] at this
  exact this
theorem open_edgesC {t e i : TypeId} {F0 F1 : Field} (K : IsEdge P e i F0 F1) (ht : P.underlying t = some (.slice e)) {fuel : Nat} {cs : List Value} {y : DataW H × List MemPlace} (h : DataW.trod enc P W 0 sp held fuel t cs = some y) :
    ∃ a m c L, cs = [.slice a m c] ∧ Sl (encF fE) 2 (Hp.whole W) a m c L := by
  refine open_slice ht K.ct (by decide) (fun _ _ _ h => open_edge K h) (fun g x h => ?_) h
  obtain ⟨p, q, e, f0, f1⟩ := range_mapM2 h
  rw [e]
  refine ⟨rfl, fun j v hj => ?_⟩
  match j, hj with
  | 0, hj => cases hj; exact f0
  | 1, hj => cases hj; exact f1
theorem open_intsC {t e : TypeId} (he : P.underlying e = some (.int .i64)) (hc : P.cellsOf e = 1) (ht : P.underlying t = some (.slice e)) {fuel : Nat} {cs : List Value} {y : DataW H × List MemPlace} (h : DataW.trod enc P W 0 sp held fuel t cs = some y) :
    ∃ a m c L, cs = [.slice a m c] ∧ Sl (encF fI) 1 (Hp.whole W) a m c L := by
  refine open_slice ht hc (by decide) (fun _ _ _ h => ?_) (fun g x h => ?_) h
  · obtain ⟨n, e1, _⟩ := DataW.trod_int he h
    exact ⟨n, e1⟩
  · obtain ⟨p, e, f0⟩ := range_mapM1 h
    rw [e]
    refine ⟨rfl, fun j v hj => ?_⟩
    match j, hj with
    | 0, hj => cases hj; exact f0
theorem okWide_slice {t e : TypeId} {r : Reach} {base : Nat} {v : Value} (ht : P.underlying t = some (.slice e)) (h : Value.okWide P W r base t v) : ∃ a n c, v = .slice a n c := by
  simp only [Value.okWide, ht, Cell.okWide] at h
  cases v <;> simp_all [Cell.ok]
theorem open_edges {t e i : TypeId} {F0 F1 : Field} (K : IsEdge P e i F0 F1) (ht : P.underlying t = some (.slice e)) {r : Reach} {b0 : Nat} {v : Value} {d : DataW H} {ps : List MemPlace} (hval : Value.okWide P W r b0 t v) (hd : DataW.Trod enc P W 0 sp held t v d ps) :
    ∃ a n c E, v = .slice a n c ∧ Sl (encF fE) 2 (Hp.whole W) a n c E := by
  obtain ⟨a, n, c, rfl⟩ := okWide_slice ht hval
  obtain ⟨fuel, hf⟩ := hd
  obtain ⟨a', n', c', E, e, hs⟩ := open_edgesC K ht hf
  simp [Value.cells] at e
  obtain ⟨rfl, rfl, rfl⟩ := e
  exact ⟨_, _, _, E, rfl, hs⟩
theorem open_intsV {t e : TypeId} (he : P.underlying e = some (.int .i64)) (hc : P.cellsOf e = 1) (ht : P.underlying t = some (.slice e)) {r : Reach} {b0 : Nat} {v : Value} {d : DataW H} {ps : List MemPlace} (hval : Value.okWide P W r b0 t v) (hd : DataW.Trod enc P W 0 sp held t v d ps) :
    ∃ a n c E, v = .slice a n c ∧ Sl (encF fI) 1 (Hp.whole W) a n c E := by
  obtain ⟨a, n, c, rfl⟩ := okWide_slice ht hval
  obtain ⟨fuel, hf⟩ := hd
  obtain ⟨a', n', c', E, e, hs⟩ := open_intsC he hc ht hf
  simp [Value.cells] at e
  obtain ⟨rfl, rfl, rfl⟩ := e
  exact ⟨_, _, _, E, rfl, hs⟩
/-- a struct of an int and a slice of edges -/
theorem open_graph {g t e i : TypeId} {F0 F1 G0 G1 : Field} (K : IsEdge P e i F0 F1) (ht : P.underlying t = some (.slice e)) (hg : P.underlying g = some (.struct #[G0, G1])) (h0 : G0.offset = 0) (h1 : G1.offset = 1) (t0 : G0.type = i) (t1 : G1.type = t) (cg : P.cellsOf g = 2) (ct : P.cellsOf t = 1)
    {r : Reach} {b0 : Nat} {v : Value} {d : DataW H} {ps : List MemPlace} (hval : Value.okWide P W r b0 g v) (hd : DataW.Trod enc P W 0 sp held g v d ps) :
    ∃ N a n c E, v = .agg #[.int .i64 N, .slice a n c] ∧ Sl (encF fE) 2 (Hp.whole W) a n c E := by
  obtain ⟨xs, rfl⟩ : ∃ xs, v = .agg xs := by
    simp only [Value.okWide, hg] at hval
    obtain ⟨cs, h1, _⟩ := hval
    exact ⟨cs, h1⟩
  obtain ⟨fuel, hf⟩ := hd
  obtain ⟨y0, y1, n, _, hl, k0, k1⟩ := trod_struct2 hg hf
  rw [t0, h0, K.ce] at k0
  rw [t1, h1, ct] at k1
  rw [cg] at hl
  obtain ⟨N, e0, _⟩ := DataW.trod_int K.ui k0
  obtain ⟨a', n', c', E, e1, hs⟩ := open_edgesC K ht k1
  simp only [Value.cells] at hl e0 e1
  refine ⟨N, a', n', c', E, ?_, hs⟩
  obtain ⟨l⟩ := xs
  match l, hl with
  | [p, q], _ =>
    simp at e0 e1
    rw [e0, e1]
/-! ### behind the call -/
theorem trodAll_stays (hl : laidOutB P = true) {W' : World} {sp' : Nat → Bool} : ∀ {ts : List TypeId} {vs : List Value} {ds : List (DataW H)} {ps : List MemPlace}, ts.all (fun t => P.readableRec t && decide (t < P.types.size)) = true →
    DataW.TrodAll enc P W 0 (fun _ => true) true ts vs ds ps → (∀ p ∈ ps, W.sameAt W' p) → (∀ p ∈ ps, sp' p.block = true) → DataW.TrodAll enc P W' 0 sp' true ts vs ds ps
  | [], _, _, _, _, h, _, _ => by
    obtain ⟨rfl, rfl, rfl⟩ := trodAll_nil h
    exact trodAll_mk0
  | t :: ts, _, _, _, ht, h, hs, hp => by
    obtain ⟨v, vs', d, ds', p, q, rfl, rfl, rfl, h1, h2⟩ := trodAll_cons h
    simp only [List.all_cons, Bool.and_eq_true, decide_eq_true_eq] at ht
    exact ⟨p, q, WideElems.Trod_stays hl ht.1.1 ht.1.2 h1 (fun x hx => hs x (List.mem_append_left _ hx)) (fun x hx => hp x (List.mem_append_left _ hx)),
      trodAll_stays hl ht.2 h2 (fun x hx => hs x (List.mem_append_right _ hx)) (fun x hx => hp x (List.mem_append_right _ hx)), rfl⟩
/-- the call returns true and has changed no block -/
theorem post_true {f : Func} {s : ChangeSpec} {apart fresh handsOn again : Bool} {W' : World} {args : Array Value} {ds : List (DataW H)} {before : List MemPlace} {tb : TypeId}
    (hl : laidOutB P = true) (hvars : s.vars = []) (hts : f.params.toList.all (fun t => P.readableRec t && decide (t < P.types.size)) = true) (hr : f.resultTypes = #[tb]) (htb : P.underlying tb = some .bool)
    (hW : DataW.Whole enc P f.params.toList s.vars apart W args.toList ds [] before) (hb : Below W.heap.size W W')
    (hfn : (s.fn H (ds ++ [])).results = [.lit (.bool true)]) (hfa : (s.fn H (ds ++ [])).args = ds) (hfv : (s.fn H (ds ++ [])).vars = []) :
    s.post enc P f apart fresh handsOn again W args (.bool true) W' := by
  have hlt := hW.lt
  have hold : ∀ p ∈ before, (fun b => decide (b < W.heap.size)) p.block = true := fun p hp => by simpa using hlt p hp
  have hW' := hW
  rw [hvars] at hW'
  obtain ⟨pa, pv, hA, hV, rfl, hz, hn⟩ := hW'
  obtain ⟨_, rfl⟩ := trodVars_none hV
  rw [List.append_nil] at *
  have hok : ∀ (j : Nat) (t : TypeId) (r : Value), f.resultTypes[j]? = some t → ((Value.bool true).resultList f.resultTypes.size)[j]? = some r → Value.okWide P W' .any 0 t r := ok_one hr rfl (okWide_bool_mk htb true)
  have hres : ∀ (b : Nat) (sp : Nat → Bool) (hd : Bool), DataW.TrodAll enc P W' b sp hd f.resultTypes.toList ((Value.bool true).resultList f.resultTypes.size) (s.fn H ds).results [] := fun b sp hd => by
    rw [hfn, hr]; exact trodAll_mk1 (shut_bool htb true)
  have hargs : ∀ sp : Nat → Bool, (∀ p ∈ pa, sp p.block = true) → DataW.TrodAll enc P W' 0 sp true f.params.toList args.toList (s.fn H ds).args pa := fun sp h => by
    rw [hfa]; exact trodAll_stays hl hts hA (fun x hx => hb.same (hlt x hx)) h
  have hvs : ∀ sp : Nat → Bool, DataW.TrodVars enc P W' sp s.vars (s.fn H ds).vars [] := fun sp => by rw [hvars, hfv]; rfl
  refine ⟨ds, [], pa, [], pa, [], hW, by rw [List.append_nil]; exact hres _ _ _, by rw [List.append_nil]; exact hargs _ hold, by rw [List.append_nil]; exact hvs _, hb.frame _, fun _ => ?_⟩
  refine ⟨hok, _, _, ([] ++ pa) ++ [], ⟨[] ++ pa, [], trodAll_append (hargs _ (fun _ _ => rfl)) (hres _ _ _), hvs _, rfl, ?_, ?_⟩, ?_⟩
  · intro b off hp
    rw [hb.frozen (hlt _ (by simpa using hp))]
    exact hz b off (by simpa using hp)
  · intro ha
    simpa using hn ha
  · intro p hp _
    simpa using hp
end
end Go.Dw
namespace Go.Proofs.YtoholjdojdmbkaaGreatDoor
open Go Go.RowKit Go.Dw Go.ChangeShapes Go.WideShapes Go.ChangeAt
theorem own : ownKnob Tryz.prog.godebug = none := by kernel_rfl
theorem laidOut : laidOutB Tryz.prog = true := by kernel_rfl
section
variable {H : Type} {enc : TypeId × Value → H} {W : World} {r : Reach} {b0 : Nat} {v : Value} {d : DataW H} {ps : List MemPlace}
set_option maxRecDepth 100000 in
theorem openInts (hval : Value.okWide Tryz.prog W r b0 270 v) (hd : DataW.Trod enc Tryz.prog W 0 (fun _ => true) true 270 v d ps) : ∃ a n c E, v = .slice a n c ∧ Sl (encF fI) 1 (Hp.whole W) a n c E :=
  open_intsV Tryz.underlying3 (by kernel_rfl) Tryz.underlying270 hval hd
end
theorem u8_bounds {n : Int} (h : (Lit.int .u8 n).wf = true) : 0 ≤ n ∧ n ≤ 255 := by
  simp only [Lit.wf, Bool.and_eq_true, decide_eq_true_eq] at h
  have h1 : IntKind.u8.min = 0 := rfl
  have h2 : IntKind.u8.max = 255 := rfl
  omega
/-- what a law's contract gives the row -/
theorem fin_true {f : Func} {s : ChangeSpec} {H : Type} {enc : TypeId × Value → H} {F : Nat} {W : World} {args : Array Value} {ds gs : List (DataW H)} {before : List MemPlace}
    (hvars : s.vars = []) (hts : f.params.toList.all (fun t => Tryz.prog.readableRec t && decide (t < Tryz.prog.types.size)) = true) (hr : f.resultTypes = #[4])
    (hW : DataW.Whole enc Tryz.prog f.params.toList s.vars false W args.toList ds gs before)
    (hfn : (s.fn H ds).results = [.lit (.bool true)]) (hfa : (s.fn H ds).args = ds) (hfv : (s.fn H ds).vars = [])
    (hc : CallsE Tryz.prog F args W (RetV W (.bool true))) :
    Calls Tryz.prog F args W fun e W' => ∃ v, e = .returned v ∧ s.post enc Tryz.prog f false true false false W args v W' := by
  obtain rfl : gs = [] := by
    obtain ⟨p, q, _, hV, _⟩ := hW
    rw [hvars] at hV
    exact (trodVars_none hV).1
  refine hc.2.mono fun e W' h => ?_
  obtain ⟨v, cs, rfl, hok, rfl, rfl⟩ := h
  exact ⟨_, rfl, post_true laidOut hvars hts hr Tryz.underlying4 hW hok.below (by rw [List.append_nil]; exact hfn) (by rw [List.append_nil]; exact hfa) (by rw [List.append_nil]; exact hfv)⟩
end Go.Proofs.YtoholjdojdmbkaaGreatDoor
