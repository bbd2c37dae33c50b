/- Parts of one proof, joined: K6, Kf, Kj, Kk, Dwr, Kl. No condition of its own. -/
import Derived.Test.YtoholjdojdmbkaaGreatDoorXI
namespace Go.Dw
open Go Go.RowKit
section
variable {X : Ctx} {ops : List Oper} {takes : List Nat} {s0 : List Ch} {i : Nat} {k : DT} {o : Oper} {Q : Tm → List Ch → Prop} {t : Tm} {s : List Ch} {j d : Nat} {b : Bool} {x : Array Value}
theorem dT (ho : lget ops i = some o) (hq : isQ o.op = true) (h : wguard ops o t
        (fun t => wq X s0 t o.op fun tv => putk X.n t o.dst tv fun t' => wdraw X ops takes s0 k Q t' s)
        (fun t => putk X.n t o.dst (.v undef) fun t' => wdraw X ops takes s0 k Q t' s)) : wdraw X ops takes s0 (.take i k) Q t s := by
  unfold wdraw
  rw [ho]
  dsimp only
  rw [hq]
  exact h
theorem dT1 (ho : lget ops i = some o) (hq : isQ o.op = true) (hg : o.guard = none) (h : ∀ K : Tm → List Ch → Prop, (∀ t s, wdraw X ops takes s0 k Q t s → K t s) → wq X s0 t o.op fun tv => putk X.n t o.dst tv fun t' => K t' s) : wdraw X ops takes s0 (.take i k) Q t s := by
  refine dT ho hq ?_
  unfold wguard
  rw [hg]
  exact h _ fun _ _ h => h
theorem dTY (ho : lget ops i = some o) (hq : isQ o.op = true) (hg : o.guard = some (j, b)) (hj : gslot ops j = some d) (ha : aget t d = some (.v (.bool b))) (h : ∀ K : Tm → List Ch → Prop, (∀ t s, wdraw X ops takes s0 k Q t s → K t s) → wq X s0 ((d, .v (.bool b)) :: t) o.op fun tv => putk X.n ((d, .v (.bool b)) :: t) o.dst tv fun t' => K t' s) : wdraw X ops takes s0 (.take i k) Q t s := by
  refine dT ho hq ?_
  unfold wguard
  rw [hg]
  dsimp only
  rw [hj]
  dsimp only
  rw [ha]
  cases b <;> exact h _ fun _ _ h => h
theorem dTN (ho : lget ops i = some o) (hq : isQ o.op = true) (hg : o.guard = some (j, b)) (hj : gslot ops j = some d) (ha : aget t d = some (.v (.bool !b))) (h : ∀ K : Tm → List Ch → Prop, (∀ t s, wdraw X ops takes s0 k Q t s → K t s) → putk X.n ((d, .v (.bool !b)) :: t) o.dst (.v undef) fun t' => K t' s) : wdraw X ops takes s0 (.take i k) Q t s := by
  refine dT ho hq ?_
  unfold wguard
  rw [hg]
  dsimp only
  rw [hj]
  dsimp only
  rw [ha]
  cases b <;> exact h _ fun _ _ h => h
theorem dTU (ho : lget ops i = some o) (hq : isQ o.op = true) (hg : o.guard = some (j, b)) (hj : gslot ops j = some d) (ha : aget t d = some (.v (.tuple x))) (h : ∀ K : Tm → List Ch → Prop, (∀ t s, wdraw X ops takes s0 k Q t s → K t s) → putk X.n t o.dst (.v undef) fun t' => K t' s) : wdraw X ops takes s0 (.take i k) Q t s := by
  refine dT ho hq ?_
  unfold wguard
  rw [hg]
  dsimp only
  rw [hj]
  dsimp only
  rw [ha]
  exact h _ fun _ _ h => h
theorem dTS {w : Bool} (ho : lget ops i = some o) (hq : isQ o.op = true) (hg : o.guard = some (j, w)) (hj : gslot ops j = some d) (ha : aget t d = some (.v (.bool b))) (hy : b = w → ∀ K : Tm → List Ch → Prop, (∀ t s, wdraw X ops takes s0 k Q t s → K t s) → wq X s0 ((d, .v (.bool w)) :: t) o.op fun tv => putk X.n ((d, .v (.bool w)) :: t) o.dst tv fun t' => K t' s)
    (hn : b = !w → ∀ K : Tm → List Ch → Prop, (∀ t s, wdraw X ops takes s0 k Q t s → K t s) → putk X.n ((d, .v (.bool !w)) :: t) o.dst (.v undef) fun t' => K t' s) : wdraw X ops takes s0 (.take i k) Q t s := by
  refine dT ho hq ?_
  unfold wguard
  rw [hg]
  dsimp only
  rw [hj]
  dsimp only
  rw [ha]
  cases b <;> cases w
  · exact hy rfl _ fun _ _ h => h
  · exact hn rfl _ fun _ _ h => h
  · exact hn rfl _ fun _ _ h => h
  · exact hy rfl _ fun _ _ h => h
theorem dR (ho : lget ops i = some o) (hn : needR ops takes i k = true) (h : wguard ops o t
      (fun t => wop X s t o fun tv s' => putk X.n t o.dst tv fun t' => subL s0 s' ∧ wdraw X ops takes s0 k Q t' s')
      (fun t => putk X.n t o.dst (.v undef) fun t' => subL s0 s ∧ wdraw X ops takes s0 k Q t' s)) : wdraw X ops takes s0 (.run i k) Q t s := by
  unfold wdraw wrun
  rw [ho]
  dsimp only
  rw [hn]
  exact h
theorem dR1 (ho : lget ops i = some o) (hn : needR ops takes i k = true) (hg : o.guard = none) (h : ∀ K : Tm → List Ch → Prop, (∀ t s, wdraw X ops takes s0 k Q t s → K t s) → wop X s t o fun tv s' => putk X.n t o.dst tv fun t' => subL s0 s' ∧ K t' s') : wdraw X ops takes s0 (.run i k) Q t s := by
  refine dR ho hn ?_
  unfold wguard
  rw [hg]
  exact h _ fun _ _ h => h
theorem dRY (ho : lget ops i = some o) (hn : needR ops takes i k = true) (hg : o.guard = some (j, b)) (hj : gslot ops j = some d) (ha : aget t d = some (.v (.bool b))) (h : ∀ K : Tm → List Ch → Prop, (∀ t s, wdraw X ops takes s0 k Q t s → K t s) → wop X s ((d, .v (.bool b)) :: t) o fun tv s' => putk X.n ((d, .v (.bool b)) :: t) o.dst tv fun t' => subL s0 s' ∧ K t' s') : wdraw X ops takes s0 (.run i k) Q t s := by
  refine dR ho hn ?_
  unfold wguard
  rw [hg]
  dsimp only
  rw [hj]
  dsimp only
  rw [ha]
  cases b <;> exact h _ fun _ _ h => h
theorem dRN (ho : lget ops i = some o) (hn : needR ops takes i k = true) (hg : o.guard = some (j, b)) (hj : gslot ops j = some d) (ha : aget t d = some (.v (.bool !b))) (h : ∀ K : Tm → List Ch → Prop, (∀ t s, wdraw X ops takes s0 k Q t s → K t s) → putk X.n ((d, .v (.bool !b)) :: t) o.dst (.v undef) fun t' => subL s0 s ∧ K t' s) : wdraw X ops takes s0 (.run i k) Q t s := by
  refine dR ho hn ?_
  unfold wguard
  rw [hg]
  dsimp only
  rw [hj]
  dsimp only
  rw [ha]
  cases b <;> exact h _ fun _ _ h => h
theorem dDone (h : Q t s) : wdraw X ops takes s0 .done Q t s := h
end
end Go.Dw
