/- Small steps: what follows a region that draws is hidden, its chunks are written out; tests of bools. No condition of its own. -/
import Derived.Test.YtdjhgcpmipglfaaXB
namespace Go.Dw
open Go Go.RowKit
theorem hidD {X : Ctx} {ops : List Oper} {Q : Tm → List Ch → Prop} {t : Tm} {s : List Ch} (h : ∀ q' : Tm → List Ch → Prop, (∀ t s, Q t s → q' t s) → NeedD X ops q' t s) : NeedD X ops Q t s := h Q fun _ _ h => h
theorem nrmD {X : Ctx} {ops : List Oper} {Q : Tm → List Ch → Prop} {t : Tm} {s : List Ch} (s' : List Ch) (hs : s = s') (h : NeedD X ops Q t s') : NeedD X ops Q t s := by subst hs; exact h
end Go.Dw
