/- Parts of one proof, joined: Kd, Ke. No condition of its own. -/
import Derived.Test.YtoholjdojdmbkaaGreatDoorXK
import Derived.Test.YtoholjdojdmbkaaGreatDoorXJ
namespace Go.Proofs.YtoholjdojdmbkaaGreatDoor
open Go Go.RowKit Go.Dw
theorem Peek_nil (w : World) : CallsE Tryz.prog 21 #[.pointer none] w (RetV w (encT tok0)) := by
  refine enter (X := cx 28) (cxg _) (args := [.pointer none]) [.cell 2 32] Tryz.func21 rfl rfl rfl rfl rfl ?_
  intro b2
  refine qEqN ?_
  exact ⟨[], ⟨rfl, rfl⟩, fun w' h => h.pick [0] rfl rfl⟩
theorem Error_nil (w : World) : CallsE Tryz.prog 19 #[.pointer none] w (RetV w (.tuple #[.int .i64 0, .int .i64 0, .int .i64 1])) := by
  refine enter (X := cx 26) (cxg _) (args := [.pointer none]) [.tmp 2, .tmp 3, .tmp 4] Tryz.func19 rfl rfl rfl rfl rfl ?_
  refine qEqN ?_
  exact ⟨[], ⟨rfl, rfl⟩, fun w' h => h.pick [0] rfl rfl⟩
theorem Next_nil (w : World) : CallsE Tryz.prog 38 #[.pointer none] w (RetV w (encT tok0)) := by
  refine enter (X := cx 29) (cxg _) (args := [.pointer none]) [.cell 2 32] Tryz.func38 rfl rfl rfl rfl rfl ?_
  intro b2
  refine callV _ (fun w' hm => Peek_nil w') ?_
  intro b3
  refine qNeN ?_
  exact ⟨[], ⟨rfl, rfl⟩, fun w' h => h.pick [0] rfl rfl⟩
theorem Fail_nil (e : Int) (w : World) : CallsE Tryz.prog 45 #[.pointer none, .int .i64 e] w (Ret w fun _ cs => cs = []) := by
  refine enter (X := cx 32) (cxg _) (args := [.pointer none, .int .i64 e]) [] Tryz.func45 rfl rfl rfl rfl rfl ?_
  refine qEqN ?_
  exact ⟨[], rfl, fun w' h => h.pick [0] rfl rfl⟩
theorem Is_nil (s : Byts) (w : World) : CallsE Tryz.prog 39 #[.pointer none, .string (bs s)] w (RetV w (.bool false)) := by
  refine enter (X := cx 22) (cxg _) (args := [.pointer none, .string (bs s)]) [.tmp 4] Tryz.func39 rfl rfl rfl rfl rfl ?_
  refine callV _ (fun w' hm => Peek_nil w') ?_
  intro b3
  exact ⟨[], ⟨rfl, rfl⟩, fun w' h => h.pick [0] rfl rfl⟩
theorem Take_nil (s : Byts) (w : World) : CallsE Tryz.prog 40 #[.pointer none, .string (bs s)] w (RetV w (.bool false)) := by
  refine enter (X := cx 13) (cxg _) (args := [.pointer none, .string (bs s)]) [.tmp 4] Tryz.func40 rfl rfl rfl rfl rfl ?_
  refine callV _ (fun w' hm => Is_nil s w') ?_
  exact ⟨[], ⟨rfl, rfl⟩, fun w' h => h.pick [0] rfl rfl⟩
theorem Expect_nil (s : Byts) (w : World) : CallsE Tryz.prog 41 #[.pointer none, .string (bs s)] w (Ret w fun _ cs => cs = []) := by
  refine enter (X := cx 10) (cxg _) (args := [.pointer none, .string (bs s)]) [] Tryz.func41 rfl rfl rfl rfl rfl ?_
  refine callV _ (fun w' hm => Take_nil s w') ?_
  refine call (fun w' hm => Fail_nil 14 w') ?_
  rintro _ _ rfl
  exact ⟨[], rfl, fun w' h => h.pick [0] rfl rfl⟩
theorem kind_nil (z : Int) (hz : z ≠ 0) (w : World) : CallsE Tryz.prog 59 #[.pointer none, .int .i64 z] w (RetV w (.string (bs []))) := by
  refine enter (X := cx 15) (cxg _) (args := [.pointer none, .int .i64 z]) [.tmp 4] Tryz.func59 rfl rfl rfl rfl rfl ?_
  refine callV _ (fun w' hm => Peek_nil w') ?_
  refine bsplitd (fun _ => ?_) (fun h => absurd (fun e => hz e.symm) h)
  refine call (fun w' hm => Fail_nil 14 w') ?_
  rintro _ _ rfl
  exact ⟨[], ⟨rfl, rfl⟩, fun w' h => h.pick [0] rfl rfl⟩
theorem Name_nil (w : World) : CallsE Tryz.prog 42 #[.pointer none] w (RetV w (.string (bs []))) := by
  refine enter (X := cx 5) (cxg _) (args := [.pointer none]) [.tmp 2] Tryz.func42 rfl rfl rfl rfl rfl ?_
  refine callV _ (fun w' hm => kind_nil 1 (by decide) w') ?_
  exact ⟨[], ⟨rfl, rfl⟩, fun w' h => h.pick [0] rfl rfl⟩
theorem Text_nil (w : World) : CallsE Tryz.prog 43 #[.pointer none] w (RetV w (.string (bs []))) := by
  refine enter (X := cx 5) (cxg _) (args := [.pointer none]) [.tmp 2] Tryz.func43 rfl rfl rfl rfl rfl ?_
  refine callV _ (fun w' hm => kind_nil 3 (by decide) w') ?_
  exact ⟨[], ⟨rfl, rfl⟩, fun w' h => h.pick [0] rfl rfl⟩
theorem Number_nil (w : World) : CallsE Tryz.prog 29 #[.pointer none] w (RetV w (.string (bs []))) := by
  refine enter (X := cx 31) (cxg _) (args := [.pointer none]) [.tmp 2] Tryz.func29 rfl rfl rfl rfl rfl ?_
  refine callV _ (fun w' hm => Take_nil [45] w') ?_
  refine callV _ (fun w' hm => Peek_nil w') ?_
  intro b4
  refine qNeL (a := []) (b := []) ?_
  conv => whnf
  refine callV _ (fun w' hm => kind_nil 2 (by decide) w') ?_
  refine qEqL (a := []) (b := []) ?_
  exact ⟨[], ⟨rfl, rfl⟩, fun w' h => h.pick [0] rfl rfl⟩
theorem Int_nil (lo hi : Int) (w : World) : CallsE Tryz.prog 30 #[.pointer none, .int .i64 lo, .int .i64 hi] w (RetV w (.int .i64 0)) := by
  refine enter (X := cx 57) (cxg _) (args := [.pointer none, .int .i64 lo, .int .i64 hi]) [.tmp 6] Tryz.func30 rfl rfl rfl rfl rfl ?_
  refine qEqN ?_
  exact ⟨[], ⟨rfl, rfl⟩, fun w' h => h.pick [0] rfl rfl⟩
theorem Finish_nil (w : World) : CallsE Tryz.prog 44 #[.pointer none] w (Ret w fun _ cs => cs = []) := by
  refine enter (X := cx 8) (cxg _) (args := [.pointer none]) [] Tryz.func44 rfl rfl rfl rfl rfl ?_
  refine callV _ (fun w' hm => Peek_nil w') ?_
  refine call (fun w' hm => Fail_nil 14 w') ?_
  rintro _ _ rfl
  exact ⟨[], rfl, fun w' h => h.pick [0] rfl rfl⟩
/-! ### calls -/
def calV (c : Cal) : Value := .agg #[.int .u8 c.1, .string (bs c.2.1), .int .i64 c.2.2.1, .int .i64 c.2.2.2.1, .int .u8 c.2.2.2.2]
def encO (o : Ouc) : Value := .agg #[.int .i64 o.1.1, .string (bs o.1.2.1), .int .i64 o.1.2.2.1, .int .i64 o.1.2.2.2, .string (bs o.2.1), .int .i64 o.2.2.1, .bool o.2.2.2]
def ouc0 : Ouc := (tok0, [], 0, false)
theorem eight (k : Nat) : k % 10 = 0 ∨ k % 10 = 1 ∨ k % 10 = 2 ∨ k % 10 = 3 ∨ k % 10 = 4 ∨ k % 10 = 5 ∨ k % 10 = 6 ∨ k % 10 = 7 ∨ k % 10 = 8 ∨ k % 10 = 9 := by omega
set_option maxRecDepth 20000 in
set_option maxHeartbeats 1000000 in
theorem call35_nil (c : Cal) (w : World) : CallsE Tryz.prog 23 #[.pointer none, calV c] w (RetV w (encO ouc0)) := by
  obtain ⟨k, x, lo, hi, z⟩ := c
  unfold calV
  dsimp only
  refine enter (X := cx 70) (cxg _) (args := [.pointer none, .agg #[.int .u8 k, .string (bs x), .int .i64 lo, .int .i64 hi, .int .u8 z]]) [.cell 4 47] Tryz.func23 rfl rfl rfl rfl rfl ?_
  intro b3
  intro b4
  refine qRemP k 10 rfl rfl (by decide) ?_
  rcases eight k with h | h | h | h | h | h | h | h | h | h <;> rw [h]
  · refine callV _ (fun w' hm => Next_nil w') ?_
    exact ⟨[], ⟨rfl, rfl⟩, fun w' h => h.pick [0] rfl rfl⟩
  · refine callV _ (fun w' hm => Is_nil x w') ?_
    exact ⟨[], ⟨rfl, rfl⟩, fun w' h => h.pick [0] rfl rfl⟩
  · refine callV _ (fun w' hm => Take_nil x w') ?_
    exact ⟨[], ⟨rfl, rfl⟩, fun w' h => h.pick [0] rfl rfl⟩
  · refine call (fun w' hm => Expect_nil x w') ?_
    rintro _ _ rfl
    exact ⟨[], ⟨rfl, rfl⟩, fun w' h => h.pick [0] rfl rfl⟩
  · refine callV _ (fun w' hm => Name_nil w') ?_
    exact ⟨[], ⟨rfl, rfl⟩, fun w' h => h.pick [0] rfl rfl⟩
  · refine callV _ (fun w' hm => Text_nil w') ?_
    exact ⟨[], ⟨rfl, rfl⟩, fun w' h => h.pick [0] rfl rfl⟩
  · refine callV _ (fun w' hm => Number_nil w') ?_
    exact ⟨[], ⟨rfl, rfl⟩, fun w' h => h.pick [0] rfl rfl⟩
  · refine callV _ (fun w' hm => Int_nil lo hi w') ?_
    exact ⟨[], ⟨rfl, rfl⟩, fun w' h => h.pick [0] rfl rfl⟩
  · refine call (fun w' hm => Finish_nil w') ?_
    rintro _ _ rfl
    exact ⟨[], ⟨rfl, rfl⟩, fun w' h => h.pick [0] rfl rfl⟩
  · refine qRemP z 40 rfl rfl (by decide) ?_
    refine nw (by omega) (by omega) ?_
    refine call (fun w' hm => Fail_nil _ w') ?_
    rintro _ _ rfl
    exact ⟨[], ⟨rfl, rfl⟩, fun w' h => h.pick [0] rfl rfl⟩
end Go.Proofs.YtoholjdojdmbkaaGreatDoor
namespace Go.Proofs.YtoholjdojdmbkaaGreatDoor
open Go Go.RowKit Go.Dw
theorem ouc_dec (T U : Tok) (a2 b2 : Byts) (a3 b3 : Int) (a4 b4 : Bool) : decide (((T, a2, a3, a4) : Ouc) = (U, b2, b3, b4)) = (decide (T = U) && (decide (a2 = b2) && (decide (a3 = b3) && decide (a4 = b4)))) := by
  by_cases h1 : T = U <;> by_cases h2 : a2 = b2 <;> by_cases h3 : a3 = b3 <;> by_cases h4 : a4 = b4 <;> simp [h1, h2, h3, h4]
theorem eqOut (w : World) (a b : Ouc) : (Op.equalIn 10000 47 (encO a) (encO b)).run Tryz.prog w = .ok (decide (a = b)) w := by
  obtain ⟨⟨t1, t2, t3, t4⟩, a2, a3, a4⟩ := a
  obtain ⟨⟨u1, u2, u3, u4⟩, b2, b3, b4⟩ := b
  unfold encO
  dsimp only
  rw [show (10000 : Nat) = 9999 + 1 from rfl, run_equalIn_struct w _ _ _ _ (by kernel_rfl) (by kernel_rfl)]
  have e : (Tryz.prog.fieldsOf 47).toList = [⟨"token", 32, 0, false, "", "dowel/dowellaw35", 0⟩, ⟨"text", 9, 4, false, "", "dowel/dowellaw35", 40⟩, ⟨"n", 3, 5, false, "", "dowel/dowellaw35", 56⟩, ⟨"is", 4, 6, false, "", "dowel/dowellaw35", 64⟩] := by kernel_rfl
  have hi : ∀ x y : Int, (Op.equalIn 9999 3 (.int .i64 x) (.int .i64 y)).run Tryz.prog w = .ok (x == y) w := fun x y => run_equalIn_int w 9998 3 .i64 .i64 x y Tryz.underlying3
  have hbo : ∀ x y : Bool, (Op.equalIn 9999 4 (.bool x) (.bool y)).run Tryz.prog w = .ok (x == y) w := fun x y => run_equalIn_bool' w 9998 4 x y Tryz.underlying4
  have hs : ∀ x y : ByteArray, (Op.equalIn 9999 9 (.string x) (.string y)).run Tryz.prog w = .ok (decide (x = y)) w := fun x y => by
    rw [run_equalIn_string w 9998 9 x y Tryz.underlying9, str_eq]
  have ht := eqTokIn w 9997 (t1, t2, t3, t4) (u1, u2, u3, u4)
  unfold encT at ht
  dsimp only at ht
  have hx : ∀ (p q r s : Value) (x y z : Value), (#[p, q, r, s, x, y, z] : Array Value).extract 0 (0 + 4) = #[p, q, r, s] := fun p q r s x y z => rfl
  have hz : (sizeOf 32).run Tryz.prog w = .ok 4 w := by kernel_rfl
  rw [e]
  simp only [Op.eqFields, ne_eq, String.reduceEq, not_false_eq_true, if_true, Sem.run_bind, part, Tryz.isAgg32, Result.andThen_ok, hz, hx, Sem.run_pure]
  rw [ht, ouc_dec]
  generalize decide (((t1, t2, t3, t4) : Tok) = (u1, u2, u3, u4)) = z
  have hb : (bs a2 = bs b2) ↔ a2 = b2 := by
    have := bs_dec a2 b2
    rw [decide_eq_decide] at this; exact this
  simp only [Result.andThen_ok]
  by_cases h2 : a2 = b2 <;> by_cases h3 : a3 = b3 <;> by_cases h4 : a4 = b4 <;> cases z <;> simp [hi, hs, hbo, hb, h2, h3, h4]
section
variable {s : List Ch} {xo yo : Operand} {a b : Ouc} {q : TV → Prop}
theorem qOutNe (h : q (.v (.bool (decide (a ≠ b))))) : NeedQ Tryz.prog s (do eqGuard .neq 47 xo yo (encO a) (encO b); binOp .neq 47 (encO a) (encO b)) q := by
  refine ⟨_, fun w _ => ?_, h⟩
  unfold encO
  rw [Sem.run_bind, run_eqGuard_agg w _ _ _ _ _ _ Tryz.eqGuardType47]
  simp only [Result.andThen_ok]
  have := eqOut w a b
  unfold encO at this
  rw [run_neq_struct, this]
  by_cases h1 : a = b <;> simp [h1]
theorem qOutEq (h : q (.v (.bool (decide (a = b))))) : NeedQ Tryz.prog s (do eqGuard .eql 47 xo yo (encO a) (encO b); binOp .eql 47 (encO a) (encO b)) q := by
  refine ⟨_, fun w _ => ?_, h⟩
  unfold encO
  rw [Sem.run_bind, run_eqGuard_agg w _ _ _ _ _ _ Tryz.eqGuardType47]
  simp only [Result.andThen_ok]
  have := eqOut w a b
  unfold encO at this
  rw [run_eql_struct, this]
  rfl
theorem qOutYes (he : a = b) (h : q (.v (.bool true))) : NeedQ Tryz.prog s (do eqGuard .eql 47 xo yo (encO a) (encO b); binOp .eql 47 (encO a) (encO b)) q := qOutEq (by rw [decide_eq_true he]; exact h)
end
set_option maxHeartbeats 1000000 in
theorem nil_ok (c : Cal) (w : World) (hT : TabS (Hp.whole w)) : CallsE Tryz.prog 7 #[calV c] w (RetV w (.bool true)) := by
  have hz := bs_size c.2.1
  unfold calV
  refine enter (X := cx 47) (cxg _) (args := [.agg #[.int .u8 c.1, .string (bs c.2.1), .int .i64 c.2.2.1, .int .i64 c.2.2.2.1, .int .u8 c.2.2.2.2]]) [.tmp 2] Tryz.func7 rfl rfl rfl rfl rfl ?_
  intro b1
  refine callV _ (fun w' hm => known35_spec w' (hT.mono (hm 0 _ rfl).whole)) ?_
  refine bsplitd (fun h1 => ?_) (fun h1 => ?_)
  · refine callV _ (fun w' hm => known35_spec w' (hT.mono (hm 0 _ rfl).whole)) ?_
    exact ⟨[], ⟨rfl, rfl⟩, fun w' h => h.pick [0] rfl rfl⟩
  · refine callV _ (fun w' hm => by
      have := call35_nil c w'
      unfold calV at this; exact this) ?_
    intro b4
    refine callV _ (fun w' hm => Error_nil w') ?_
    refine hideQ (fun _ kz => kz _ _ ?_)
    show wops _ _ _ _ _ _
    refine w1k (by rfl) fun K hK => ?_
    refine hK _ _ ?_
    refine w1k (by rfl) fun K hK => ?_
    refine hK _ _ ?_
    refine w1k (by rfl) fun K hK => ?_
    refine qOutYes (a := ouc0) (b := ouc0) rfl ?_
    refine hK _ _ ?_
    refine w1k (by rfl) fun K hK => ?_
    refine hK _ _ ?_
    refine wGYk (by rfl) (by rfl) (by rfl) fun K hK => ?_
    refine hK _ _ ?_
    refine wGYk (by rfl) (by rfl) (by rfl) fun K hK => ?_
    refine callV _ (fun w' hm => Peek_nil w') ?_
    refine hK _ _ ?_
    refine wGYk (by rfl) (by rfl) (by rfl) fun K hK => ?_
    refine hK _ _ ?_
    refine wGYk (by rfl) (by rfl) (by rfl) fun K hK => ?_
    refine qTokYes (a := tok0) (b := tok0) rfl ?_
    refine hK _ _ ?_
    refine w1k (by rfl) fun K hK => ?_
    refine hK _ _ ?_
    refine w1k (by rfl) fun K hK => ?_
    refine hK _ _ ?_
    refine wGYk (by rfl) (by rfl) (by rfl) fun K hK => ?_
    refine hK _ _ ?_
    refine wGYk (by rfl) (by rfl) (by rfl) fun K hK => ?_
    refine hK _ _ ?_
    refine w1k (by rfl) fun K hK => ?_
    refine hK _ _ ?_
    refine w1k (by rfl) fun K hK => ?_
    refine hK _ _ ?_
    refine wGYk (by rfl) (by rfl) (by rfl) fun K hK => ?_
    refine hK _ _ ?_
    refine wGYk (by rfl) (by rfl) (by rfl) fun K hK => ?_
    refine hK _ _ ?_
    refine w1k (by rfl) fun K hK => ?_
    refine hK _ _ ?_
    refine w1k (by rfl) fun K hK => ?_
    refine hK _ _ ?_
    refine wGYk (by rfl) (by rfl) (by rfl) fun K hK => ?_
    refine hK _ _ ?_
    refine wGYk (by rfl) (by rfl) (by rfl) fun K hK => ?_
    refine hK _ _ ?_
    refine w1k (by rfl) fun K hK => ?_
    refine hK _ _ ?_
    refine w1k (by rfl) fun K hK => ?_
    refine hK _ _ ?_
    refine wnil ?_
    exact ⟨[], ⟨rfl, rfl⟩, fun w' h => h.pick [0] rfl rfl⟩
end Go.Proofs.YtoholjdojdmbkaaGreatDoor
