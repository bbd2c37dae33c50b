/- The law LexerLengths. Each theorem's premises are its own. -/
import Derived.Test.YtoholjdojdmbkaaGreatDoorYKm
namespace Go.Proofs.YtoholjdojdmbkaaGreatDoor
open Go Go.RowKit Go.Dw
theorem qMinN {P : Program} {s : List Ch} {tys : Array TypeId} {ty : Nat} {x y : Int} (a b : Nat) (hx : x = a) (hy : y = b) {q : TV → List Ch → Prop} (h : q (.v (.int .i64 ((min a b : Nat) : Int))) s) : NeedE P s (Builtin.min_ tys ty #[.int .i64 x, .int .i64 y]) q := by
  subst hx hy
  refine ⟨fun w0 w hok => ⟨_, _, w, s, ?_, hok, Keep.refl s, rfl, h⟩⟩
  simp [Builtin.min_, Builtin.min2]
  split <;> (try rfl) <;> (congr 1; omega)
/-- the four texts -/
def fourL (A B C D : Nat) : List Byts := [List.replicate A 32, 32 :: List.replicate B 97, 32 :: List.replicate C 55, 32 :: 34 :: (List.replicate D 120 ++ [34])]
theorem four0 {A B C D : Nat} (hA : A ≤ 65536) (hB : B = 40) (hC : C = 400) (hD : D = 4096) : ∀ i (h : i < (fourL A B C D).length), (scaF (fourL A B C D)[i]).2.2.2 = 0 ∧ (scaF (fourL A B C D)[i]).1.length = min i 1 + 1
  | 0, _ => by
    show (scaF (List.replicate A 32)).2.2.2 = 0 ∧ (scaF (List.replicate A 32)).1.length = 1
    exact ⟨(len_blanks hA).2, (len_blanks hA).1⟩
  | 1, _ => by
    show (scaF (32 :: List.replicate B 97)).2.2.2 = 0 ∧ (scaF (32 :: List.replicate B 97)).1.length = 2
    rw [hB]; exact ⟨len_word0.2, len_word0.1⟩
  | 2, _ => by
    show (scaF (32 :: List.replicate C 55)).2.2.2 = 0 ∧ (scaF (32 :: List.replicate C 55)).1.length = 2
    rw [hC]; exact ⟨len_num0.2, len_num0.1⟩
  | 3, _ => by
    show (scaF (32 :: 34 :: (List.replicate D 120 ++ [34]))).2.2.2 = 0 ∧ (scaF (32 :: 34 :: (List.replicate D 120 ++ [34]))).1.length = 2
    rw [len_text (by omega), if_neg (by omega)]; exact ⟨rfl, rfl⟩
theorem four1 {A B C D : Nat} (hA : 65536 < A) (hB : B = 41) (hC : C = 401) (hD : D = 4097) : ∀ i (h : i < (fourL A B C D).length), (scaF (fourL A B C D)[i]).2 = (1, 1 + min i 1, 5)
  | 0, _ => by
    show (scaF (List.replicate A 32)).2 = (1, 1, 5)
    rw [len_long (by rw [List.length_replicate]; exact hA)]
  | 1, _ => by
    show (scaF (32 :: List.replicate B 97)).2 = (1, 2, 5)
    rw [hB]; exact len_word1
  | 2, _ => by
    show (scaF (32 :: List.replicate C 55)).2 = (1, 2, 5)
    rw [hC]; exact len_num1
  | 3, _ => by
    show (scaF (32 :: 34 :: (List.replicate D 120 ++ [34]))).2 = (1, 2, 5)
    rw [len_text (by omega), if_pos (by omega)]
set_option maxRecDepth 20000 in
set_option maxHeartbeats 2000000 in
theorem lengths_ok (z : Int) (hz : 0 ≤ z ∧ z ≤ 255) (w : World) (hT : TabS (Hp.whole w)) : CallsE Tryz.prog 3 #[.int .u8 z] w (RetV w (.bool true)) := by
  obtain ⟨zn, rfl⟩ := Int.eq_ofNat_of_zero_le hz.1
  refine enter (X := cx 86) (cxg _) (args := [.int .u8 ((zn : Nat) : Int)]) [.tmp 2] Tryz.func3 rfl rfl rfl rfl rfl ?_
  refine callV _ (fun w' hm => known35_spec w' (hT.mono (hm 0 _ rfl).whole)) ?_
  refine qRemP zn 2 rfl rfl (by decide) ?_
  have hk2 : zn % 2 < 2 := Nat.mod_lt _ (by decide)
  generalize zn % 2 = k at *
  obtain ⟨A, hA⟩ : ∃ A, A = 65536 + k := ⟨_, rfl⟩
  obtain ⟨B, hB⟩ : ∃ B, B = 40 + k := ⟨_, rfl⟩
  obtain ⟨C, hC⟩ : ∃ C, C = 400 + k := ⟨_, rfl⟩
  obtain ⟨D, hD⟩ : ∃ D, D = 4096 + k := ⟨_, rfl⟩
  refine nw (by omega) (by omega) ?_
  refine hideQ (fun _ kz => kz _ _ ?_)
  show wops _ _ _ _ _ _
  refine w1k (by rfl) fun K hK => ?_
  refine hK _ _ ?_
  refine w1k (by rfl) fun K hK => ?_
  refine hK _ _ ?_
  refine w1k (by rfl) fun K hK => ?_
  refine nwEq (y := ((A : Nat) : Int)) (by omega) (by omega) (by omega) ?_
  refine hK _ _ ?_
  refine w1k (by rfl) fun K hK => ?_
  refine callV _ (fun w' hm => fill_spec 32 A (by omega) (by omega) w') ?_
  refine hK _ _ ?_
  refine w1k (by rfl) fun K hK => ?_
  refine hK _ _ ?_
  refine w1k (by rfl) fun K hK => ?_
  refine hK _ _ ?_
  refine w1k (by rfl) fun K hK => ?_
  refine nwEq (y := ((B : Nat) : Int)) (by omega) (by omega) (by omega) ?_
  refine hK _ _ ?_
  refine w1k (by rfl) fun K hK => ?_
  refine callV _ (fun w' hm => fill_spec 97 B (by omega) (by omega) w') ?_
  refine hK _ _ ?_
  refine w1k (by rfl) fun K hK => ?_
  refine qAdd (ty := 9) (a := [32]) (b := List.replicate B 97) (by rw [List.length_replicate, List.length_singleton]; omega) ?_
  refine hK _ _ ?_
  refine w1k (by rfl) fun K hK => ?_
  refine hK _ _ ?_
  refine w1k (by rfl) fun K hK => ?_
  refine hK _ _ ?_
  refine w1k (by rfl) fun K hK => ?_
  refine nwEq (y := ((C : Nat) : Int)) (by omega) (by omega) (by omega) ?_
  refine hK _ _ ?_
  refine w1k (by rfl) fun K hK => ?_
  refine callV _ (fun w' hm => fill_spec 55 C (by omega) (by omega) w') ?_
  refine hK _ _ ?_
  refine w1k (by rfl) fun K hK => ?_
  refine qAdd (ty := 9) (a := [32]) (b := List.replicate C 55) (by rw [List.length_replicate, List.length_singleton]; omega) ?_
  refine hK _ _ ?_
  refine w1k (by rfl) fun K hK => ?_
  refine hK _ _ ?_
  refine w1k (by rfl) fun K hK => ?_
  refine hK _ _ ?_
  refine w1k (by rfl) fun K hK => ?_
  refine nwEq (y := ((D : Nat) : Int)) (by omega) (by omega) (by omega) ?_
  refine hK _ _ ?_
  refine w1k (by rfl) fun K hK => ?_
  refine callV _ (fun w' hm => fill_spec 120 D (by omega) (by omega) w') ?_
  refine hK _ _ ?_
  refine w1k (by rfl) fun K hK => ?_
  refine qAdd (ty := 9) (a := [32, 34]) (b := List.replicate D 120) (by rw [List.length_replicate]; simp only [List.length_cons, List.length_nil]; omega) ?_
  refine hK _ _ ?_
  refine w1k (by rfl) fun K hK => ?_
  refine qAdd (ty := 9) (a := [32, 34] ++ List.replicate D 120) (b := [34]) (by rw [List.length_append, List.length_replicate]; simp only [List.length_cons, List.length_nil]; omega) ?_
  refine hK _ _ ?_
  refine w1k (by rfl) fun K hK => ?_
  intro b36
  refine hK _ _ ?_
  refine w1k (by rfl) fun K hK => ?_
  refine hK _ _ ?_
  refine wnil ?_
  have hS : Sl (encF fS) 1 (Ch.box b36 ((fourL A B C D).flatMap fS) 9).h (some ⟨b36, 0, none⟩) 4 4 (fourL A B C D) := OwnO.sl (f := fS) (fun _ => rfl) (by decide) (OwnO.ofBox (f := fS) (sz := 1) (T := 9) (b := b36) (fun _ => rfl) (fourL A B C D) rfl rfl (by show 4 < 1000000; decide))
  have hres : ∀ i (h : i < (fourL A B C D).length), (k = 0 ∧ (scaF (fourL A B C D)[i]).2.2.2 = 0 ∧ (scaF (fourL A B C D)[i]).1.length = min i 1 + 1) ∨ (k = 1 ∧ (scaF (fourL A B C D)[i]).2 = (1, 1 + min i 1, 5)) := fun i h => by
    have hk : k = 0 ∨ k = 1 := by omega
    rcases hk with rfl | rfl
    · exact .inl ⟨rfl, four0 (by omega) (by omega) (by omega) (by omega) i h⟩
    · exact .inr ⟨rfl, four1 (by omega) (by omega) (by omega) (by omega) i h⟩
  have hl4 : (fourL A B C D).length = 4 := rfl
  refine NeedL.mk Nat (fun i => [(4, .v (.int .i64 k)), (5, .v (.slice (some ⟨b36, 0, none⟩) 4 4)), (6, .v (.int .i64 i))]) (fun _ => [.hp (Hp.whole w), .hp (Ch.box b36 ((fourL A B C D).flatMap fS) 9).h])
    (fun i => i ≤ 4) (fun i => 4 - i) 0 (Nat.zero_le _) (Ent.mk (fun _ _ h => Ok.same (i := 1) (c := .box b36 ((fourL A B C D).flatMap fS) 9) (d := .hp (Ch.box b36 ((fourL A B C D).flatMap fS) 9).h) rfl rfl h) rfl rfl) ?_
  rintro i hi
  dsimp only at *
  generalize fourL A B C D = FL at *
  refine bsplitd (fun h1 => ?_) (fun h1 => ?_)
  · have hi4 : i < FL.length := by omega
    have hr := hres i hi4
    have hsc := fun (w' : World) (hT : TabS (Hp.whole w')) => Scan_spec FL[i] w' hT
    generalize scaF FL[i] = R at *
    obtain ⟨L, ln, co, e⟩ := R
    dsimp only at hr hsc
    have hmin : ((min i 1 : Nat) : Int) = if (i : Int) < 1 then (i : Int) else 1 := by
      split <;> omega
    refine idx (cxg _) (e := 9) rfl hS i rfl hi4 (fun b9 o9 cs hcs hR hcell => ?_)
    subst hR
    refine ld1 (cxg _) (i := 1) rfl (hcell 0 _ rfl) rfl ?_
    refine call (fun w' hm => hsc w' (hT.mono (hm 0 _ rfl).whole)) ?_
    rintro _ _ ⟨⟨a1, n1, c1, g1⟩, rfl, rfl, hO1⟩
    have hS1 := OwnO.sl (f := fT) (fun _ => rfl) (by decide) hO1
    have hn1 : n1 = L.length := hS1.len
    refine hideQ (fun _ kz => kz _ _ ?_)
    refine normS [.hp (Hp.whole w), .hp (Ch.box b36 (FL.flatMap fS) 9).h, .hp g1] rfl ?_
    rcases hr with ⟨rfl, hr⟩ | ⟨rfl, hr⟩
    · have hr : True ∧ e = 0 ∧ L.length = min i 1 + 1 := ⟨trivial, hr⟩
      show wops _ _ _ _ _ _
      refine w1k (by rfl) fun K hK => ?_
      refine hK _ _ ?_
      refine w1k (by rfl) fun K hK => ?_
      refine hK _ _ ?_
      refine w1k (by rfl) fun K hK => ?_
      refine hK _ _ ?_
      refine wGSk (by rfl) (by rfl) (by rfl) (fun h2_ K hK => ?_) (fun h2_ K hK => ?_)
      · refine hK _ _ ?_
        refine wGYk (by rfl) (by rfl) (by rfl) fun K hK => ?_
        refine hK _ _ ?_
        refine wGYk (by rfl) (by rfl) (by rfl) fun K hK => ?_
        refine hK _ _ ?_
        refine wGSk (by rfl) (by rfl) (by rfl) (fun h5_ K hK => ?_) (fun h5_ K hK => ?_)
        · refine hK _ _ ?_
          refine wGYk (by rfl) (by rfl) (by rfl) fun K hK => ?_
          refine hK _ _ ?_
          refine wGYk (by rfl) (by rfl) (by rfl) fun K hK => ?_
          refine hK _ _ ?_
          refine wGYk (by rfl) (by rfl) (by rfl) fun K hK => ?_
          refine qMinN i 1 rfl rfl ?_
          refine hK _ _ ?_
          refine wGYk (by rfl) (by rfl) (by rfl) fun K hK => ?_
          refine nwEq (y := ((min i 1 + 1 : Nat) : Int)) (by omega) (by omega) (by omega) ?_
          refine hK _ _ ?_
          refine wGYk (by rfl) (by rfl) (by rfl) fun K hK => ?_
          refine hK _ _ ?_
          refine wGYk (by rfl) (by rfl) (by rfl) fun K hK => ?_
          refine hK _ _ ?_
          refine w1k (by rfl) fun K hK => ?_
          refine hK _ _ ?_
          refine w1k (by rfl) fun K hK => ?_
          refine hK _ _ ?_
          refine wGSk (by rfl) (by rfl) (by rfl) (fun h14_ K hK => ?_) (fun h14_ K hK => ?_)
          · refine hK _ _ ?_
            refine wGYk (by rfl) (by rfl) (by rfl) fun K hK => ?_
            refine hK _ _ ?_
            refine wGYk (by rfl) (by rfl) (by rfl) fun K hK => ?_
            refine hK _ _ ?_
            refine wGSk (by rfl) (by rfl) (by rfl) (fun h17_ K hK => ?_) (fun h17_ K hK => ?_)
            · exact absurd (of_decide_eq_true h17_) (by decide)
            · refine hK _ _ ?_
              refine wGNk (by rfl) (by rfl) (by rfl) fun K hK => ?_
              refine hK _ _ ?_
              refine wGNk (by rfl) (by rfl) (by rfl) fun K hK => ?_
              refine hK _ _ ?_
              refine wGUk (by rfl) (by rfl) (by rfl) fun K hK => ?_
              refine hK _ _ ?_
              refine wGUk (by rfl) (by rfl) (by rfl) fun K hK => ?_
              refine hK _ _ ?_
              refine wGNk (by rfl) (by rfl) (by rfl) fun K hK => ?_
              refine hK _ _ ?_
              refine wGNk (by rfl) (by rfl) (by rfl) fun K hK => ?_
              refine hK _ _ ?_
              refine wGUk (by rfl) (by rfl) (by rfl) fun K hK => ?_
              refine hK _ _ ?_
              refine wGUk (by rfl) (by rfl) (by rfl) fun K hK => ?_
              refine hK _ _ ?_
              refine wGUk (by rfl) (by rfl) (by rfl) fun K hK => ?_
              refine hK _ _ ?_
              refine wGUk (by rfl) (by rfl) (by rfl) fun K hK => ?_
              refine hK _ _ ?_
              refine wGUk (by rfl) (by rfl) (by rfl) fun K hK => ?_
              refine hK _ _ ?_
              refine wGNk (by rfl) (by rfl) (by rfl) fun K hK => ?_
              refine hK _ _ ?_
              refine wGYk (by rfl) (by rfl) (by rfl) fun K hK => ?_
              refine hK _ _ ?_
              refine w1k (by rfl) fun K hK => ?_
              refine hK _ _ ?_
              refine wnil ?_
              refine nw (by omega) (by omega) ?_
              exact ⟨i + 1, by omega, by omega, Ent.mk (fun _ _ h => h.pick [0, 1] rfl rfl) rfl rfl⟩
          · exact absurd (show ((n1 : Nat) : Int) = ((min i 1 + 1 : Nat) : Int) by have := hr.2.2; omega) (of_decide_eq_true h14_)
        · exact absurd hr.2.1 (of_decide_eq_true h5_)
      · exact absurd rfl (of_decide_eq_false h2_)
    · obtain ⟨rfl, rfl, rfl⟩ : ln = 1 ∧ co = 1 + min i 1 ∧ e = 5 := by simp only [Prod.mk.injEq] at hr; exact hr
      show wops _ _ _ _ _ _
      refine w1k (by rfl) fun K hK => ?_
      refine hK _ _ ?_
      refine w1k (by rfl) fun K hK => ?_
      refine hK _ _ ?_
      refine w1k (by rfl) fun K hK => ?_
      refine hK _ _ ?_
      refine wGSk (by rfl) (by rfl) (by rfl) (fun h2_ K hK => ?_) (fun h2_ K hK => ?_)
      · exact absurd (of_decide_eq_true h2_) (by decide)
      · refine hK _ _ ?_
        refine wGNk (by rfl) (by rfl) (by rfl) fun K hK => ?_
        refine hK _ _ ?_
        refine wGNk (by rfl) (by rfl) (by rfl) fun K hK => ?_
        refine hK _ _ ?_
        refine wGUk (by rfl) (by rfl) (by rfl) fun K hK => ?_
        refine hK _ _ ?_
        refine wGUk (by rfl) (by rfl) (by rfl) fun K hK => ?_
        refine hK _ _ ?_
        refine wGUk (by rfl) (by rfl) (by rfl) fun K hK => ?_
        refine hK _ _ ?_
        refine wGUk (by rfl) (by rfl) (by rfl) fun K hK => ?_
        refine hK _ _ ?_
        refine wGUk (by rfl) (by rfl) (by rfl) fun K hK => ?_
        refine hK _ _ ?_
        refine wGUk (by rfl) (by rfl) (by rfl) fun K hK => ?_
        refine hK _ _ ?_
        refine wGNk (by rfl) (by rfl) (by rfl) fun K hK => ?_
        refine hK _ _ ?_
        refine w1k (by rfl) fun K hK => ?_
        refine hK _ _ ?_
        refine w1k (by rfl) fun K hK => ?_
        refine hK _ _ ?_
        refine wGYk (by rfl) (by rfl) (by rfl) fun K hK => ?_
        refine hK _ _ ?_
        refine wGYk (by rfl) (by rfl) (by rfl) fun K hK => ?_
        refine hK _ _ ?_
        refine wGYk (by rfl) (by rfl) (by rfl) fun K hK => ?_
        refine hK _ _ ?_
        refine wGSk (by rfl) (by rfl) (by rfl) (fun h17_ K hK => ?_) (fun h17_ K hK => ?_)
        · refine hK _ _ ?_
          refine wGYk (by rfl) (by rfl) (by rfl) fun K hK => ?_
          refine hK _ _ ?_
          refine wGYk (by rfl) (by rfl) (by rfl) fun K hK => ?_
          refine hK _ _ ?_
          refine wGSk (by rfl) (by rfl) (by rfl) (fun h20_ K hK => ?_) (fun h20_ K hK => ?_)
          · refine hK _ _ ?_
            refine wGYk (by rfl) (by rfl) (by rfl) fun K hK => ?_
            refine hK _ _ ?_
            refine wGYk (by rfl) (by rfl) (by rfl) fun K hK => ?_
            refine hK _ _ ?_
            refine wGYk (by rfl) (by rfl) (by rfl) fun K hK => ?_
            refine hK _ _ ?_
            refine wGSk (by rfl) (by rfl) (by rfl) (fun h24_ K hK => ?_) (fun h24_ K hK => ?_)
            · refine hK _ _ ?_
              refine wGYk (by rfl) (by rfl) (by rfl) fun K hK => ?_
              refine hK _ _ ?_
              refine wGYk (by rfl) (by rfl) (by rfl) fun K hK => ?_
              refine qMinN i 1 rfl rfl ?_
              refine hK _ _ ?_
              refine wGYk (by rfl) (by rfl) (by rfl) fun K hK => ?_
              refine nwEq (y := ((1 + min i 1 : Nat) : Int)) (by omega) (by omega) (by omega) ?_
              refine hK _ _ ?_
              refine wGYk (by rfl) (by rfl) (by rfl) fun K hK => ?_
              refine hK _ _ ?_
              refine wGYk (by rfl) (by rfl) (by rfl) fun K hK => ?_
              refine hK _ _ ?_
              refine wGYk (by rfl) (by rfl) (by rfl) fun K hK => ?_
              refine hK _ _ ?_
              refine w1k (by rfl) fun K hK => ?_
              refine hK _ _ ?_
              refine wnil ?_
              refine wcond (by rfl) (fun h9 => ?_) (fun _ => ?_)
              · exact absurd rfl (of_decide_eq_true h9)
              · refine nw (by omega) (by omega) ?_
                exact ⟨i + 1, by omega, by omega, Ent.mk (fun _ _ h => h.pick [0, 1] rfl rfl) rfl rfl⟩
            · exact absurd rfl (of_decide_eq_true h24_)
          · exact absurd rfl (of_decide_eq_true h20_)
        · exact absurd rfl (of_decide_eq_false h17_)
  · exact ⟨[], ⟨rfl, rfl⟩, fun w' h => h.pick [0] rfl rfl⟩
end Go.Proofs.YtoholjdojdmbkaaGreatDoor
