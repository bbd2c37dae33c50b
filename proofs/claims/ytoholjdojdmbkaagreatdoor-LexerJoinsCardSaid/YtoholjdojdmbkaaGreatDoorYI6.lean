/- The plain law of LexerLengths: texts of the greatest lengths, and of one byte more. No condition. -/
import Derived.Test.YtoholjdojdmbkaaGreatDoorXE
namespace Go.Proofs.YtoholjdojdmbkaaGreatDoor
theorem run_rep {f : UInt8 → Bool} {c : UInt8} (h : f c = true) : ∀ n, runN f (List.replicate n c) = n
  | 0 => rfl
  | n + 1 => by
    have ih := run_rep h n
    unfold runN at ih ⊢
    rw [List.replicate_succ, List.takeWhile_cons, if_pos h, List.length_cons, ih]
theorem sca_blanks : ∀ (n f : Nat) (p : Nat × Nat) (out : List Tok), n < f → scaK f (List.replicate n 32) p out = (out ++ [(5, [], p.1, p.2 + n)], 0, 0, 0)
  | 0, f + 1, p, out, _ => rfl
  | n + 1, f + 1, p, out, h => by
    have ih := sca_blanks n f (pas1 p 32) out (by omega)
    have e : scaK (f + 1) (List.replicate (n + 1) 32) p out = scaK f (List.replicate n 32) (pas1 p 32) out := rfl
    rw [e, ih]
    have e2 : pas1 p 32 = (p.1, p.2 + 1) := rfl
    rw [e2]
    dsimp only
    rw [show p.2 + 1 + n = p.2 + (n + 1) by omega]
theorem quo_x : ∀ (n i : Nat) (out : Byts), quoF (List.replicate n 120 ++ [34]) i out = if 4096 < out.length + n then (0, [], 5) else (i + n + 1, out ++ List.replicate n 120, 0)
  | 0, i, out => by
    show quoF [34] i out = _
    unfold quoF
    rw [if_neg (by decide), if_pos rfl]
    simp
  | n + 1, i, out => by
    have ih := quo_x n (i + 1) (out ++ [120])
    have e : quoF (List.replicate (n + 1) 120 ++ [34]) i out = quoF (List.replicate n 120 ++ [34]) (i + 1) (out ++ [120]) := by
      cases n with
      | zero =>
        show quoF [120, 34] i out = quoF [34] (i + 1) (out ++ [120])
        rfl
      | succ n => rfl
    rw [e, ih, List.length_append, List.length_singleton, List.append_assoc]
    have e2 : out.length + 1 + n = out.length + (n + 1) := by omega
    have e3 : i + 1 + n + 1 = i + (n + 1) + 1 := by omega
    rw [e2, e3]
    rfl
theorem len_blanks {n : Nat} (h : n ≤ 65536) : (scaF (List.replicate n 32)).1.length = 1 ∧ (scaF (List.replicate n 32)).2.2.2 = 0 := by
  unfold scaF
  rw [List.length_replicate, if_neg (by omega), sca_blanks n (n + 1) (1, 1) [] (by omega)]
  exact ⟨rfl, rfl⟩
theorem len_long {s : Byts} (h : 65536 < s.length) : scaF s = ([], 1, 1, 5) := by unfold scaF; rw [if_pos h]
theorem len_word0 : (scaF (32 :: List.replicate 40 97)).1.length = 2 ∧ (scaF (32 :: List.replicate 40 97)).2.2.2 = 0 := by decide +kernel
theorem len_word1 : (scaF (32 :: List.replicate 41 97)).2 = (1, 2, 5) := by decide +kernel
theorem len_num0 : (scaF (32 :: List.replicate 400 55)).1.length = 2 ∧ (scaF (32 :: List.replicate 400 55)).2.2.2 = 0 := by decide +kernel
theorem len_num1 : (scaF (32 :: List.replicate 401 55)).2 = (1, 2, 5) := by decide +kernel
theorem len_text {n : Nat} (hn : n < 60000) : scaF (32 :: 34 :: (List.replicate n 120 ++ [34])) = if 4096 < n then ([], 1, 2, 5) else ([(3, List.replicate n 120, 1, 2), (5, [], 1, n + 4)], 0, 0, 0) := by
  have hl : (32 :: 34 :: (List.replicate n 120 ++ [34]) : Byts).length = n + 3 := by simp
  have ht : tokF (34 :: (List.replicate n 120 ++ [34])) = if 4096 < n then (0, 3, [], 5) else (n + 2, 3, List.replicate n 120, 0) := by
    have e : tokF (34 :: (List.replicate n 120 ++ [34])) = ((quoF (List.replicate n 120 ++ [34]) 1 []).1, 3, (quoF (List.replicate n 120 ++ [34]) 1 []).2.1, (quoF (List.replicate n 120 ++ [34]) 1 []).2.2) := rfl
    rw [e, quo_x]
    rw [show ([] : Byts).length + n = n by simp]
    split
    · rfl
    · rw [show 1 + n + 1 = n + 2 by omega]; rfl
  have hst : ∀ f, scaK (f + 2) (32 :: 34 :: (List.replicate n 120 ++ [34])) (1, 1) [] = if (tokF (34 :: (List.replicate n 120 ++ [34]))).2.2.2 ≠ 0 then ([], (pasN (1, 2) ((34 :: (List.replicate n 120 ++ [34])).take (tokF (34 :: (List.replicate n 120 ++ [34]))).1)).1, (pasN (1, 2) ((34 :: (List.replicate n 120 ++ [34])).take (tokF (34 :: (List.replicate n 120 ++ [34]))).1)).2, (tokF (34 :: (List.replicate n 120 ++ [34]))).2.2.2)
      else scaK f ((34 :: (List.replicate n 120 ++ [34])).drop (tokF (34 :: (List.replicate n 120 ++ [34]))).1) (pasN (1, 2) ((34 :: (List.replicate n 120 ++ [34])).take (tokF (34 :: (List.replicate n 120 ++ [34]))).1)) [((tokF (34 :: (List.replicate n 120 ++ [34]))).2.1, (tokF (34 :: (List.replicate n 120 ++ [34]))).2.2.1, 1, 2)] := fun f => rfl
  unfold scaF
  rw [hl, if_neg (by omega), show n + 3 + 1 = (n + 2) + 2 by omega, hst, ht]
  by_cases h : 4096 < n
  · rw [if_pos h, if_pos h]; rfl
  · rw [if_neg h, if_neg h]
    dsimp only
    rw [if_neg (by decide)]
    have hall : (34 :: (List.replicate n 120 ++ [34]) : Byts).length = n + 2 := by simp
    rw [List.drop_eq_nil_of_le (by omega), List.take_of_length_le (by omega)]
    have hp : ∀ (k : Nat) (p : Nat × Nat), pasN p (List.replicate k 120 ++ [34]) = (p.1, p.2 + k + 1) := by
      intro k
      induction k with
      | zero => intro p; rfl
      | succ k ih =>
        intro p
        have e : pasN p (List.replicate (k + 1) 120 ++ [34]) = pasN (p.1, p.2 + 1) (List.replicate k 120 ++ [34]) := rfl
        rw [e, ih]
        dsimp only
        rw [show p.2 + 1 + k + 1 = p.2 + (k + 1) + 1 by omega]
    have e : pasN (1, 2) (34 :: (List.replicate n 120 ++ [34])) = pasN (1, 3) (List.replicate n 120 ++ [34]) := rfl
    rw [e, hp]
    show ([(3, List.replicate n 120, 1, 2)] ++ [(5, [], 1, 3 + n + 1)], 0, 0, 0) = _
    rw [show 3 + n + 1 = n + 4 by omega]
    rfl
end Go.Proofs.YtoholjdojdmbkaaGreatDoor
