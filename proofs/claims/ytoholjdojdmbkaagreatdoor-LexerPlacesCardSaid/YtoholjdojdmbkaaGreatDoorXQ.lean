/- Parts of one proof, joined: Km, Ko, Kp, Kq, Kr. No condition of its own. -/
import Derived.Test.YtoholjdojdmbkaaGreatDoorXL
import Derived.Test.YtoholjdojdmbkaaGreatDoorYI6
import Derived.Laws.BytesArg
namespace Go.Proofs.YtoholjdojdmbkaaGreatDoor
open Go Go.RowKit Go.Dw
def fU8 (x : UInt8) : List Value := [.int .u8 x.toNat]
theorem flat_u8 : ∀ L : List UInt8, L.flatMap fU8 = L.map fun x => Value.int .u8 x.toNat
  | [] => rfl
  | x :: L => by rw [List.flatMap_cons, List.map_cons, flat_u8 L]; rfl
theorem flat_get (L : List UInt8) {j : Nat} (h : j < L.length) : (L.flatMap fU8)[j]? = some (.int .u8 L[j].toNat) := by
  rw [flat_u8, List.getElem?_map, List.getElem?_eq_getElem h]; rfl
theorem qStrO {s : List Ch} {i : Nat} {o : Dw.Os} (hi : sget s i = some (.hp o.h)) {L : List UInt8} (ho : OwnO fU8 5 1 o L) (h0 : 0 < L.length) {q : TV → Prop} (h : q (.v (.string (bs L)))) : NeedQ Tryz.prog s (convert 23 9 o.v) q := by
  refine ⟨_, fun w hm => ?_, h⟩
  have hlen := OwnO.len ho
  obtain ⟨b, hb⟩ := ho.addr h0
  obtain ⟨a, n, c, hh⟩ := o
  dsimp only at hb hlen hi
  subst hb
  show (convert 23 9 (.slice (some ⟨b, 0, none⟩) n c)).run Tryz.prog w = _
  rw [run_convert_bytes_arg w 23 5 Tryz.underlying23 Tryz.underlying5 b 0 n c (L.map fun x => (x.toNat : Int)) (by rw [List.length_map, ← hlen]) (fun j hj => ?_) 9 Tryz.underlying9]
  · congr 2
    unfold strOfNums bs
    congr 2
    rw [List.map_map]
    conv => rhs; rw [← List.map_id L]
    exact List.map_congr_left fun x _ => UInt8.toNat_inj.1 (by simp)
  · have hj' : j < L.length := by omega
    obtain ⟨b', arr, e1, _, _, h4⟩ := Own.cell ho.2 (flat_get L hj')
    cases e1
    have := (hm i _ hi).whole.cell h4
    rw [Nat.zero_add]
    have e : (L.map fun x => (x.toNat : Int)).getD j 0 = (L[j].toNat : Int) := by
      rw [List.getD_eq_getElem?_getD, List.getElem?_map, List.getElem?_eq_getElem hj']; rfl
    rw [e]
    exact this
set_option maxHeartbeats 1000000 in
theorem fill_spec (c : UInt8) (n : Nat) (hn : n < 100000) (h0 : 0 < n) (w : World) : CallsE Tryz.prog 13 #[.int .u8 c.toNat, .int .i64 n] w (RetV w (.string (bs (List.replicate n c)))) := by
  refine enter (X := cx 20) (cxg _) (args := [.int .u8 c.toNat, .int .i64 n]) [.tmp 4] Tryz.func13 rfl rfl rfl rfl rfl ?_
  refine mkO (f := fU8) (cxg _) (e := 5) rfl n 0 rfl (by omega) (by omega) rfl (by omega) fun o8 ho8n ho8 => ?_
  refine NeedL.mk (Nat × Dw.Os) (fun g => [(0, .v (.int .u8 c.toNat)), (1, .v (.int .i64 n)), (5, .v g.2.v), (6, .v (.int .i64 g.1))]) (fun g => [.hp (Hp.whole w), .hp g.2.h])
    (fun g => g.1 ≤ n ∧ OwnO fU8 5 1 g.2 (List.replicate g.1 c ++ List.replicate (n - g.1) 0)) (fun g => n - g.1) (0, o8) ⟨Nat.zero_le _, ho8⟩ (Ent.mk (fun _ _ h => h) rfl rfl) ?_
  rintro ⟨k, o⟩ ⟨hk, hO⟩
  dsimp only at *
  refine bsplitd (fun h1 => ?_) (fun h1 => ?_)
  · have hk1 : k < n := by omega
    have hkl : k < (List.replicate k c ++ List.replicate (n - k) 0).length := by rw [List.length_append, List.length_replicate, List.length_replicate]; omega
    obtain ⟨b, hb⟩ := hO.addr (by omega)
    refine oidx1 (f := fU8) (cxg _) (e := 5) rfl rfl hO k rfl hkl (fun b9 hb9 => ?_)
    refine osto (g := fun x : UInt8 => .int .u8 x.toNat) (fun _ => rfl) (cxg _) (i := 1) rfl hb9 hO hkl rfl rfl c rfl rfl rfl fun o2 f1 f2 f3 ho2 => ?_
    have hv : o2.v = o.v := by unfold Dw.Os.v; rw [f1, f2, f3]
    refine nw (by omega) (by omega) ?_
    exact ⟨(k + 1, o2), ⟨hk1, by
      dsimp only
      have : (List.replicate k c ++ List.replicate (n - k) 0).set k c = List.replicate (k + 1) c ++ List.replicate (n - (k + 1)) 0 := by
        rw [List.set_append_right _ _ (by simp), List.length_replicate, Nat.sub_self]
        obtain ⟨m, hm⟩ : ∃ m, n - k = m + 1 := ⟨n - k - 1, by omega⟩
        rw [hm, List.replicate_succ, List.set_cons_zero, show n - (k + 1) = m by omega, List.replicate_succ', List.append_assoc]; rfl
      rw [← this]; exact ho2⟩, by dsimp only; omega, Ent.mk (fun _ _ h => h) (by dsimp only; rw [hv]; rfl) (by dsimp only; rw [hv]; rfl)⟩
  · have hk2 : k = n := by omega
    subst hk2
    rw [Nat.sub_self, List.replicate_zero, List.append_nil] at hO
    refine qStrO (i := 1) rfl hO (by rw [List.length_replicate]; exact h0) ?_
    exact ⟨[], ⟨rfl, rfl⟩, fun w' h => h.pick [0] rfl rfl⟩
end Go.Proofs.YtoholjdojdmbkaaGreatDoor
