/- The walks of package clog that write: New, Begin, Commit, Abort. -/
import Derived.Test.YtapkmgmcccgejaaClog
import Derived.RegionTactic
import Derived.ChangeAlike
namespace Go.Proofs.Ytapkmgmcccgejaa
open Go.RowKit

set_option maxHeartbeats 400000 in
theorem ends_yes {b : Nat} {L : LogM} {w : World} (h : LogAt w b L) (x : Int) (hx : L.state x = 1) :
    Calls Try.prog 28 #[.pointer (some ⟨b, 0, none⟩), .int .i64 x] w fun e w' => e = .returned (.tuple #[.pointer (some ⟨b, x.toNat * 4, none⟩), .int .i64 0]) ∧ w = w' := by
  have hi : L.isTx x = true := LogM.state_isTx (by rw [hx]; omega)
  obtain ⟨c0, _, _, _⟩ := h.tx hi
  rw [hx] at c0
  clear hx
  go_enter Try.func28, Try.ntmps28
  go_wp2_with (go_at_call 33; refine (get_yes h x hi).mono ?_; rintro e w1 ⟨rfl, rfl⟩)
  go_ret2
  exact ⟨rfl, rfl⟩

set_option maxHeartbeats 400000 in
theorem ends_no {b : Nat} {L : LogM} {w : World} (h : LogAt w b L) (x : Int) (hx : L.state x ≠ 1) :
    Calls Try.prog 28 #[.pointer (some ⟨b, 0, none⟩), .int .i64 x] w fun e w' => e = .returned (.tuple #[.pointer none, .int .i64 76]) ∧ w = w' := by
  cases hi : L.isTx x with
  | true =>
    obtain ⟨c0, _, _, _⟩ := h.tx hi
    have d : (L.state x == 1) = false := by simp [hx]
    have d' : (L.state x != 1) = true := by simp [hx]
    generalize L.state x = s at *
    clear hx
    go_enter Try.func28, Try.ntmps28
    go_wp2_with (go_at_call 33; refine (get_yes h x hi).mono ?_; rintro e w1 ⟨rfl, rfl⟩)
    go_ret2
    exact ⟨rfl, rfl⟩
  | false =>
    clear hx
    go_enter Try.func28, Try.ntmps28
    go_wp2_with (go_at_call 33; refine (get_no h x hi).mono ?_; rintro e w1 ⟨rfl, rfl⟩)
    go_ret2
    exact ⟨rfl, rfl⟩

theorem zeroLog_size : (Try.zeroCells58).size = 806 := by kernel_rfl
theorem zeroLog_n : (Try.zeroCells58)[804]? = some (.int .i64 0) := by kernel_rfl
theorem zeroLog_clock : (Try.zeroCells58)[805]? = some (.int .i64 0) := by kernel_rfl

set_option maxRecDepth 100000 in
set_option maxHeartbeats 1000000 in
theorem logNew (w : World) : Calls Try.prog 7 #[] w fun e w' => e = .returned (.pointer (some ⟨w.heap.size, 0, none⟩)) ∧ LogAt w' w.heap.size LogM.empty ∧ Tur None' w w' := by
  go_enter Try.func7, Try.ntmps7
  go_wp2
  go_ret
  refine ⟨rfl, ?_, (Tur.refl _ _).alloc _⟩
  have hh : (w.alloc (Obj.cells Try.zeroCells58 58)).heap[w.heap.size]? = some (Obj.cells Try.zeroCells58 58) := (MapKept.heap_alloc w _).1
  refine ⟨⟨_, hh, zeroLog_size⟩, ?_, ?_, ?_, LogM.Ok.empty⟩
  · simp only [World.cell?, hh]; exact zeroLog_n
  · simp only [World.cell?, hh]; exact zeroLog_clock
  · intro i t ht; simp [LogM.empty] at ht

theorem LogAt.storeState {w : World} {b : Nat} {L : LogM} (h : LogAt w b L) (x : Int) (hx : L.state x = 1) :
    LogAt (w.setCell ⟨b, x.toNat * 4, none⟩ (.int .i64 3)) b (L.abort x) := by
  have hi : L.isTx x = true := LogM.state_isTx (by rw [hx]; omega)
  obtain ⟨c0, c1, c2, c3⟩ := h.tx hi
  have hi' := hi
  simp only [LogM.isTx, decide_eq_true_eq] at hi'
  have hn := h.ok.n
  refine h.store hi { L.one x with state := 3 } (L.abort x) ?_ ?_ (h.ok.abort x) (h.blk.setCell _ _) ?_ ?_ ?_ ?_ ?_
  · unfold LogM.abort; rw [if_pos hx]
  · unfold LogM.abort; rw [if_pos hx]
  · intro o ho; exact cell_setCell_ne (fun _ => by simp; omega)
  · exact cell_setCell_eq h.blk (by omega) _
  · rw [cell_setCell_ne (fun _ => by simp)]; exact c1
  · rw [cell_setCell_ne (fun _ => by simp)]; exact c2
  · rw [cell_setCell_ne (fun _ => by simp)]; exact c3

set_option maxHeartbeats 400000 in
theorem abort_any {b : Nat} {L : LogM} {w : World} (h : LogAt w b L) (x : Int) :
    Calls Try.prog 12 #[.pointer (some ⟨b, 0, none⟩), .int .i64 x] w fun e w' => e = .returned (.int .i64 (if L.state x = 1 then 0 else 76)) ∧ LogAt w' b (L.abort x) ∧ Tur (· = b) w w' := by
  by_cases hx : L.state x = 1
  · rw [if_pos hx]
    have hi : L.isTx x = true := LogM.state_isTx (by rw [hx]; omega)
    obtain ⟨c0, _, _, _⟩ := h.tx hi
    have f0 := h.blk.frozen (x.toNat * 4)
    have hfin := Lib.hid (h.storeState x hx)
    have hx' := Lib.hid hx
    clear hx
    go_enter Try.func12, Try.ntmps12
    go_wp2_with (go_at_call 28; refine (ends_yes h x hx'.out).mono ?_; rintro e w1 ⟨rfl, rfl⟩)
    go_ret
    exact ⟨rfl, hfin.out, (Tur.refl (· = b) _).setCell (p := ⟨b, _, none⟩) (fun _ => rfl) _⟩
  · rw [if_neg hx]
    have e1 : L.abort x = L := by unfold LogM.abort; rw [if_neg hx]
    rw [e1]; clear e1
    go_enter Try.func12, Try.ntmps12
    go_wp2_with (go_at_call 28; refine (ends_no h x hx).mono ?_; rintro e w1 ⟨rfl, rfl⟩)
    go_ret
    exact ⟨rfl, h, Tur.refl _ _⟩


theorem LogAt.drew {w : World} {b : Nat} {L : LogM} (h : LogAt w b L) : LogAt w.drew b L := h.tur (S := None') (Tur.refl _ _).drew (fun h => h)

theorem LogAt.storeBegin {w : World} {b : Nat} {L : LogM} (h : LogAt w b L) (r : Bool) (hlt : L.n < 200) :
    ∀ (w' : World), w' = (((((w.setCell ⟨b, 804, none⟩ (.int .i64 (L.n + 1))).setCell ⟨b, (L.n + 1) * 4, none⟩ (.int .i64 1)).setCell ⟨b, (L.n + 1) * 4 + 1, none⟩ (.int .i64 0)).setCell
      ⟨b, (L.n + 1) * 4 + 2, none⟩ (.int .i64 L.clock)).setCell ⟨b, (L.n + 1) * 4 + 3, none⟩ (.bool r)).drew → LogAt w' b (L.begin r) := by
  rintro w' rfl
  refine LogAt.drew ?_
  have eL : L.begin r = { txs := L.txs ++ [⟨1, 0, L.clock, r⟩], clock := L.clock } := by unfold LogM.begin; rw [if_neg (by omega)]
  have hok := h.ok.begin r
  rw [eL] at hok ⊢
  have b1 := h.blk.setCell ⟨b, 804, none⟩ (.int .i64 (L.n + 1))
  have b2 := b1.setCell ⟨b, (L.n + 1) * 4, none⟩ (.int .i64 1)
  have b3 := b2.setCell ⟨b, (L.n + 1) * 4 + 1, none⟩ (.int .i64 0)
  have b4 := b3.setCell ⟨b, (L.n + 1) * 4 + 2, none⟩ (.int .i64 L.clock)
  have b5 := b4.setCell ⟨b, (L.n + 1) * 4 + 3, none⟩ (.bool r)
  refine ⟨b5, ?_, ?_, ?_, hok⟩
  · rw [cell_setCell_ne (fun _ => by simp; omega), cell_setCell_ne (fun _ => by simp; omega), cell_setCell_ne (fun _ => by simp; omega), cell_setCell_ne (fun _ => by simp; omega), cell_setCell_eq h.blk (by omega)]
    simp [LogM.n]
  · rw [cell_setCell_ne (fun _ => by simp; omega), cell_setCell_ne (fun _ => by simp; omega), cell_setCell_ne (fun _ => by simp; omega), cell_setCell_ne (fun _ => by simp; omega), cell_setCell_ne (fun _ => by simp)]
    exact h.cc
  · intro i t ht
    simp only [List.getElem?_append] at ht
    by_cases e : i < L.txs.length
    · rw [if_pos e] at ht
      have := h.ct i t ht
      have hi : i < L.n := e
      refine ⟨?_, ?_, ?_, ?_⟩
      · repeat rw [cell_setCell_ne (fun _ => by simp; omega)]
        exact this.1
      · repeat rw [cell_setCell_ne (fun _ => by simp; omega)]
        exact this.2.1
      · repeat rw [cell_setCell_ne (fun _ => by simp; omega)]
        exact this.2.2.1
      · repeat rw [cell_setCell_ne (fun _ => by simp; omega)]
        exact this.2.2.2
    · rw [if_neg e] at ht
      have ei : i = L.n := by
        have := (List.getElem?_eq_some_iff.1 ht).1
        simp at this; unfold LogM.n; omega
      subst ei
      simp only [LogM.n, Nat.sub_self, List.getElem?_cons_zero, Option.some.injEq] at ht
      subst ht
      rw [show 4 * (L.n + 1) = (L.n + 1) * 4 from by omega]
      refine ⟨?_, ?_, ?_, ?_⟩
      · rw [cell_setCell_ne (fun _ => by simp), cell_setCell_ne (fun _ => by simp), cell_setCell_ne (fun _ => by simp)]; exact cell_setCell_eq b1 (by omega) _
      · rw [cell_setCell_ne (fun _ => by simp), cell_setCell_ne (fun _ => by simp)]; exact cell_setCell_eq b2 (by omega) _
      · rw [cell_setCell_ne (fun _ => by simp)]; exact cell_setCell_eq b3 (by omega) _
      · exact cell_setCell_eq b4 (by omega) _

set_option maxRecDepth 100000 in
set_option maxHeartbeats 1000000 in
theorem begin_any {b : Nat} {L : LogM} {w : World} (h : LogAt w b L) (r : Bool) :
    Calls Try.prog 9 #[.pointer (some ⟨b, 0, none⟩), .bool r] w fun e w' =>
      e = .returned (.tuple #[.int .i64 (if L.n = 200 then 0 else L.n + 1), .int .i64 (if L.n = 200 then 74 else 0)]) ∧ LogAt w' b (L.begin r) ∧ Tur (· = b) w w' := by
  have cn := h.cn
  have cc := h.cc
  have hn := h.ok.n
  by_cases hf : L.n = 200
  · rw [if_pos hf, if_pos hf]
    have e1 : L.begin r = L := by unfold LogM.begin; rw [if_pos hf]
    rw [e1]; clear e1
    rw [hf] at cn
    clear hf
    go_enter Try.func9, Try.ntmps9
    go_wp2
    go_ret2
    exact ⟨rfl, h, Tur.refl _ _⟩
  · rw [if_neg hf, if_neg hf]
    have d0 : ((L.n : Int) == 200) = false := by simp; omega
    have f0 := h.blk.frozen 804
    have f1 := h.blk.frozen ((L.n + 1) * 4)
    have f2 := h.blk.frozen ((L.n + 1) * 4 + 1)
    have f3 := h.blk.frozen ((L.n + 1) * 4 + 2)
    have f4 := h.blk.frozen ((L.n + 1) * 4 + 3)
    obtain ⟨v0, g0⟩ := h.blk.some (o := (L.n + 1) * 4) (by omega)
    obtain ⟨v1, g1⟩ := h.blk.some (o := (L.n + 1) * 4 + 1) (by omega)
    obtain ⟨v2, g2⟩ := h.blk.some (o := (L.n + 1) * 4 + 2) (by omega)
    obtain ⟨v3, g3⟩ := h.blk.some (o := (L.n + 1) * 4 + 3) (by omega)
    have hlt : L.n < 200 := by omega
    have hfin := Lib.hid (h.storeBegin r hlt)
    clear hf hn
    generalize hk : L.clock = k at *
    generalize hm : L.n = m at *
    have Hk := Lib.hid hk
    have Hm := Lib.hid hm
    clear hk hm
    go_enter Try.func9, Try.ntmps9
    go_wp2
    go_region
    go_wp2
    go_ret2
    refine ⟨rfl, hfin.out _ rfl, ?_⟩
    exact (((((((Tur.refl (· = b) _).setCell (p := ⟨b, _, none⟩) (fun _ => rfl) _).setCell (p := ⟨b, _, none⟩) (fun _ => rfl) _).setCell (p := ⟨b, _, none⟩) (fun _ => rfl) _).setCell (p := ⟨b, _, none⟩) (fun _ => rfl) _).setCell (p := ⟨b, _, none⟩) (fun _ => rfl) _).drew)

theorem LogAt.storeCommit {w : World} {b : Nat} {L : LogM} (h : LogAt w b L) (x : Int) (hx : L.state x = 1) :
    LogAt (((w.setCell ⟨b, 805, none⟩ (.int .i64 (L.clock + 1))).setCell ⟨b, x.toNat * 4, none⟩ (.int .i64 2)).setCell ⟨b, x.toNat * 4 + 1, none⟩ (.int .i64 (L.clock + 1))) b (L.commit x) := by
  have hi : L.isTx x = true := LogM.state_isTx (by rw [hx]; omega)
  obtain ⟨c0, c1, c2, c3⟩ := h.tx hi
  have hi' := hi
  simp only [LogM.isTx, decide_eq_true_eq] at hi'
  have hn := h.ok.n
  have eL : L.commit x = { txs := L.txs.set (x.toNat - 1) { L.one x with state := 2, csn := L.clock + 1 }, clock := L.clock + 1 } := by unfold LogM.commit; rw [if_pos hx]
  have hok := h.ok.commit x
  rw [eL] at hok ⊢
  have b1 := h.blk.setCell ⟨b, 805, none⟩ (.int .i64 (L.clock + 1))
  have b2 := b1.setCell ⟨b, x.toNat * 4, none⟩ (.int .i64 2)
  have b3 := b2.setCell ⟨b, x.toNat * 4 + 1, none⟩ (.int .i64 (L.clock + 1))
  refine ⟨b3, ?_, ?_, ?_, hok⟩
  · rw [cell_setCell_ne (fun _ => by simp; omega), cell_setCell_ne (fun _ => by simp; omega), cell_setCell_ne (fun _ => by simp)]; simpa [LogM.n] using h.cn
  · rw [cell_setCell_ne (fun _ => by simp; omega), cell_setCell_ne (fun _ => by simp; omega)]; exact cell_setCell_eq h.blk (by omega) _
  · intro i t ht
    have hlen : i < L.txs.length := by
      have := (List.getElem?_eq_some_iff.1 ht).1
      simpa using this
    unfold LogM.n at hn hi'
    simp only [List.getElem?_set] at ht
    by_cases e : x.toNat - 1 = i
    · rw [if_pos e, if_pos (by omega)] at ht
      cases ht
      have ei : 4 * (i + 1) = x.toNat * 4 := by omega
      rw [ei]
      refine ⟨?_, ?_, ?_, ?_⟩
      · rw [cell_setCell_ne (fun _ => by simp)]; exact cell_setCell_eq b1 (by omega) _
      · exact cell_setCell_eq b2 (by omega) _
      · rw [cell_setCell_ne (fun _ => by simp), cell_setCell_ne (fun _ => by simp), cell_setCell_ne (fun _ => by simp; omega)]; exact c2
      · rw [cell_setCell_ne (fun _ => by simp), cell_setCell_ne (fun _ => by simp), cell_setCell_ne (fun _ => by simp; omega)]; exact c3
    · rw [if_neg e] at ht
      have := h.ct i t ht
      refine ⟨?_, ?_, ?_, ?_⟩
      · rw [cell_setCell_ne (fun _ => by simp; omega), cell_setCell_ne (fun _ => by simp; omega), cell_setCell_ne (fun _ => by simp; omega)]; exact this.1
      · rw [cell_setCell_ne (fun _ => by simp; omega), cell_setCell_ne (fun _ => by simp; omega), cell_setCell_ne (fun _ => by simp; omega)]; exact this.2.1
      · rw [cell_setCell_ne (fun _ => by simp; omega), cell_setCell_ne (fun _ => by simp; omega), cell_setCell_ne (fun _ => by simp; omega)]; exact this.2.2.1
      · rw [cell_setCell_ne (fun _ => by simp; omega), cell_setCell_ne (fun _ => by simp; omega), cell_setCell_ne (fun _ => by simp; omega)]; exact this.2.2.2

set_option maxRecDepth 100000 in
set_option maxHeartbeats 1000000 in
theorem commit_any {b : Nat} {L : LogM} {w : World} (h : LogAt w b L) (x : Int) :
    Calls Try.prog 15 #[.pointer (some ⟨b, 0, none⟩), .int .i64 x] w fun e w' =>
      e = .returned (.tuple #[.int .i64 (if L.state x = 1 then L.clock + 1 else 0), .int .i64 (if L.state x = 1 then 0 else 76)]) ∧ LogAt w' b (L.commit x) ∧ Tur (· = b) w w' := by
  by_cases hx : L.state x = 1
  · rw [if_pos hx, if_pos hx]
    have hi : L.isTx x = true := LogM.state_isTx (by rw [hx]; omega)
    obtain ⟨c0, c1, _, _⟩ := h.tx hi
    have cc := h.cc
    have f0 := h.blk.frozen (x.toNat * 4)
    have f1 := h.blk.frozen (x.toNat * 4 + 1)
    have f2 := h.blk.frozen 805
    obtain ⟨k0, k1⟩ := h.ok.clock_le
    have hfin := Lib.hid (h.storeCommit x hx)
    have hx' := Lib.hid hx
    have hlt : x.toNat * 4 + 1 < 804 := by
      have hn := h.ok.n
      simp only [LogM.isTx, decide_eq_true_eq] at hi; omega
    clear hx
    generalize L.clock = k at *
    go_enter Try.func15, Try.ntmps15
    go_wp2_with (go_at_call 28; refine (ends_yes h x hx'.out).mono ?_; rintro e w1 ⟨rfl, rfl⟩)
    go_ret2
    exact ⟨rfl, hfin.out, (((Tur.refl (· = b) _).setCell (p := ⟨b, _, none⟩) (fun _ => rfl) _).setCell (p := ⟨b, _, none⟩) (fun _ => rfl) _).setCell (p := ⟨b, _, none⟩) (fun _ => rfl) _⟩
  · rw [if_neg hx, if_neg hx]
    have e1 : L.commit x = L := by unfold LogM.commit; rw [if_neg hx]
    rw [e1]; clear e1
    go_enter Try.func15, Try.ntmps15
    go_wp2_with (go_at_call 28; refine (ends_no h x hx).mono ?_; rintro e w1 ⟨rfl, rfl⟩)
    go_ret2
    exact ⟨rfl, h, Tur.refl _ _⟩

end Go.Proofs.Ytapkmgmcccgejaa
