/- How many other names there may be: the range over the map. -/
import Derived.Test.YtapkmgmcccgejaaOthers
namespace Go.Proofs.Ytapkmgmcccgejaa
open Go.RowKit Go.Shelf

/-- How many entries an iterator has yet to give: a measure. -/
def leftW {κ : Type} (r : Nat) (m : List (Ent κ)) (w : World) : Nat := match w.heap[r]? with
  | some (.mapIter _ _ seen _) => (leftE seen m).length
  | _ => 0

theorem leftW_eq {κ : Type} {r b ck : Nat} {seen : Array Nat} {m : List (Ent κ)} {w : World} (h : IterAt w r b ck seen) : leftW r m w = (leftE seen m).length := by
  unfold leftW; rw [h]

theorem filter_key_lt {κ : Type} [DecidableEq κ] {l : List (Ent κ)} {x : Ent κ} (hx : x ∈ l) : (l.filter (fun y => !decide (x.1 = y.1))).length < l.length := by
  have : (l.filter (fun y => !decide (x.1 = y.1))).length ≠ l.length := by
    intro e
    have := List.length_filter_eq_length_iff.1 e x hx
    simp at this
  have := List.length_filter_le (fun y => !decide (x.1 = y.1)) l
  omega

/-- Taking one out of what is left. -/
theorem count_left {κ : Type} [DecidableEq κ] {l : List (Ent κ)} (hn : (l.map (·.1)).Nodup) {x : Ent κ} (hx : x ∈ l) (q : Ent κ → Bool) :
    l.countP q = (if q x then 1 else 0) + (l.filter (fun y => !decide (x.1 = y.1))).countP q := by
  induction l with
  | nil => simp at hx
  | cons a l ih =>
    simp only [List.map_cons, List.nodup_cons] at hn
    rcases List.mem_cons.1 hx with rfl | hx
    · have : (x :: l).filter (fun y => !decide (x.1 = y.1)) = l := by
        rw [List.filter_cons_of_neg (by simp), List.filter_eq_self]
        intro z hz
        have : x.1 ≠ z.1 := fun e => hn.1 (by rw [e]; exact List.mem_map_of_mem hz)
        simp [this]
      rw [this, List.countP_cons]; omega
    · have : x.1 ≠ a.1 := fun e => hn.1 (by rw [← e]; exact List.mem_map_of_mem hx)
      rw [List.filter_cons_of_pos (by simp [this]), List.countP_cons, List.countP_cons, ih hn.2 hx]; omega

theorem leftE_nodup {κ : Type} {m : List (Ent κ)} (h : (m.map (·.1)).Nodup) (seen : Array Nat) : ((leftE seen m).map (·.1)).Nodup :=
  h.sublist (List.filter_sublist.map _)

def otherQ (N : NM) (L : LogM) (x : Int) (s k : ByteArray) : Bool := !(k.toList == s.toList) && (N.f k).any (Ver.counts L x)
def NM.others (N : NM) (L : LogM) (x : Int) (s : ByteArray) : Nat := N.keys.countP (otherQ N L x s)

set_option maxRecDepth 100000 in
set_option maxHeartbeats 2000000 in
theorem others_any {w : World} {lb nb B : Nat} {L : LogM} {N : NM} (hl : LogAt w lb L) (hn : NamesIn w nb B N) (x : Int) (s : ByteArray) (hlen : N.keys.length ≤ 100000) :
    Calls Try.prog 26 #[.pointer (some ⟨nb, 0, none⟩), .pointer (some ⟨lb, 0, none⟩), .int .i64 x, .string s] w
      fun e w' => e = .returned (.int .i64 (N.others L x s)) ∧ Tur None' w w' := by
  obtain ⟨mb, ck, m, hn⟩ := hn
  have hl' : ∀ w2, Tur None' w w2 → LogAt w2 lb L := fun w2 t => hl.tur t (fun h => h)
  have Hl := Lib.hid hl'
  have hN : ∀ w2, Tur None' w w2 → NamesAt w2 nb B N mb ck m := fun w2 t => hn.tur t (fun _ _ _ _ _ h => h)
  have HN := Lib.hid hN
  have htot : N.others L x s = m.countP (fun e => otherQ N L x s e.1) := by
    unfold NM.others; rw [← hn.keys, List.countP_map]; rfl
  have hml : m.length ≤ 100000 := by have := hn.keys; have e := congrArg List.length this; simp at e; omega
  have Hkeys := Lib.hid hn.map.keys
  have t2 : Tur None' w ((w.alloc (Obj.cells #[.pointer (some ⟨lb, 0, none⟩)] 22)).alloc (Obj.cells #[.int .i64 x] 3)) := ((Tur.refl _ _).alloc _).alloc _
  have hm2 := (hN _ t2).map
  have nc := (hN _ t2).cell
  rw [htot]
  have hto : m.countP (fun e => otherQ N L x s e.1) ≤ 100000 := Nat.le_trans List.countP_le_length hml
  generalize htt : m.countP (fun e => otherQ N L x s e.1) = tot at *
  have Htot := Lib.hid htt
  clear htt htot hl hl' hN hn
  have bx : ((w.alloc (Obj.cells #[.pointer (some ⟨lb, 0, none⟩)] 22)).alloc (Obj.cells #[.int .i64 x] 3)).cell? ⟨w.heap.size, 0, none⟩ = some (.pointer (some ⟨lb, 0, none⟩)) ∧ ((w.alloc (Obj.cells #[.pointer (some ⟨lb, 0, none⟩)] 22)).alloc (Obj.cells #[.int .i64 x] 3)).cell? ⟨w.heap.size + 1, 0, none⟩ = some (.int .i64 x) := ⟨by simp, by simp⟩
  have Bx := Lib.hid bx
  clear bx
  go_enter Try.func26, Try.ntmps26
  go_wp2_with (at_range; refine wpList_range_at rfl _ rfl Try.underlying59 rfl hm2 ?_; intro w0 hm0 hi0 t0 s0)
  go_frame
  have es : ((w.alloc (Obj.cells #[.pointer (some ⟨lb, 0, none⟩)] 22)).alloc (Obj.cells #[.int .i64 x] 3)).heap.size = w.heap.size + 1 + 1 := by simp
  rw [es] at hi0 ⊢
  have ht0 : Tur None' w w0 := t2.none_trans t0
  have H0 := Lib.hid (show MapAt w0 mb Value.string m ck ∧ IterAt w0 (w.heap.size + 1 + 1) mb ck #[] ∧ Tur None' w w0 ∧ w0.cell? ⟨w.heap.size, 0, none⟩ = some (.pointer (some ⟨lb, 0, none⟩)) ∧ w0.cell? ⟨w.heap.size + 1, 0, none⟩ = some (.int .i64 x) from ⟨hm0, hi0, ht0, t0.cell' Bx.out.1 (fun h => h), t0.cell' Bx.out.2 (fun h => h)⟩)
  clear hm0 hi0 t0 s0 es hm2 nc ht0
  go_loopw [9, 10, 11] (fun c _ _ wr => ∃ (k : Nat) (seen : Array Nat), c = .int .i64 k ∧ k + (leftE seen m).countP (fun e => otherQ N L x s e.1) = tot ∧ MapAt wr mb Value.string m ck ∧ IterAt wr (w.heap.size + 1 + 1) mb ck seen ∧ Tur None' w wr ∧ wr.cell? ⟨w.heap.size, 0, none⟩ = some (.pointer (some ⟨lb, 0, none⟩)) ∧ wr.cell? ⟨w.heap.size + 1, 0, none⟩ = some (.int .i64 x)) (fun _ _ _ wr => leftW (w.heap.size + 1 + 1) m wr)
  case atStart => exact ⟨0, #[], rfl, by rw [leftE_start, Htot.out]; simp, H0.out⟩
  case round =>
    obtain ⟨k, seen, rfl, hcnt, hm1, hi1, ht, hbl, hbx⟩ := hrel
    have Hcnt := Lib.hid hcnt
    have hkt : k ≤ 100000 := by omega
    clear hcnt
    go_wp2_with (at_next; refine wpList_next_at rfl _ rfl rfl hm1 hi1 ?_ ?_)
    · intro hnil
      rw [hnil] at Hcnt
      go_wp2
      go_ret
      exact ⟨ret_int (by have h := Hcnt.out; rw [List.countP_nil] at h; show ((k : Nat) : Int) = _; omega), ht⟩
    · intro kk vv nn w1 he hm3 hi3 t3 s3 hen
      have hmem : (kk, vv, nn) ∈ m := (List.mem_filter.1 he).1
      have htw : Tur None' w w1 := ht.trans t3 (fun j hj e => absurd hj (by have e : j = w.heap.size + 1 + 1 := e; omega))
      have hbl' := t3.cell' hbl (by show ¬ w.heap.size = w.heap.size + 1 + 1; omega)
      have hbx' := t3.cell' hbx (by show ¬ w.heap.size + 1 = w.heap.size + 1 + 1; omega)
      obtain ⟨_, cvs, hva⟩ := (HN.out _ htw).vers kk vv (look_of_mem hm3.keys hmem)
      obtain ⟨a, n, c, rfl⟩ : ∃ a n c, vv = .slice a n c := by
        rcases ownsRow_shape hva.own with ⟨rfl, _⟩ | ⟨g, cap, rfl, _⟩
        · exact ⟨_, _, _, rfl⟩
        · exact ⟨_, _, _, rfl⟩
      have hc1 := count_left (leftE_nodup Hkeys.out seen) he (fun e => otherQ N L x s e.1)
      have hc2 := leftE_push hm3 hmem seen
      have hc3 := filter_key_lt he
      rw [← hc2] at hc1 hc3
      have hw0 := leftW_eq hi1 (m := m)
      have hw1 := leftW_eq hi3 (m := m)
      have hq : otherQ N L x s kk = (!(kk.toList == s.toList) && (N.f kk).any (Ver.counts L x)) := rfl
      have HW := Lib.hid (And.intro hw0 hw1)
      have Hc3 := Lib.hid hc3
      have Hva := Lib.hid hva
      have Hm3 := Lib.hid hm3
      have Hi3 := Lib.hid hi3
      have Hbl := Lib.hid hbl'
      have Hbx := Lib.hid hbx'
      have Hcn := Lib.hid (And.intro Hcnt.out hc1)
      clear hc1 hc2 hc3 hw0 hw1 hva hm3 hi3 he hmem hbl hbx hbl' hbx' hm1 hi1 t3 s3 Hcnt
      cases hk : (kk.toList == s.toList)
      all_goals
        cases ha : (N.f kk).any (Ver.counts L x)
        all_goals
          have Hq := Lib.hid (show otherQ N L x s kk = _ from by rw [hq, hk, ha])
          have Ha := Lib.hid ha
          clear ha
          go_wp2_with (refine (containsVer2 Hva.out (Hl.out _ htw) x Hbl.out Hbx.out).mono ?_; rintro e w4 ⟨rfl, t4⟩; rw [Ha.out])
      · refine ⟨⟨k, seen.push nn, rfl, ?_, Hm3.out.tur t4 (fun h => h), Hi3.out.tur t4 (fun h => h), htw.none_trans t4, t4.cell' Hbl.out (fun h => h), t4.cell' Hbx.out (fun h => h)⟩, ?_⟩
        · have h := Hcn.out; rw [Hq.out] at h; simp at h; omega
        · rw [leftW_eq (Hi3.out.tur t4 (fun h => h)), HW.out.1]; exact Hc3.out
      · refine ⟨⟨k + 1, seen.push nn, by go_num, ?_, Hm3.out.tur t4 (fun h => h), Hi3.out.tur t4 (fun h => h), htw.none_trans t4, t4.cell' Hbl.out (fun h => h), t4.cell' Hbx.out (fun h => h)⟩, ?_⟩
        · have h := Hcn.out; rw [Hq.out] at h; simp at h; omega
        · rw [leftW_eq (Hi3.out.tur t4 (fun h => h)), HW.out.1]; exact Hc3.out
      · refine ⟨⟨k, seen.push nn, rfl, ?_, Hm3.out, Hi3.out, htw, Hbl.out, Hbx.out⟩, ?_⟩
        · have h := Hcn.out; rw [Hq.out] at h; simp at h; omega
        · rw [leftW_eq Hi3.out, HW.out.1]; exact Hc3.out
      · refine ⟨⟨k, seen.push nn, rfl, ?_, Hm3.out, Hi3.out, htw, Hbl.out, Hbx.out⟩, ?_⟩
        · have h := Hcn.out; rw [Hq.out] at h; simp at h; omega
        · rw [leftW_eq Hi3.out, HW.out.1]; exact Hc3.out

end Go.Proofs.Ytapkmgmcccgejaa
