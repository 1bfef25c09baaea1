/- NameOne: the walk. -/
import Derived.Test.YtapkmgmcccgejaaOne
namespace Go.Proofs.Ytapkmgmcccgejaa
open Go.RowKit Go.Shelf

theorem tabA_agg (s : ByteArray) (r : Int) (cv : Value) : (tabA s r).agg cv = .agg #[.string s, cv, .int .i64 r] := rfl

theorem ColsAt.form {w : World} {v : Value} {cols : List Col} {blk : Nat} (h : ColsAt w v cols blk) : ∃ a n c, v = .slice a n c := by
  obtain ⟨⟨a, cap, off, rfl, _⟩, _⟩ := h
  exact ⟨_, _, _, rfl⟩

theorem KindAt.alloc {w : World} {b n : Nat} (h : KindAt w b n) (o : Obj) : KindAt (w.alloc o) b n := by
  obtain ⟨x, h1, h2⟩ := h
  exact ⟨x, (((Tur.refl None' w).alloc o).block b (Array.getElem?_eq_some_iff.1 h1).1 (fun h => h)).trans h1, h2⟩

theorem TabsAt.form0 {w : World} {B : Nat} {v : Value} {cvs : List Value} (h : TabsAt w B v [] cvs) : ∃ a cap, v = .slice a 0 cap := by
  rcases ownsRow_shape h.own with ⟨rfl, h0⟩ | ⟨g, cap, rfl, _⟩
  · exact ⟨_, _, rfl⟩
  · exact ⟨_, _, rfl⟩

theorem TabsAt.first {w : World} {B : Nat} {v : Value} {t : Tab} {cvs : List Value} (h : TabsAt w B v [t] cvs) : ∃ g cap, v = .slice (some ⟨g, 0, none⟩) 1 cap ∧ w.cell? ⟨g, 0, none⟩ = some (.string t.name) := by
  have hl := h.len
  rcases ownsRow_shape h.own with ⟨rfl, h0⟩ | ⟨g, cap, rfl, _⟩
  · simp at h0
  · refine ⟨_, _, rfl, ownsRow_cell h.own rfl ?_⟩
    match cvs, hl with
    | [c], _ => rfl

/-- A block that is known whole. -/
def Box (w : World) (p : Nat) (o : Obj) : Prop := w.heap[p]? = some o
section
variable {w w' : World} {p B : Nat} {o : Obj}
theorem Box.start (w : World) (o : Obj) : Box (w.alloc o) w.heap.size o := (MapKept.heap_alloc w o).1
theorem Box.lt (h : Box w p o) : p < w.heap.size := (Array.getElem?_eq_some_iff.1 h).1
theorem Box.tur0 (h : Box w p o) (t : Tur None' w w') : Box w' p o := (t.block p h.lt (fun h => h)).trans h
theorem Box.alloc (h : Box w p o) (q : Obj) : Box (w.alloc q) p o := h.tur0 ((Tur.refl None' _).alloc q)
theorem Box.put (h : Box w p o) (hk : kindN o = 0) (t : Tur (PutS w B) w w') : Box w' p o := by
  refine (t.block p h.lt (fun e => ?_)).trans h
  have h0 : KindAt w p 0 := ⟨o, h, hk⟩
  rcases e.2 with e | e <;> have := h0.fn e <;> omega
theorem Box.cell {cs : Array Value} {t : TypeId} {fr : Nat × Nat} (h : Box w p (.cells cs t fr)) (j : Nat) : w.cell? ⟨p, j, none⟩ = cs[j]? := by
  simp only [World.cell?, show w.heap[p]? = _ from h]; rfl
end

theorem begin_x {b : Nat} {L : LogM} {w : World} (h : LogAt w b L) (r : Bool) :
    Calls Try.prog 9 #[.pointer (some ⟨b, 0, none⟩), .bool r] w fun e w' => (∃ z1 z2 : Int, e = .returned (.tuple #[.int .i64 z1, .int .i64 z2])) ∧ LogAt w' b (L.begin r) ∧ Tur (· = b) w w' :=
  (begin_any h r).mono fun _ _ ⟨e, h1, h2⟩ => ⟨⟨_, _, e⟩, h1, h2⟩
theorem commit_x {b : Nat} {L : LogM} {w : World} (h : LogAt w b L) (x : Int) :
    Calls Try.prog 15 #[.pointer (some ⟨b, 0, none⟩), .int .i64 x] w fun e w' => (∃ z1 z2 : Int, e = .returned (.tuple #[.int .i64 z1, .int .i64 z2])) ∧ LogAt w' b (L.commit x) ∧ Tur (· = b) w w' :=
  (commit_any h x).mono fun _ _ ⟨e, h1, h2⟩ => ⟨⟨_, _, e⟩, h1, h2⟩
theorem abort_x {b : Nat} {L : LogM} {w : World} (h : LogAt w b L) (x : Int) :
    Calls Try.prog 12 #[.pointer (some ⟨b, 0, none⟩), .int .i64 x] w fun e w' => (∃ z1 : Int, e = .returned (.int .i64 z1)) ∧ LogAt w' b (L.abort x) ∧ Tur (· = b) w w' :=
  (abort_any h x).mono fun _ _ ⟨e, h1, h2⟩ => ⟨⟨_, e⟩, h1, h2⟩

set_option maxRecDepth 100000 in
set_option maxHeartbeats 1500000 in
theorem oneWalk {w : World} {v : Value} {l : List Stp} (h : StepsAt w v l) :
    Calls Try.prog 4 #[v] w fun e w' => e = .returned (.bool true) ∧ Tur None' w w' := by
  have Hst := Lib.hid h
  obtain ⟨a, cap, rfl, hlen, hc⟩ := h.get
  unfold maxLen at hlen
  have Hc := Lib.hid hc
  clear hc h
  go_enter Try.func4, Try.ntmps4
  go_wp2_with (first | (go_at_call 7; go_must (refine (logNew _).mono ?_; rintro e w1 ⟨rfl, hl1, t1⟩)) | (go_at_call 8; go_must (refine (namesNew _).mono ?_; rintro e w2 ⟨rfl, hn2, t2⟩; have hs : St w w2 w.heap.size (w1.heap.size + 1) w1.heap.size LogM.empty NM.empty := ⟨hl1.tur t2 (fun h => h), hn2, t1.none_trans t2, Nat.le_refl _, t1.size⟩; clear hl1 hn2 t2)) | (go_at_call 14; go_must (refine (fair_any (Hst.out.tur0 hs.tur)).mono ?_; rintro e w3 ⟨⟨b, rfl, hb⟩, t3⟩; have hs' := hs.quiet t3; clear hs t3; have hs := hs'; clear hs'; have Hb := Lib.hid hb; clear hb)) | (go_at_call 13; go_must (refine (wakes_any _).mono ?_; rintro e w8 ⟨rfl, t8⟩)))
  · go_ret
    exact ⟨rfl, hs.tur.none_trans t8⟩
  have hbt : b = true := by cases b with | true => rfl | false => simp_all
  subst hbt
  simp only [Bool.not_true]
  have H120 := Lib.hid (show l.length ≤ 120 from Hb.out rfl)
  have HS0 := Lib.hid hs
  clear hs Hb Hst
  go_loopw [5, 6] (fun last i wr => ∃ (k : Nat) (q : Int) (L : LogM) (N : NM), k ≤ l.length ∧ i = .int .i64 k ∧ last = .int .i64 q ∧ St w wr w.heap.size (w1.heap.size + 1) w1.heap.size L N ∧ One N q ∧ N.Ok k) (fun _ i _ => l.length - (intOf i).toNat)
  case atStart => exact ⟨0, 0, _, _, Nat.zero_le _, rfl, rfl, HS0.out, One.empty, NM.Ok.empty⟩
  case round =>
    obtain ⟨k, q, L, N, hk, rfl, rfl, hs, hone, hok⟩ := hrel
    have Hone := Lib.hid hone
    clear hone
    by_cases hlt : k < l.length
    · obtain ⟨s, hss⟩ : ∃ s, l[k]? = some s := ⟨l[k], List.getElem?_eq_getElem hlt⟩
      obtain ⟨bb, o, a', n', c', blk, rfl, ⟨g0, g1, g2, g3, g4⟩, _, _, _⟩ := Hc.out wr k s hs.tur hss
      have Hk := Lib.hid (show k ≤ 100000 from by have := H120.out; omega)
      have Hk1 := Lib.hid (show k + 1 ≤ 100000 from by have := H120.out; omega)
      have Hok1 := Lib.hid (show N.Ok (k + 1) from ⟨by have := hok.keys; omega, fun s => by have := hok.len s; omega, hok.ver⟩)
      clear hss
      by_cases k0 : s.kind = 0
      · rw [k0] at g0
        go_wp2_with (first | (go_at_call 9; go_must (refine (begin_x (hs.quiet ((Tur.refl None' _).alloc _)).log false).mono ?_; rintro e w3 ⟨⟨z1, z2, rfl⟩, hl3, t3⟩; have hs' := (hs.quiet ((Tur.refl None' _).alloc _)).turn hl3 t3; clear hs hl3 t3; have hs := hs'; clear hs')) | fail)
        have HI := Lib.hid (And.intro Hone.out Hok1.out)
        go_loopw [9] (fun i wi => ∃ (j : Nat) (L : LogM) (N : NM), 1 ≤ j ∧ j ≤ 8 ∧ i = .int .i64 j ∧ St w wi w.heap.size (w1.heap.size + 1) w1.heap.size L N ∧ One N q ∧ N.Ok (k + 1)) (fun i _ => 8 - (intOf i).toNat)
        case atStart => exact ⟨1, _, _, by omega, by omega, rfl, hs, HI.out.1, HI.out.2⟩
        case round =>
          clear hs HI
          obtain ⟨j, L, N, hj1, hj, rfl, hs, hone, hok⟩ := hrel
          have Hone := Lib.hid hone
          clear hone
          by_cases hlt2 : j < 8
          · rcases Hone.out.all L j with hall | ⟨tt, hall, hnm⟩
            · go_wp2_with (first | (go_at_call 18; go_must (refine (all_one hs.log hs.nam j hok Hk1.out (Hone.out.all_len L j)).mono ?_; rintro e w9 ⟨v9, cvs, rfl, hta, t9⟩; rw [hall] at hta; have hs' := hs.quiet t9; clear hs t9; have hs := hs'; clear hs'; obtain ⟨g9, cap9, rfl⟩ := hta.form0; clear hta)) | fail)
              exact ⟨⟨j + 1, _, _, by omega, by omega, by go_num, hs, Hone.out, hok⟩, by simp [intOf]; omega⟩
            · go_wp2_with (first | (go_at_call 18; go_must (refine (all_one hs.log hs.nam j hok Hk1.out (Hone.out.all_len L j)).mono ?_; rintro e w9 ⟨v9, cvs, rfl, hta, t9⟩; rw [hall] at hta; have hs' := hs.quiet t9; clear hs t9; have hs := hs'; clear hs'; obtain ⟨g9, cap9, rfl, hcell⟩ := hta.first; rw [hnm] at hcell; clear hta)) | fail)
              exact ⟨⟨j + 1, _, _, by omega, by omega, by go_num, hs, Hone.out, hok⟩, by simp [intOf]; omega⟩
          · go_wp2
            exact ⟨⟨k + 1, q, L, N, by omega, by go_num, rfl, hs, Hone.out, hok⟩, by simp [intOf]; omega⟩
      by_cases k1 : s.kind = 1
      · rw [k1] at g0
        go_wp2_with (first | (go_at_call 15; go_must (refine (commit_x (hs.quiet ((Tur.refl None' _).alloc _)).log s.xid).mono ?_; rintro e w3 ⟨⟨z1, z2, rfl⟩, hl3, t3⟩; have hs' := (hs.quiet ((Tur.refl None' _).alloc _)).turn hl3 t3; clear hs hl3 t3; have hs := hs'; clear hs')) | fail)
        have HI := Lib.hid (And.intro Hone.out Hok1.out)
        go_loopw [9] (fun i wi => ∃ (j : Nat) (L : LogM) (N : NM), 1 ≤ j ∧ j ≤ 8 ∧ i = .int .i64 j ∧ St w wi w.heap.size (w1.heap.size + 1) w1.heap.size L N ∧ One N q ∧ N.Ok (k + 1)) (fun i _ => 8 - (intOf i).toNat)
        case atStart => exact ⟨1, _, _, by omega, by omega, rfl, hs, HI.out.1, HI.out.2⟩
        case round =>
          clear hs HI
          obtain ⟨j, L, N, hj1, hj, rfl, hs, hone, hok⟩ := hrel
          have Hone := Lib.hid hone
          clear hone
          by_cases hlt2 : j < 8
          · rcases Hone.out.all L j with hall | ⟨tt, hall, hnm⟩
            · go_wp2_with (first | (go_at_call 18; go_must (refine (all_one hs.log hs.nam j hok Hk1.out (Hone.out.all_len L j)).mono ?_; rintro e w9 ⟨v9, cvs, rfl, hta, t9⟩; rw [hall] at hta; have hs' := hs.quiet t9; clear hs t9; have hs := hs'; clear hs'; obtain ⟨g9, cap9, rfl⟩ := hta.form0; clear hta)) | fail)
              exact ⟨⟨j + 1, _, _, by omega, by omega, by go_num, hs, Hone.out, hok⟩, by simp [intOf]; omega⟩
            · go_wp2_with (first | (go_at_call 18; go_must (refine (all_one hs.log hs.nam j hok Hk1.out (Hone.out.all_len L j)).mono ?_; rintro e w9 ⟨v9, cvs, rfl, hta, t9⟩; rw [hall] at hta; have hs' := hs.quiet t9; clear hs t9; have hs := hs'; clear hs'; obtain ⟨g9, cap9, rfl, hcell⟩ := hta.first; rw [hnm] at hcell; clear hta)) | fail)
              exact ⟨⟨j + 1, _, _, by omega, by omega, by go_num, hs, Hone.out, hok⟩, by simp [intOf]; omega⟩
          · go_wp2
            exact ⟨⟨k + 1, q, L, N, by omega, by go_num, rfl, hs, Hone.out, hok⟩, by simp [intOf]; omega⟩
      by_cases k2 : s.kind = 2
      · rw [k2] at g0
        go_wp2_with (first | (go_at_call 12; go_must (refine (abort_x (hs.quiet ((Tur.refl None' _).alloc _)).log s.xid).mono ?_; rintro e w3 ⟨⟨z1, rfl⟩, hl3, t3⟩; have hs' := (hs.quiet ((Tur.refl None' _).alloc _)).turn hl3 t3; clear hs hl3 t3; have hs := hs'; clear hs')) | fail)
        have HI := Lib.hid (And.intro Hone.out Hok1.out)
        go_loopw [9] (fun i wi => ∃ (j : Nat) (L : LogM) (N : NM), 1 ≤ j ∧ j ≤ 8 ∧ i = .int .i64 j ∧ St w wi w.heap.size (w1.heap.size + 1) w1.heap.size L N ∧ One N q ∧ N.Ok (k + 1)) (fun i _ => 8 - (intOf i).toNat)
        case atStart => exact ⟨1, _, _, by omega, by omega, rfl, hs, HI.out.1, HI.out.2⟩
        case round =>
          clear hs HI
          obtain ⟨j, L, N, hj1, hj, rfl, hs, hone, hok⟩ := hrel
          have Hone := Lib.hid hone
          clear hone
          by_cases hlt2 : j < 8
          · rcases Hone.out.all L j with hall | ⟨tt, hall, hnm⟩
            · go_wp2_with (first | (go_at_call 18; go_must (refine (all_one hs.log hs.nam j hok Hk1.out (Hone.out.all_len L j)).mono ?_; rintro e w9 ⟨v9, cvs, rfl, hta, t9⟩; rw [hall] at hta; have hs' := hs.quiet t9; clear hs t9; have hs := hs'; clear hs'; obtain ⟨g9, cap9, rfl⟩ := hta.form0; clear hta)) | fail)
              exact ⟨⟨j + 1, _, _, by omega, by omega, by go_num, hs, Hone.out, hok⟩, by simp [intOf]; omega⟩
            · go_wp2_with (first | (go_at_call 18; go_must (refine (all_one hs.log hs.nam j hok Hk1.out (Hone.out.all_len L j)).mono ?_; rintro e w9 ⟨v9, cvs, rfl, hta, t9⟩; rw [hall] at hta; have hs' := hs.quiet t9; clear hs t9; have hs := hs'; clear hs'; obtain ⟨g9, cap9, rfl, hcell⟩ := hta.first; rw [hnm] at hcell; clear hta)) | fail)
              exact ⟨⟨j + 1, _, _, by omega, by omega, by go_num, hs, Hone.out, hok⟩, by simp [intOf]; omega⟩
          · go_wp2
            exact ⟨⟨k + 1, q, L, N, by omega, by go_num, rfl, hs, Hone.out, hok⟩, by simp [intOf]; omega⟩
      have HB := Lib.hid (Box.start wr (Obj.cells #[.int .i64 s.kind, .int .i64 s.xid, .string s.t.name, .slice a' n' c', .int .i64 s.t.rel] 41))
      obtain ⟨r, hr⟩ : ∃ r : Int, Int.tmod (k : Int) 100 = r := ⟨_, rfl⟩
      have Hokp := Lib.hid (hok.put (L := L) hs.log.ok s.xid (tabA sT (wrap64 (1 + r))))
      rcases Hone.out.put L s.xid (wrap64 (1 + r)) with ⟨hne, hone'⟩ | ⟨he0, hone', hlast⟩
      · obtain ⟨e0, he0⟩ : ∃ e0, (N.put L s.xid (tabA sT (wrap64 (1 + r)))).2 = e0 := ⟨_, rfl⟩
        rw [he0] at hne
        have hb0 : (e0 == 0) = false := by simpa using hne
        clear hne
        have Hone' := Lib.hid hone'
        clear hone'
        go_wp2_with (first | (go_at_call 11; go_must (refine (tab_any _ _ _).mono ?_; rintro e w4 ⟨cv, blk, rfl, hc, hk4, t4⟩; obtain ⟨ca, cn, cc, rfl⟩ := hc.form; rw [tabA_agg]; have hs' := (hs.quiet ((Tur.refl None' _).alloc _)).quiet t4; clear hs; have hs := hs'; clear hs'; have hb4 := HB.out.tur0 t4; have HB4 := Lib.hid hb4; have x1 : ∀ q, (w4.alloc q).cell? ⟨wr.heap.size, 1, none⟩ = some (.int .i64 s.xid) := fun q => (hb4.alloc q).cell 1; clear hb4 t4)) | (go_at_call 10; go_must (refine (put_any (hs.quiet ((Tur.refl None' _).alloc _)).log (hs.quiet ((Tur.refl None' _).alloc _)).nam hok Hk.out s.xid (tabA sT (wrap64 (1 + r))) (hc.tur ((Tur.refl None' _).alloc _) (fun _ h => h)) (show sT.size ≤ maxLen by decide) (fun e => by have := (hk4.alloc _).fn e.2; omega)).mono ?_; rintro e w5 ⟨rfl, hn5, hl5, t5⟩; rw [he0]; have hs' := (hs.quiet ((Tur.refl None' _).alloc _)).put hn5 hl5 t5; clear hs hn5 hl5 hc hk4 x1; have hs := hs'; clear hs'; have hb5 := (HB4.out.alloc _).put rfl t5; have HB5 := Lib.hid hb5; have x5 : w5.cell? ⟨wr.heap.size, 1, none⟩ = some (.int .i64 s.xid) := hb5.cell 1; clear hb5 t5)) | fail)
        have HI := Lib.hid (And.intro Hone'.out Hokp.out)
        go_loopw [9] (fun i wi => ∃ (j : Nat) (L : LogM) (N : NM), 1 ≤ j ∧ j ≤ 8 ∧ i = .int .i64 j ∧ St w wi w.heap.size (w1.heap.size + 1) w1.heap.size L N ∧ One N q ∧ N.Ok (k + 1)) (fun i _ => 8 - (intOf i).toNat)
        case atStart => exact ⟨1, _, _, by omega, by omega, rfl, hs, HI.out.1, HI.out.2⟩
        case round =>
          clear hs HI
          obtain ⟨j, L, N, hj1, hj, rfl, hs, hone, hok⟩ := hrel
          have Hone := Lib.hid hone
          clear hone
          by_cases hlt2 : j < 8
          · rcases Hone.out.all L j with hall | ⟨tt, hall, hnm⟩
            · go_wp2_with (first | (go_at_call 18; go_must (refine (all_one hs.log hs.nam j hok Hk1.out (Hone.out.all_len L j)).mono ?_; rintro e w9 ⟨v9, cvs, rfl, hta, t9⟩; rw [hall] at hta; have hs' := hs.quiet t9; clear hs t9; have hs := hs'; clear hs'; obtain ⟨g9, cap9, rfl⟩ := hta.form0; clear hta)) | fail)
              exact ⟨⟨j + 1, _, _, by omega, by omega, by go_num, hs, Hone.out, hok⟩, by simp [intOf]; omega⟩
            · go_wp2_with (first | (go_at_call 18; go_must (refine (all_one hs.log hs.nam j hok Hk1.out (Hone.out.all_len L j)).mono ?_; rintro e w9 ⟨v9, cvs, rfl, hta, t9⟩; rw [hall] at hta; have hs' := hs.quiet t9; clear hs t9; have hs := hs'; clear hs'; obtain ⟨g9, cap9, rfl, hcell⟩ := hta.first; rw [hnm] at hcell; clear hta)) | fail)
              exact ⟨⟨j + 1, _, _, by omega, by omega, by go_num, hs, Hone.out, hok⟩, by simp [intOf]; omega⟩
          · go_wp2
            exact ⟨⟨k + 1, q, L, N, by omega, by go_num, rfl, hs, Hone.out, hok⟩, by simp [intOf]; omega⟩
      · have Hone' := Lib.hid hone'
        clear hone'
        by_cases q0 : q = 0
        · subst q0
          clear hlast
          go_wp2_with (first | (go_at_call 11; go_must (refine (tab_any _ _ _).mono ?_; rintro e w4 ⟨cv, blk, rfl, hc, hk4, t4⟩; obtain ⟨ca, cn, cc, rfl⟩ := hc.form; rw [tabA_agg]; have hs' := (hs.quiet ((Tur.refl None' _).alloc _)).quiet t4; clear hs; have hs := hs'; clear hs'; have hb4 := HB.out.tur0 t4; have HB4 := Lib.hid hb4; have x1 : ∀ q, (w4.alloc q).cell? ⟨wr.heap.size, 1, none⟩ = some (.int .i64 s.xid) := fun q => (hb4.alloc q).cell 1; clear hb4 t4)) | (go_at_call 10; go_must (refine (put_any (hs.quiet ((Tur.refl None' _).alloc _)).log (hs.quiet ((Tur.refl None' _).alloc _)).nam hok Hk.out s.xid (tabA sT (wrap64 (1 + r))) (hc.tur ((Tur.refl None' _).alloc _) (fun _ h => h)) (show sT.size ≤ maxLen by decide) (fun e => by have := (hk4.alloc _).fn e.2; omega)).mono ?_; rintro e w5 ⟨rfl, hn5, hl5, t5⟩; rw [he0]; have hs' := (hs.quiet ((Tur.refl None' _).alloc _)).put hn5 hl5 t5; clear hs hn5 hl5 hc hk4 x1; have hs := hs'; clear hs'; have hb5 := (HB4.out.alloc _).put rfl t5; have HB5 := Lib.hid hb5; have x5 : w5.cell? ⟨wr.heap.size, 1, none⟩ = some (.int .i64 s.xid) := hb5.cell 1; clear hb5 t5)) | fail)
          have HI := Lib.hid (And.intro Hone'.out Hokp.out)
          go_loopw [9] (fun i wi => ∃ (j : Nat) (L : LogM) (N : NM), 1 ≤ j ∧ j ≤ 8 ∧ i = .int .i64 j ∧ St w wi w.heap.size (w1.heap.size + 1) w1.heap.size L N ∧ One N s.xid ∧ N.Ok (k + 1)) (fun i _ => 8 - (intOf i).toNat)
          case atStart => exact ⟨1, _, _, by omega, by omega, rfl, hs, HI.out.1, HI.out.2⟩
          case round =>
            clear hs HI
            obtain ⟨j, L, N, hj1, hj, rfl, hs, hone, hok⟩ := hrel
            have Hone := Lib.hid hone
            clear hone
            by_cases hlt2 : j < 8
            · rcases Hone.out.all L j with hall | ⟨tt, hall, hnm⟩
              · go_wp2_with (first | (go_at_call 18; go_must (refine (all_one hs.log hs.nam j hok Hk1.out (Hone.out.all_len L j)).mono ?_; rintro e w9 ⟨v9, cvs, rfl, hta, t9⟩; rw [hall] at hta; have hs' := hs.quiet t9; clear hs t9; have hs := hs'; clear hs'; obtain ⟨g9, cap9, rfl⟩ := hta.form0; clear hta)) | fail)
                exact ⟨⟨j + 1, _, _, by omega, by omega, by go_num, hs, Hone.out, hok⟩, by simp [intOf]; omega⟩
              · go_wp2_with (first | (go_at_call 18; go_must (refine (all_one hs.log hs.nam j hok Hk1.out (Hone.out.all_len L j)).mono ?_; rintro e w9 ⟨v9, cvs, rfl, hta, t9⟩; rw [hall] at hta; have hs' := hs.quiet t9; clear hs t9; have hs := hs'; clear hs'; obtain ⟨g9, cap9, rfl, hcell⟩ := hta.first; rw [hnm] at hcell; clear hta)) | fail)
                exact ⟨⟨j + 1, _, _, by omega, by omega, by go_num, hs, Hone.out, hok⟩, by simp [intOf]; omega⟩
            · go_wp2
              exact ⟨⟨k + 1, s.xid, L, N, by omega, by go_num, rfl, hs, Hone.out, hok⟩, by simp [intOf]; omega⟩
        · by_cases h3 : L.state q = 3
          · clear hlast
            go_wp2_with (first | (go_at_call 11; go_must (refine (tab_any _ _ _).mono ?_; rintro e w4 ⟨cv, blk, rfl, hc, hk4, t4⟩; obtain ⟨ca, cn, cc, rfl⟩ := hc.form; rw [tabA_agg]; have hs' := (hs.quiet ((Tur.refl None' _).alloc _)).quiet t4; clear hs; have hs := hs'; clear hs'; have hb4 := HB.out.tur0 t4; have HB4 := Lib.hid hb4; have x1 : ∀ q, (w4.alloc q).cell? ⟨wr.heap.size, 1, none⟩ = some (.int .i64 s.xid) := fun q => (hb4.alloc q).cell 1; clear hb4 t4)) | (go_at_call 10; go_must (refine (put_any (hs.quiet ((Tur.refl None' _).alloc _)).log (hs.quiet ((Tur.refl None' _).alloc _)).nam hok Hk.out s.xid (tabA sT (wrap64 (1 + r))) (hc.tur ((Tur.refl None' _).alloc _) (fun _ h => h)) (show sT.size ≤ maxLen by decide) (fun e => by have := (hk4.alloc _).fn e.2; omega)).mono ?_; rintro e w5 ⟨rfl, hn5, hl5, t5⟩; rw [he0]; have hs' := (hs.quiet ((Tur.refl None' _).alloc _)).put hn5 hl5 t5; clear hs hn5 hl5 hc hk4 x1; have hs := hs'; clear hs'; have hb5 := (HB4.out.alloc _).put rfl t5; have HB5 := Lib.hid hb5; have x5 : w5.cell? ⟨wr.heap.size, 1, none⟩ = some (.int .i64 s.xid) := hb5.cell 1; clear hb5 t5)) | (go_at_call 16; go_must (refine (state_any hs.log q).mono ?_; rintro e w6 ⟨rfl, t6⟩; rw [h3]; have hs' := hs.quiet t6; clear hs; have hs := hs'; clear hs'; have x6 : w6.cell? ⟨wr.heap.size, 1, none⟩ = some (.int .i64 s.xid) := (HB5.out.tur0 t6).cell 1; have HB6 := Lib.hid (HB5.out.tur0 t6); clear t6)) | fail)
            have HI := Lib.hid (And.intro Hone'.out Hokp.out)
            go_loopw [9] (fun i wi => ∃ (j : Nat) (L : LogM) (N : NM), 1 ≤ j ∧ j ≤ 8 ∧ i = .int .i64 j ∧ St w wi w.heap.size (w1.heap.size + 1) w1.heap.size L N ∧ One N s.xid ∧ N.Ok (k + 1)) (fun i _ => 8 - (intOf i).toNat)
            case atStart => exact ⟨1, _, _, by omega, by omega, rfl, hs, HI.out.1, HI.out.2⟩
            case round =>
              clear hs HI
              obtain ⟨j, L, N, hj1, hj, rfl, hs, hone, hok⟩ := hrel
              have Hone := Lib.hid hone
              clear hone
              by_cases hlt2 : j < 8
              · rcases Hone.out.all L j with hall | ⟨tt, hall, hnm⟩
                · go_wp2_with (first | (go_at_call 18; go_must (refine (all_one hs.log hs.nam j hok Hk1.out (Hone.out.all_len L j)).mono ?_; rintro e w9 ⟨v9, cvs, rfl, hta, t9⟩; rw [hall] at hta; have hs' := hs.quiet t9; clear hs t9; have hs := hs'; clear hs'; obtain ⟨g9, cap9, rfl⟩ := hta.form0; clear hta)) | fail)
                  exact ⟨⟨j + 1, _, _, by omega, by omega, by go_num, hs, Hone.out, hok⟩, by simp [intOf]; omega⟩
                · go_wp2_with (first | (go_at_call 18; go_must (refine (all_one hs.log hs.nam j hok Hk1.out (Hone.out.all_len L j)).mono ?_; rintro e w9 ⟨v9, cvs, rfl, hta, t9⟩; rw [hall] at hta; have hs' := hs.quiet t9; clear hs t9; have hs := hs'; clear hs'; obtain ⟨g9, cap9, rfl, hcell⟩ := hta.first; rw [hnm] at hcell; clear hta)) | fail)
                  exact ⟨⟨j + 1, _, _, by omega, by omega, by go_num, hs, Hone.out, hok⟩, by simp [intOf]; omega⟩
              · go_wp2
                exact ⟨⟨k + 1, s.xid, L, N, by omega, by go_num, rfl, hs, Hone.out, hok⟩, by simp [intOf]; omega⟩
          · have hsee : L.sees s.xid q = true := by
              rcases hlast with h | h | h
              · exact absurd h q0
              · exact absurd h h3
              · exact h
            clear hlast
            go_wp2_with (first | (go_at_call 11; go_must (refine (tab_any _ _ _).mono ?_; rintro e w4 ⟨cv, blk, rfl, hc, hk4, t4⟩; obtain ⟨ca, cn, cc, rfl⟩ := hc.form; rw [tabA_agg]; have hs' := (hs.quiet ((Tur.refl None' _).alloc _)).quiet t4; clear hs; have hs := hs'; clear hs'; have hb4 := HB.out.tur0 t4; have HB4 := Lib.hid hb4; have x1 : ∀ q, (w4.alloc q).cell? ⟨wr.heap.size, 1, none⟩ = some (.int .i64 s.xid) := fun q => (hb4.alloc q).cell 1; clear hb4 t4)) | (go_at_call 10; go_must (refine (put_any (hs.quiet ((Tur.refl None' _).alloc _)).log (hs.quiet ((Tur.refl None' _).alloc _)).nam hok Hk.out s.xid (tabA sT (wrap64 (1 + r))) (hc.tur ((Tur.refl None' _).alloc _) (fun _ h => h)) (show sT.size ≤ maxLen by decide) (fun e => by have := (hk4.alloc _).fn e.2; omega)).mono ?_; rintro e w5 ⟨rfl, hn5, hl5, t5⟩; rw [he0]; have hs' := (hs.quiet ((Tur.refl None' _).alloc _)).put hn5 hl5 t5; clear hs hn5 hl5 hc hk4 x1; have hs := hs'; clear hs'; have hb5 := (HB4.out.alloc _).put rfl t5; have HB5 := Lib.hid hb5; have x5 : w5.cell? ⟨wr.heap.size, 1, none⟩ = some (.int .i64 s.xid) := hb5.cell 1; clear hb5 t5)) | (go_at_call 16; go_must (refine (state_any hs.log q).mono ?_; rintro e w6 ⟨rfl, t6⟩; have hs' := hs.quiet t6; clear hs; have hs := hs'; clear hs'; have x6 : w6.cell? ⟨wr.heap.size, 1, none⟩ = some (.int .i64 s.xid) := (HB5.out.tur0 t6).cell 1; have HB6 := Lib.hid (HB5.out.tur0 t6); clear t6)) | (go_at_call 17; go_must (refine (sees_any hs.log s.xid q).mono ?_; rintro e w7 ⟨rfl, t7⟩; rw [hsee]; have hs' := hs.quiet t7; clear hs; have hs := hs'; clear hs'; have x7 : w7.cell? ⟨wr.heap.size, 1, none⟩ = some (.int .i64 s.xid) := (HB6.out.tur0 t7).cell 1; clear t7)) | fail)
            have HI := Lib.hid (And.intro Hone'.out Hokp.out)
            go_loopw [9] (fun i wi => ∃ (j : Nat) (L : LogM) (N : NM), 1 ≤ j ∧ j ≤ 8 ∧ i = .int .i64 j ∧ St w wi w.heap.size (w1.heap.size + 1) w1.heap.size L N ∧ One N s.xid ∧ N.Ok (k + 1)) (fun i _ => 8 - (intOf i).toNat)
            case atStart => exact ⟨1, _, _, by omega, by omega, rfl, hs, HI.out.1, HI.out.2⟩
            case round =>
              clear hs HI
              obtain ⟨j, L, N, hj1, hj, rfl, hs, hone, hok⟩ := hrel
              have Hone := Lib.hid hone
              clear hone
              by_cases hlt2 : j < 8
              · rcases Hone.out.all L j with hall | ⟨tt, hall, hnm⟩
                · go_wp2_with (first | (go_at_call 18; go_must (refine (all_one hs.log hs.nam j hok Hk1.out (Hone.out.all_len L j)).mono ?_; rintro e w9 ⟨v9, cvs, rfl, hta, t9⟩; rw [hall] at hta; have hs' := hs.quiet t9; clear hs t9; have hs := hs'; clear hs'; obtain ⟨g9, cap9, rfl⟩ := hta.form0; clear hta)) | fail)
                  exact ⟨⟨j + 1, _, _, by omega, by omega, by go_num, hs, Hone.out, hok⟩, by simp [intOf]; omega⟩
                · go_wp2_with (first | (go_at_call 18; go_must (refine (all_one hs.log hs.nam j hok Hk1.out (Hone.out.all_len L j)).mono ?_; rintro e w9 ⟨v9, cvs, rfl, hta, t9⟩; rw [hall] at hta; have hs' := hs.quiet t9; clear hs t9; have hs := hs'; clear hs'; obtain ⟨g9, cap9, rfl, hcell⟩ := hta.first; rw [hnm] at hcell; clear hta)) | fail)
                  exact ⟨⟨j + 1, _, _, by omega, by omega, by go_num, hs, Hone.out, hok⟩, by simp [intOf]; omega⟩
              · go_wp2
                exact ⟨⟨k + 1, s.xid, L, N, by omega, by go_num, rfl, hs, Hone.out, hok⟩, by simp [intOf]; omega⟩
    · go_wp2_with (first | (go_at_call 13; go_must (refine (wakes_any _).mono ?_; rintro e w8 ⟨rfl, t8⟩)) | fail)
      go_ret
      exact ⟨rfl, hs.tur.none_trans t8⟩

end Go.Proofs.Ytapkmgmcccgejaa
