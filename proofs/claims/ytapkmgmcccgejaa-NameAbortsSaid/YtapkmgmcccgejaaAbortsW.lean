/- NameAborts: the walk. -/
import Derived.Test.YtapkmgmcccgejaaAborts
import Derived.Test.YtapkmgmcccgejaaSaw
namespace Go.Proofs.Ytapkmgmcccgejaa
open Go.RowKit Go.Shelf

theorem ints_nil {w : World} {B : Nat} {v : Value} (h : w.ownsRow B 3 1 v ([] : List Int).length (([] : List Int).map (Value.int .i64))) : ∃ a c, v = .slice a 0 c := by
  rcases ownsRow_shape h with ⟨rfl, _⟩ | ⟨g, cap, rfl, _⟩
  · exact ⟨_, _, rfl⟩
  · exact ⟨_, _, rfl⟩

theorem madeTabs {w : World} {a1 a2 : Option Addr} {n1 n2 c1 c2 b1 b2 : Nat} (h1 : ColsAt w (.slice a1 n1 c1) [colA] b1) (h2 : ColsAt w (.slice a2 n2 c2) [colA] b2) :
    TabsR (w.alloc (Obj.cells #[.string sT, .slice a1 n1 c1, .int .i64 1, .string sU, .slice a2 n2 c2, .int .i64 2] 32)) (.slice (some ⟨w.heap.size, 0, none⟩) 2 2) [tT, tU] := by
  have hh := (MapKept.heap_alloc w (Obj.cells #[.string sT, .slice a1 n1 c1, .int .i64 1, .string sU, .slice a2 n2 c2, .int .i64 2] 32)).1
  refine ⟨⟨_, 2, rfl, fun i t hi => ?_⟩, by decide⟩
  match i, hi with
  | 0, hi =>
    simp only [List.getElem?_cons_zero, Option.some.injEq] at hi
    subst hi
    exact ⟨_, _, a1, n1, c1, b1, rfl, by simp only [World.cell?, hh]; rfl, by simp only [World.cell?, hh]; rfl, by simp only [World.cell?, hh]; rfl, h1.tur ((Tur.refl None' _).alloc _) (fun _ h => h)⟩
  | 1, hi =>
    simp only [List.getElem?_cons_succ, List.getElem?_cons_zero, Option.some.injEq] at hi
    subst hi
    exact ⟨_, _, a2, n2, c2, b2, rfl, by simp only [World.cell?, hh]; rfl, by simp only [World.cell?, hh]; rfl, by simp only [World.cell?, hh]; rfl, h2.tur ((Tur.refl None' _).alloc _) (fun _ h => h)⟩
  | i + 2, hi => simp at hi

set_option maxRecDepth 100000 in
set_option maxHeartbeats 3000000 in
theorem abortsWalk {w : World} {v : Value} {l : List Stp} (h : StepsAt w v l) :
    Calls Try.prog 6 #[v] w fun e w' => e = .returned (.bool true) ∧ Tur None' w w' := by
  have Hst := Lib.hid h
  obtain ⟨a, cap, rfl, hlen, hc⟩ := h.get
  unfold maxLen at hlen
  have Hc := Lib.hid hc
  have P1 := Lib.hid trivial
  have P2 := Lib.hid trivial
  clear hc h
  go_enter Try.func6, Try.ntmps6
  go_wp2_with (first | (go_at_call 7; go_must (refine (logNew _).mono ?_; rintro e w1 ⟨rfl, hl1, t1⟩)) | (go_at_call 8; go_must (refine (namesNew _).mono ?_; rintro e w2 ⟨rfl, hn2, t2⟩; have hs : St w w2 w.heap.size (w1.heap.size + 1) w1.heap.size LogM.empty NM.empty := ⟨hl1.tur t2 (fun h => h), hn2, t1.none_trans t2, Nat.le_refl _, t1.size⟩; have Hsz := Lib.hid (show w.heap.size < w1.heap.size from by have := hl1.blk.lt; omega); clear hl1 hn2 t2)) | (go_at_call 14; go_must (refine (fair_any (Hst.out.tur0 hs.tur)).mono ?_; rintro e w3 ⟨⟨b, rfl, hb⟩, t3⟩; have hs' := hs.quiet t3; clear hs t3; have hs := hs'; clear hs'; have Hb := Lib.hid hb; clear hb)) | (go_at_call 13; go_must (refine (wakes_any _).mono ?_; rintro e w8 ⟨rfl, t8⟩)) | (go_at_call 9; go_must (refine (begin_x hs.log false).mono ?_; rintro e w3 ⟨⟨z1, z2, rfl⟩, hl3, t3⟩; have hs' := hs.turn hl3 t3; clear hs; have hs := hs'; clear hs'; clear hl3 t3)) | (go_at_call 11; go_must (refine (tab_any _ _ _).mono ?_; rintro e w4 ⟨cv, blk, rfl, hc, hk4, t4⟩; obtain ⟨ca, cn, cc, rfl⟩ := hc.form; rw [tabA_agg]; have hs' := hs.quiet t4; clear hs; have hs := hs'; clear hs'; clear t4)) | (go_at_call 10; have m' := P1; clear m'; clear P1; go_must (refine (put_any hs.log hs.nam NM.Ok.empty (by decide) 1 tT hc (show _ ≤ maxLen by decide) (fun e => by have := hk4.fn e.2; omega)).mono ?_; rintro e w5 ⟨rfl, hn5, hl5, t5⟩; rw [show (NM.put NM.empty (LogM.empty.begin false) 1 tT).2 = 0 from freshT.1]; have hs' : St w w5 w.heap.size (w1.heap.size + 1) w1.heap.size logA namesT := hs.put hn5 hl5 t5; clear hs hn5 hl5 hc hk4 t5; have hs := hs'; clear hs')) | (go_at_call 10; have m' := P2; clear m'; clear P2; go_must (refine (put_any hs.log hs.nam (NM.Ok.empty.put (L := logA) (LogM.Ok.begin LogM.Ok.empty false) 1 tT) (by decide) 1 tU hc (show _ ≤ maxLen by decide) (fun e => by have := hk4.fn e.2; omega)).mono ?_; rintro e w5 ⟨rfl, hn5, hl5, t5⟩; rw [show (NM.put namesT logA 1 tU).2 = 0 from freshTU.1]; have hs' : St w w5 w.heap.size (w1.heap.size + 1) w1.heap.size logA namesTU := hs.put hn5 hl5 t5; clear hs hn5 hl5 hc hk4 t5; have hs := hs'; clear hs')) | (go_at_call 15; go_must (refine (commit_x hs.log 1).mono ?_; rintro e w3 ⟨⟨z1, z2, rfl⟩, hl3, t3⟩; have hs' := hs.turn hl3 t3; clear hs; have hs := hs'; clear hs'; clear hl3 t3)) | fail)
  · go_ret
    exact ⟨rfl, hs.tur.none_trans t8⟩
  have hbt : b = true := by cases b with | true => rfl | false => simp_all
  subst hbt
  try simp only [Bool.not_true]
  have H120 := Lib.hid (show l.length ≤ 120 from Hb.out rfl)
  have HS0 := Lib.hid (show St w _ w.heap.size (w1.heap.size + 1) w1.heap.size logB namesTU from hs)
  clear hs Hb Hst
  go_loopw [5] (fun i wr => ∃ (k : Nat) (N : NM), k ≤ l.length ∧ i = .int .i64 k ∧ St w wr w.heap.size (w1.heap.size + 1) w1.heap.size logB N ∧ N.Ok (k + 2) ∧ Ab N) (fun i _ => l.length - (intOf i).toNat)
  case atStart => exact ⟨0, _, Nat.zero_le _, rfl, HS0.out, Ab.ok, Ab.start⟩
  case round =>
    clear HS0
    obtain ⟨k, N, hk, rfl, hs, hok, hab⟩ := hrel
    have Hok := Lib.hid hok
    have Hab := Lib.hid hab
    have Hk := Lib.hid (show k + 2 ≤ 100000 from by have := H120.out; omega)
    have Hk1 := Lib.hid (show k + 2 + 1 ≤ 100000 from by have := H120.out; omega)
    clear hok hab
    by_cases hlt : k < l.length
    · obtain ⟨s, hss⟩ : ∃ s, l[k]? = some s := ⟨l[k], List.getElem?_eq_getElem hlt⟩
      obtain ⟨bb, o, a', n', c', blk0, rfl, ⟨y0, y1, y2, y3, y4⟩, hcol, hbk, hnm⟩ := Hc.out w k s (Tur.refl _ _) hss
      have g0 := hs.tur.cell' y0 (fun h => h)
      have g1 := hs.tur.cell' y1 (fun h => h)
      have g2 := hs.tur.cell' y2 (fun h => h)
      have g3 := hs.tur.cell' y3 (fun h => h)
      have g4 := hs.tur.cell' y4 (fun h => h)
      obtain ⟨blk, hblk⟩ := hcol.free hbk Hsz.out
      have HC := Lib.hid hblk
      have HN := Lib.hid hnm
      clear y0 y1 y2 y3 y4 hcol hbk hnm hblk hss
      go_wp2_with (first | (go_at_call 19; go_must (refine (drop_any hs.log hs.nam Hok.out Hk.out 2 s.t.name).mono ?_; rintro e w5 ⟨rfl, hn5, hl5, t5⟩; have hs' := hs.put hn5 hl5 t5; clear hs; have hs := hs'; clear hs'; clear hn5 hl5 t5)) | (go_at_call 10; go_must (refine (put_any hs.log hs.nam Hok.out Hk.out 2 s.t (HC.out.2.tur hs.tur (fun _ h => h)) HN.out (fun e => by have := HC.out.1; omega)).mono ?_; rintro e w5 ⟨rfl, hn5, hl5, t5⟩; have hs' := hs.put hn5 hl5 t5; clear hs; have hs := hs'; clear hs'; clear hn5 hl5 t5)) | fail)
      · exact ⟨⟨k + 1, _, by omega, by go_num, hs, (show NM.Ok _ (k + 2 + 1) from Hok.out.drop hs.log.ok 2 s.t.name), Hab.out.drop _ _⟩, by simp [intOf]; omega⟩
      · exact ⟨⟨k + 1, _, by omega, by go_num, hs, (show NM.Ok _ (k + 2 + 1) from Hok.out.put hs.log.ok 2 s.t), Hab.out.put _ _⟩, by simp [intOf]; omega⟩
    · have H64 := Lib.hid (show ∀ s, ∀ v ∈ N.f s, Is64 v.xmin ∧ Is64 v.xmax from fun s v hv => ⟨(Hok.out.ver s v hv).1, (Hok.out.ver s v hv).2.1⟩)
      have Hlen := Lib.hid (show ∀ s, (N.f s).length ≤ 100000 from fun s => by have := Hok.out.len s; have := Hk.out; omega)
      have HokD := Lib.hid (show NM.Ok (N.drop (logB.abort 2 |>.begin false) 3 sU).1 (k + 2 + 1) from Hok.out.drop (LogM.Ok.begin (LogM.Ok.abort hs.log.ok 2) false) 3 sU)
      have Q1 := Lib.hid trivial
      have Q2 := Lib.hid trivial
      go_wp2_with (first | (go_at_call 13; go_must (refine (wakes_any _).mono ?_; rintro e w8 ⟨rfl, t8⟩)) | (go_at_call 12; go_must (refine (abort_any hs.log 2).mono ?_; rintro e w3 ⟨rfl, hl3, t3⟩; rw [if_pos (show logB.state 2 = 1 from by decide +kernel)]; have hs' := hs.turn hl3 t3; clear hs; have hs := hs'; clear hs'; clear hl3 t3)) | (go_at_call 9; go_must (refine (begin_x hs.log false).mono ?_; rintro e w3 ⟨⟨z1, z2, rfl⟩, hl3, t3⟩; have hs' := hs.turn hl3 t3; clear hs; have hs := hs'; clear hs'; clear hl3 t3)) | (go_at_call 18; go_must (refine (all_any hs.log hs.nam 3 Hok.out Hk.out).mono ?_; rintro e w9 ⟨v9, ts9, cvs9, rfl, hta9, hp9, hss9, t9⟩; have e9 := Hab.out.all hp9 hss9; subst e9; have HT := Lib.hid hta9.r; have hs' := hs.quiet t9; clear hs; have hs := hs'; clear hs'; clear hta9 hp9 hss9 t9)) | (go_at_call 21; go_must (refine (may_any hs.log hs.nam 3 sT (H64.out sT) (Hlen.out sT)).mono ?_; rintro e w6 ⟨rfl, t6⟩; rw [show N.may (logB.abort 2 |>.begin false) 3 sT = (0, 0) from Hab.out.may sT]; have ht' := HT.out.tur0 t6; clear HT; have HT := Lib.hid ht'; clear ht'; have hs' := hs.quiet t6; clear hs; have hs := hs'; clear hs'; clear t6)) | (go_at_call 11; have m' := Q1; clear m'; clear Q1; go_must (refine (tab_any _ _ _).mono ?_; rintro e w4 ⟨cv1, blk1, rfl, hc, hk4, t4⟩; obtain ⟨ca1, cn1, cc1, rfl⟩ := hc.form; rw [tabA_agg]; have Hc1 := Lib.hid hc; have ht' := HT.out.tur0 t4; clear HT; have HT := Lib.hid ht'; clear ht'; have hs' := hs.quiet t4; clear hs; have hs := hs'; clear hs'; clear t4 hc hk4)) | (go_at_call 11; have m' := Q2; clear m'; clear Q2; go_must (refine (tab_any _ _ _).mono ?_; rintro e w5 ⟨cv2, blk2, rfl, hc, hk4, t4⟩; obtain ⟨ca2, cn2, cc2, rfl⟩ := hc.form; rw [tabA_agg]; have Hc2 := Lib.hid (And.intro (Hc1.out.tur t4 (fun _ h => h)) hc); have ht' := HT.out.tur0 t4; clear HT; have HT := Lib.hid ht'; clear ht'; have hs' := hs.quiet t4; clear hs; have hs := hs'; clear hs'; clear t4 hc hk4 Hc1)) | (go_at_call 20; go_must (refine (sameTables (HT.out.tur0 ((Tur.refl None' _).alloc _)) (madeTabs Hc2.out.1 Hc2.out.2)).mono ?_; rintro e w10 ⟨rfl, t10⟩; have hs' := (hs.quiet ((Tur.refl None' _).alloc _)).quiet t10; clear hs; have hs := hs'; clear hs'; clear t10 HT Hc2)) | (go_at_call 22; go_must (refine (unseen_any hs.log hs.nam 3 sU (H64.out sU) (Hlen.out sU)).mono ?_; rintro e w11 ⟨v11, rfl, hrow, t11⟩; rw [show unseenL (logB.abort 2 |>.begin false) 3 (N.f sU) = [] from Hab.out.unseen sU] at hrow; obtain ⟨a11, c11, rfl⟩ := ints_nil hrow; have hs' := hs.quiet t11; clear hs; have hs := hs'; clear hs'; clear hrow t11)) | (go_at_call 19; go_must (refine (drop_any hs.log hs.nam Hok.out Hk.out 3 sU).mono ?_; rintro e w12 ⟨rfl, hn5, hl5, t5⟩; rw [show (N.drop (logB.abort 2 |>.begin false) 3 sU).2 = 0 from Hab.out.drop3.1]; have hs' := hs.put hn5 hl5 t5; clear hs; have hs := hs'; clear hs'; clear hn5 hl5 t5)) | (go_at_call 11; go_must (refine (tab_any _ _ _).mono ?_; rintro e w4 ⟨cv, blk, rfl, hc, hk4, t4⟩; obtain ⟨ca, cn, cc, rfl⟩ := hc.form; rw [tabA_agg]; have hs' := hs.quiet t4; clear hs; have hs := hs'; clear hs'; clear t4)) | (go_at_call 10; go_must (refine (put_any hs.log hs.nam HokD.out Hk1.out 3 (tabA sT 9) hc (show _ ≤ maxLen by decide) (fun e => by have := hk4.fn e.2; omega)).mono ?_; rintro e w13 ⟨rfl, hn5, hl5, t5⟩; rw [show ((N.drop (logB.abort 2 |>.begin false) 3 sU).1.put (logB.abort 2 |>.begin false) 3 (tabA sT 9)).2 = 0 from Hab.out.put3 Hab.out.drop3.2.1]; have hs' := hs.put hn5 hl5 t5; clear hs; have hs := hs'; clear hs'; clear hn5 hl5 t5 hc hk4)) | fail)
      go_ret
      exact ⟨rfl, hs.tur.none_trans t8⟩

end Go.Proofs.Ytapkmgmcccgejaa
