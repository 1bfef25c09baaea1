/- Put: a version in the place of another one. -/
import Derived.Test.YtapkmgmcccgejaaPutM
import Derived.Deep.RegionHeld3
import Derived.Deep.AppendLies
namespace Go.Proofs.Ytapkmgmcccgejaa
open Go.RowKit Go.Shelf

section
variable {w : World} {lb nb B blk : Nat} {L : LogM} {N : NM} {M : Nat}

set_option maxRecDepth 100000 in
set_option maxHeartbeats 4000000 in
theorem put_over (hl : LogAt w lb L) (hn : NamesIn w nb B N) (hok : N.Ok M) (hM : M ≤ 100000) (x : Int) (t : Tab) {cv : Value} (hcv : ColsAt w cv t.cols blk) (hnm : t.name.size ≤ maxLen) (hyes : putOk L x t = true) (hm : (N.may L x t.name).1 = 0) {k : Nat} (hat : N.at_ L x t.name = (k : Int)) (hk : k < (N.f t.name).length) (hblk : ¬ (B ≤ blk ∧ KindAt w blk 2)) :
    Calls Try.prog 10 #[.pointer (some ⟨nb, 0, none⟩), .pointer (some ⟨lb, 0, none⟩), .int .i64 x, t.agg cv] w
      fun e w' => e = .returned (.int .i64 0) ∧ NamesIn w' nb B ((N.set t.name (endAt (N.f t.name) k x)).set t.name ((N.set t.name (endAt (N.f t.name) k x)).f t.name ++ [⟨x, 0, t⟩])) ∧ Tur (PutS w B) w w' := by
  obtain ⟨nm, cols, rel⟩ := t
  have hl' : ∀ w2, Tur None' w w2 → LogAt w2 lb L ∧ ColsAt w2 cv cols blk ∧ NamesIn w2 nb B N := fun w2 t => ⟨hl.tur t (fun h => h), hcv.tur t (fun _ h => h), hn.tur0 t⟩
  have Hl := Lib.hid hl'
  have Hcv := Lib.hid hcv
  obtain ⟨⟨a, cap, off, rfl, _⟩, _, _⟩ := hcv
  have hr := Run.start w (Obj.cells #[.string nm, .slice a cols.length cap, .int .i64 rel] 32)
  have Hnm := Lib.hid hnm
  obtain ⟨h1, h2, h3, h41, h42⟩ := putOk_parts hyes
  simp only at h1 h2 h3 h41 h42
  have H1 := Lib.hid h1
  have H2 := Lib.hid h2
  have H3 := Lib.hid h3
  have h4 : ¬ rel < 1 := by omega
  have H64 := Lib.hid (show ∀ v ∈ N.f nm, Is64 v.xmin ∧ Is64 v.xmax from fun v hv => ⟨(hok.ver nm v hv).1, (hok.ver nm v hv).2.1⟩)
  have H5 := Lib.hid (show (N.f nm).length ≤ 100000 from by have := hok.len nm; omega)
  have H6 := Lib.hid (show N.keys.length ≤ 100000 from by have := hok.keys; omega)
  have Hok := Lib.hid hok
  simp only at hm hat hk
  have HM := Lib.hid (show N.may L x nm = (0, (N.may L x nm).2) from by rw [← hm])
  have HA := Lib.hid hat
  obtain ⟨mb, ck, m, hnA⟩ := hn
  have hA : ∀ w2, Tur None' w w2 → NamesAt w2 nb B N mb ck m := fun w2 t => hnA.tur t (fun _ _ _ _ _ h => h)
  have HN := Lib.hid hA
  have HNA := Lib.hid hnA
  have Hsz := Lib.hid (show cols.length * 72 ≤ 140737488355328 from by have := goodCols_len h3; omega)
  have HLen := Lib.hid (show ((N.set nm (endAt (N.f nm) k x)).f nm).length ≤ 100000 from by simp [NM.set, endAt]; exact H5.out)
  clear h1 h2 h3 hl' hl hnm hok hyes hm hat Hcv hA hnA
  generalize (N.may L x nm).2 = e2 at *
  go_enter Try.func10, Try.ntmps10
  go_wp2_with (first | (go_at_call 16; refine (state_any (Hl.out _ hr.tur).1 _).mono ?_; rintro e w1 ⟨rfl, t1⟩; have h1' := H1.out; have hr' := hr.step t1; clear hr t1; have hr := hr'; clear hr'; have hc := hr.cell) | (go_at_call 23; refine (valueName nm _ Hnm.out).mono ?_; rintro e w1 ⟨rfl, rfl⟩; rw [H2.out]) | (go_at_call 24; refine (goodCols_any (Hl.out _ hr.tur).2.1).mono ?_; rintro e w1 ⟨rfl, t1⟩; rw [H3.out]; have hr' := hr.step t1; clear hr t1; have hr := hr'; clear hr'; have hc := hr.cell) | (go_at_call 21; refine (may_any (Hl.out _ hr.tur).1 (Hl.out _ hr.tur).2.2 x nm H64.out H5.out).mono ?_; rintro e w1 ⟨rfl, t1⟩; rw [HM.out]; have hr' := hr.step t1; clear hr t1; have hr := hr'; clear hr'; have hc := hr.cell) | (go_at_call 25; refine (at_any (Hl.out _ hr.tur).1 (Hl.out _ hr.tur).2.2 x nm).mono ?_; rintro e w1 ⟨rfl, t1⟩; rw [HA.out]; have hr' := hr.step t1; clear hr t1; have hr := hr'; clear hr'; have hc := hr.cell))
  have hnamO := HN.out _ hr.tur
  obtain ⟨a0, cap0, cvs, hv0, hvs, hlk⟩ := hnamO.slot nm
  obtain ⟨g, rfl⟩ : ∃ g, a0 = some ⟨g, 0, none⟩ := by
    rcases ownsRow_shape hvs.own with ⟨_, h0⟩ | ⟨g, cap, e, _⟩
    · omega
    · injection e with e1 _ _; exact ⟨g, e1⟩
  have hls : look nm m = some (.slice (some ⟨g, 0, none⟩) (N.f nm).length cap0) := by
    cases hk2 : look nm m with
    | none => rw [hk2] at hv0; cases hv0
    | some v => rw [hk2] at hv0; exact congrArg some hv0
  have hgb := hnamO.slot_block hv0 hvs g rfl
  have nk0 := hlk _ (HN.out _ hr.tur.drew)
  have nc := hnamO.cell
  have b0 := hc 0
  have b1 := hc 1
  have b2 := hc 2
  simp only [List.getElem?_toArray, List.getElem?_cons_zero, List.getElem?_cons_succ] at b0 b1 b2
  have hgt : g ≠ w.heap.size := fun e => by subst e; have := hgb.2.1.fn (show KindAt w1 w.heap.size 0 from ⟨_, hr.blk, rfl⟩); omega
  have hgn : g ≠ nb := hgb.2.2.2.1
  obtain ⟨u1, hu1⟩ : ∃ u, w1.cell? ⟨g, k * 5 + 1, none⟩ = some u := by
    obtain ⟨y, hy⟩ : ∃ y, (N.f nm)[k]? = some y := ⟨_, List.getElem?_eq_getElem hk⟩
    obtain ⟨cv2, _, hva, _⟩ := hvs.ver hy rfl
    exact ⟨_, hva.c1⟩
  have hfz : w1.frozen? ⟨g, k * 5 + 1, none⟩ = false := by
    rcases ownsRow_shape hvs.own with ⟨e, _⟩ | ⟨g2, cap, e, _, _, _, ho⟩
    · cases e
    · injection e with e1 _ _
      injection e1 with e1
      injection e1 with e1
      rw [e1]; exact ho.frozen _
  have HO := Lib.hid (And.intro hnamO (And.intro hls (And.intro hr hgb)))
  have K1 := Lib.hid (And.intro nc (And.intro b0 (And.intro b1 b2)))
  have key5 : ∀ u : Value, Cells4 nb w.heap.size mb nm (.slice a cols.length cap) rel (w1.drew.setCell ⟨g, k * 5 + 1, none⟩ u) := fun u => ⟨by rw [cell_setCell_ne (fun e => absurd e hgn)]; exact nc, by rw [cell_setCell_ne (fun e => absurd e hgt)]; exact b0, by rw [cell_setCell_ne (fun e => absurd e hgt)]; exact b1, by rw [cell_setCell_ne (fun e => absurd e hgt)]; exact b2⟩
  have Key5 := Lib.hid key5
  have hki : (0 : Int) ≤ (k : Int) := by omega
  have hki2 : (k : Int) < ((N.f nm).length : Int) := by omega
  clear hc hnamO hls hgb hvs hlk hv0 hr key5
  go_region_held3 (fun w' => w'.cell? ⟨nb, 0, none⟩ = some (.map (some mb)) ∧ w'.cell? ⟨w.heap.size, 0, none⟩ = some (.string nm) ∧ w'.cell? ⟨w.heap.size, 1, none⟩ = some (.slice a cols.length cap) ∧ w'.cell? ⟨w.heap.size, 2, none⟩ = some (.int .i64 rel))
    (first | exact K1.out | exact Key5.out _ | go_keep)
    (fail)
  go_wp2_with fail
  obtain ⟨hnamO, hls, hr, hgb⟩ := HO.out
  have hnamW : NamesAt (w1.drew.setCell ⟨g, k * 5 + 1, none⟩ (.int .i64 x)) nb B (N.set nm (endAt (N.f nm) k x)) mb ck m := (HN.out _ hr.tur.drew).store hls hk x
  have hts : Tur (· = g) w1.drew (w1.drew.setCell ⟨g, k * 5 + 1, none⟩ (.int .i64 x)) := (Tur.refl (· = g) _).setCell (p := ⟨g, k * 5 + 1, none⟩) (fun _ => rfl) _
  have hcvW : ColsAt (w1.drew.setCell ⟨g, k * 5 + 1, none⟩ (.int .i64 x)) (.slice a cols.length cap) cols blk := (Hl.out _ hr.tur.drew).2.1.tur hts (fun _ e => hblk (by subst e; exact HNA.out.slot_kind (s := nm) (by rw [hls]; rfl)))
  have htb0 : Tur (PutS w B) w (w1.drew.setCell ⟨g, k * 5 + 1, none⟩ (.int .i64 x)) := (hr.tur.drew.mono (S' := PutS w B) (fun _ _ e => e.elim)).trans hts (fun j _ e => by
    have e : j = g := e
    subst e
    have hk2 := HNA.out.slot_kind (s := nm) (g := j) (by rw [hls]; rfl)
    exact ⟨hk2.1, .inr hk2.2⟩)
  have Hbox := Lib.hid (show (w1.drew.setCell ⟨g, k * 5 + 1, none⟩ (.int .i64 x)).heap[w.heap.size]? = some (Obj.cells #[.string nm, .slice a cols.length cap, .int .i64 rel] 32) from (hts.block _ (Array.getElem?_eq_some_iff.1 hr.blk).1 (fun e => hgt e.symm)).trans hr.blk)
  have kk5 := Key5.out (.int .i64 x)
  have b0 := kk5.2.1
  have b1 := kk5.2.2.1
  have b2 := kk5.2.2.2
  obtain ⟨N', HN'⟩ : ∃ N' : NM, N' = N.set nm (endAt (N.f nm) k x) := ⟨_, rfl⟩
  rw [← HN'] at hnamW
  have HLen' := Lib.hid (show (N'.f nm).length ≤ 100000 from by rw [HN']; exact HLen.out)
  have HNq := Lib.hid HN'
  have HLen := HLen'
  clear HN' HLen' nc nk0 hu1 hfz hls hr hgb hnamO kk5 K1 Key5 HO hts HA HM hgt hgn
  rw [show w1.drew.setCell ⟨g, k * 5 + 1, none⟩ (.int .i64 x) = (w1.setCell ⟨g, k * 5 + 1, none⟩ (.int .i64 x)).drew from rfl] at hnamW hcvW htb0 Hbox b0 b1 b2
  obtain ⟨wb, hwb⟩ : ∃ wb : World, wb = (w1.setCell ⟨g, k * 5 + 1, none⟩ (.int .i64 x)).drew := ⟨_, rfl⟩
  rw [← hwb] at hnamW hcvW htb0 Hbox b0 b1 b2 ⊢
  clear hwb
  obtain ⟨a0, cap0, cvs, hv0, hvs, hlk⟩ := hnamW.slot nm
  have nc := hnamW.cell
  have nk := hlk _ (hnamW.tur (Tur.refl None' _).drew (fun _ _ _ _ _ h => h))
  have hBw : B ≤ wb.heap.size := Nat.le_trans hnamW.hmb (Nat.le_of_lt hnamW.map.lt)
  have hlw : w.heap.size < wb.heap.size := cell_lt b0
  have hnb : nb < wb.heap.size := cell_lt nc
  have hgb := hnamW.slot_block hv0 hvs
  have hn6 : (N'.f nm).length ≤ 100000 := HLen.out
  have hgw : ∀ g, (Value.slice a0 (N'.f nm).length cap0).ownBlock = some g → g ≠ w.heap.size := fun g hg e => by subst e; have := (hvs.kind hg).fn (show KindAt wb w.heap.size 0 from ⟨_, Hbox.out, rfl⟩); omega
  have Hne := Lib.hid (show nb ≠ mb ∧ w.heap.size ≠ mb from ⟨fun e => by have := hnamW.kind_map; rw [← e] at this; have := this.fn hnamW.kind_box; omega, fun e => by have := hnamW.kind_map; rw [← e] at this; have := this.fn (show KindAt wb w.heap.size 0 from ⟨_, Hbox.out, rfl⟩); omega⟩)
  have HW := Lib.hid hnamW
  have Hv0 := Lib.hid hv0
  have Hvs := Lib.hid hvs
  have Hlk := Lib.hid hlk
  have Hgb := Lib.hid hgb
  have Hgw := Lib.hid hgw
  have Hcv := Lib.hid hcvW
  have Htb := Lib.hid htb0
  clear hnamW hv0 hvs hlk hgb hcvW htb0 hgw
  have hBd : B ≤ wb.drew.heap.size := hBw
  obtain ⟨i0, hi, hz0, hz1, hz2⟩ := info_parts infoVer
  have Kstr := klaw_string (P := Try.prog) Try.underlying9
  go_region_held3 (fun w' => w'.cell? ⟨nb, 0, none⟩ = some (.map (some mb)) ∧ w'.cell? ⟨w.heap.size, 0, none⟩ = some (.string nm) ∧ w'.cell? ⟨w.heap.size, 1, none⟩ = some (.slice a cols.length cap) ∧ w'.cell? ⟨w.heap.size, 2, none⟩ = some (.int .i64 rel))
    (first | exact Key4.out | exact Key3.out | exact Key2a.out _ | exact Key2.out | go_keep)
    (first | (go_at_call 27; refine (copied_any (Hcv.out.tur (Tur.refl None' _).drew (fun _ h => h)) Hsz.out nm rel).mono ?_; rintro e w2 ⟨cv', rfl, hoc, t2⟩; obtain ⟨a2, n2, c2, rfl⟩ := hoc.slice; have t2' := (Tur.refl None' wb).drew.none_trans t2; have nk2 := Hlk.out _ (HW.out.tur t2' (fun _ _ _ _ _ h => h)); have nk3 := fun o => Hlk.out _ (HW.out.tur (t2'.alloc o) (fun _ _ _ _ _ h => h)); have key2 := And.intro (t2'.cell' nc (fun h => h)) (And.intro (t2'.cell' b0 (fun h => h)) (And.intro (t2'.cell' b1 (fun h => h)) (t2'.cell' b2 (fun h => h)))); have key2a := fun (o : Obj) => And.intro (((Tur.refl None' w2).alloc o).cell' key2.1 (fun h => h)) (And.intro (((Tur.refl None' w2).alloc o).cell' key2.2.1 (fun h => h)) (And.intro (((Tur.refl None' w2).alloc o).cell' key2.2.2.1 (fun h => h)) (((Tur.refl None' w2).alloc o).cell' key2.2.2.2 (fun h => h)))); have Hoc := Lib.hid hoc; have T2 := Lib.hid t2'; have Key2 := Lib.hid key2; have Key2a := Lib.hid key2a; clear hoc t2 t2' key2 key2a) | (refine step_append_lies _ (by rfl) _ _ _ (by rfl) B 66 i0 _ 5 64 Try.underlying67 hi hz0 hz1 hz2 rfl (by omega) (.slice a0 (N'.f nm).length cap0) (N'.f nm).length (((N'.f nm).zip cvs).flatMap verCells) (by rfl) (ownsRow_tur Hvs.out.own (T2.out.alloc _) (fun _ _ h => h)) ⟨w2.heap.size, 0, none⟩ 1 1 (verCells (⟨x, 0, ⟨nm, cols, rel⟩⟩, .slice a2 n2 c2)) (by rfl) (by rfl) (World.news_of_block (heap_alloc_new w2 _)) (by simp [Value.oneCell', verCells]) (by omega) (by unfold maxLen; omega) (by omega) (by have := T2.out.size; simp; omega) (w2.heap.size + 1) (by simp) ?_; intro gg cap3 w3 hown3 hgrow3 hat3 hlt3; have Key3 := Lib.hid (put_key hgrow3 (Key2a.out _) (by have := T2.out.size; simp; omega) (by have := T2.out.size; simp; omega) (fun e => (Hgb.out _ e).2.2.2.1 rfl) (fun e => Hgw.out _ e rfl)); have hmap3 := put_map (HW.out.tur (T2.out.alloc _) (fun _ _ _ _ _ h => h)) hgrow3 (fun e => (Hgb.out _ e).2.2.2.2 rfl); obtain ⟨w4, hrun4, hm4, t4, s4⟩ := run_update_at (t := 59) Kstr Try.underlying59 hmap3 nm (.slice (some ⟨gg, 0, none⟩) ((N'.f nm).length + 1) cap3); have Key4 := Lib.hid (put_key4 t4 Key3.out Hne.out.1 Hne.out.2); have Hown3 := Lib.hid hown3; have Hgrow3 := Lib.hid hgrow3; have Hat3 := Lib.hid hat3; have Hm4 := Lib.hid hm4; have T4 := Lib.hid t4; clear hown3 hgrow3 hat3 hmap3 hm4 t4 s4 hlt3))
  all_goals
    go_wp2
    go_ret
    refine ⟨rfl, (by have hfin : NamesIn w4 nb B (N'.set nm (N'.f nm ++ [⟨x, 0, ⟨nm, cols, rel⟩⟩])) := ⟨mb, _, _, (HW.out.tur (T2.out.alloc (Obj.cells #[.int .i64 x, .int .i64 0, .string nm, .slice a2 n2 c2, .int .i64 rel] 66)) (fun _ _ _ _ _ h => h)).append nm ⟨x, 0, ⟨nm, cols, rel⟩⟩ _ ((Hoc.out.mono hBd).tur ((Tur.refl None' _).alloc (Obj.cells #[.int .i64 x, .int .i64 0, .string nm, .slice a2 n2 c2, .int .i64 rel] 66)) (fun _ _ h => h)) (by rw [Hv0.out]; exact Hvs.out.tur (T2.out.alloc (Obj.cells #[.int .i64 x, .int .i64 0, .string nm, .slice a2 n2 c2, .int .i64 rel] 66)) (fun _ _ h => h) (fun _ _ _ _ h => h)) Hown3.out (by rw [Hv0.out]; exact Hgrow3.out) (by rw [Hv0.out]; exact Hat3.out.imp id (fun e => by rw [e]; simp)) Hm4.out T4.out⟩; rw [HNq.out] at hfin; exact hfin), ?_⟩
    refine (((Htb.out.trans (T2.out.alloc _) (fun _ _ e => e.elim)).grown Hgrow3.out (fun k e _ => ?_)).trans T4.out (fun j _ e => ?_))
    · have hk := HNA.out.slot_kind (s := nm) (g := k) (by rw [Hv0.out]; exact e)
      exact ⟨hk.1, .inr hk.2⟩
    · have e : j = mb := e
      subst e
      exact ⟨HNA.out.hmb, .inl HNA.out.kind_map⟩


end

end Go.Proofs.Ytapkmgmcccgejaa
