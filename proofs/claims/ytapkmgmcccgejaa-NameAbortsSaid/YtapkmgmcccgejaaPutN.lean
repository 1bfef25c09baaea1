/- Put: a version more. -/
import Derived.Test.YtapkmgmcccgejaaPutM
import Derived.Deep.RegionHeld3
import Derived.Deep.AppendLies
namespace Go.Proofs.Ytapkmgmcccgejaa
open Go.RowKit Go.Shelf

section
variable {w : World} {lb nb B blk : Nat} {L : LogM} {N : NM} {M : Nat}

set_option maxRecDepth 100000 in
set_option maxHeartbeats 4000000 in
theorem put_new (hl : LogAt w lb L) (hn : NamesIn w nb B N) (hok : N.Ok M) (hM : M ≤ 100000) (x : Int) (t : Tab) {cv : Value} (hcv : ColsAt w cv t.cols blk) (hnm : t.name.size ≤ maxLen) (hyes : putOk L x t = true) (hm : (N.may L x t.name).1 = 0) (hat : N.at_ L x t.name = -1) (hmany : N.others L x t.name < 6) :
    Calls Try.prog 10 #[.pointer (some ⟨nb, 0, none⟩), .pointer (some ⟨lb, 0, none⟩), .int .i64 x, t.agg cv] w
      fun e w' => e = .returned (.int .i64 0) ∧ NamesIn w' nb B (N.set t.name (N.f t.name ++ [⟨x, 0, t⟩])) ∧ Tur (PutS w B) w w' := by
  obtain ⟨nm, cols, rel⟩ := t
  have hl' : ∀ w2, Tur None' w w2 → LogAt w2 lb L ∧ ColsAt w2 cv cols blk ∧ NamesIn w2 nb B N := fun w2 t => ⟨hl.tur t (fun h => h), hcv.tur t (fun _ h => h), hn.tur0 t⟩
  have Hl := Lib.hid hl'
  have Hcv := Lib.hid hcv
  obtain ⟨⟨a, cap, off, rfl, _⟩, _, _⟩ := hcv
  have hr := Run.start w (Obj.cells #[.string nm, .slice a cols.length cap, .int .i64 rel] 32)
  have Hnm := Lib.hid hnm
  obtain ⟨h1, h2, h3, h41, h42⟩ := putOk_parts hyes
  simp only at h1 h2 h3 h41 h42
  have H1 := Lib.hid h1
  have H2 := Lib.hid h2
  have H3 := Lib.hid h3
  have h4 : ¬ rel < 1 := by omega
  have H64 := Lib.hid (show ∀ v ∈ N.f nm, Is64 v.xmin ∧ Is64 v.xmax from fun v hv => ⟨(hok.ver nm v hv).1, (hok.ver nm v hv).2.1⟩)
  have H5 := Lib.hid (show (N.f nm).length ≤ 100000 from by have := hok.len nm; omega)
  have H6 := Lib.hid (show N.keys.length ≤ 100000 from by have := hok.keys; omega)
  have Hok := Lib.hid hok
  simp only at hm hat hmany
  have HM := Lib.hid (show N.may L x nm = (0, (N.may L x nm).2) from by rw [← hm])
  have HA := Lib.hid hat
  obtain ⟨mb, ck, m, hnA⟩ := hn
  have hA : ∀ w2, Tur None' w w2 → NamesAt w2 nb B N mb ck m := fun w2 t => hnA.tur t (fun _ _ _ _ _ h => h)
  have HN := Lib.hid hA
  have HNA := Lib.hid hnA
  have Hsz := Lib.hid (show cols.length * 72 ≤ 140737488355328 from by have := goodCols_len h3; omega)
  have HLen := H5
  clear h1 h2 h3 hl' hl hnm hok hyes hm hat Hcv hA hnA
  generalize (N.may L x nm).2 = e2 at *
  go_enter Try.func10, Try.ntmps10
  go_wp2_with (first | (go_at_call 16; refine (state_any (Hl.out _ hr.tur).1 _).mono ?_; rintro e w1 ⟨rfl, t1⟩; have h1' := H1.out; have hr' := hr.step t1; clear hr t1; have hr := hr'; clear hr'; have hc := hr.cell) | (go_at_call 23; refine (valueName nm _ Hnm.out).mono ?_; rintro e w1 ⟨rfl, rfl⟩; rw [H2.out]) | (go_at_call 24; refine (goodCols_any (Hl.out _ hr.tur).2.1).mono ?_; rintro e w1 ⟨rfl, t1⟩; rw [H3.out]; have hr' := hr.step t1; clear hr t1; have hr := hr'; clear hr'; have hc := hr.cell) | (go_at_call 21; refine (may_any (Hl.out _ hr.tur).1 (Hl.out _ hr.tur).2.2 x nm H64.out H5.out).mono ?_; rintro e w1 ⟨rfl, t1⟩; rw [HM.out]; have hr' := hr.step t1; clear hr t1; have hr := hr'; clear hr'; have hc := hr.cell) | (go_at_call 25; refine (at_any (Hl.out _ hr.tur).1 (Hl.out _ hr.tur).2.2 x nm).mono ?_; rintro e w1 ⟨rfl, t1⟩; rw [HA.out]; have hr' := hr.step t1; clear hr t1; have hr := hr'; clear hr'; have hc := hr.cell) | (go_at_call 26; refine (others_any (Hl.out _ hr.tur).1 (Hl.out _ hr.tur).2.2 x nm H6.out).mono ?_; rintro e w1 ⟨rfl, t1⟩; have hr' := hr.step t1; clear hr t1; have hr := hr'; clear hr'; have hc := hr.cell))
  have hnamW := HN.out _ hr.tur
  have hcvW := (Hl.out _ hr.tur).2.1
  have Hbox := Lib.hid hr.blk
  have htb0 : Tur (PutS w B) w w1 := hr.tur.mono (fun _ _ e => e.elim)
  have b0 := hc 0
  have b1 := hc 1
  have b2 := hc 2
  simp only [List.getElem?_toArray, List.getElem?_cons_zero, List.getElem?_cons_succ] at b0 b1 b2
  clear hc hr
  obtain ⟨wb, rfl⟩ : ∃ wb : World, wb = w1 := ⟨_, rfl⟩
  obtain ⟨a0, cap0, cvs, hv0, hvs, hlk⟩ := hnamW.slot nm
  have nc := hnamW.cell
  have nk := hlk _ (hnamW.tur (Tur.refl None' _).drew (fun _ _ _ _ _ h => h))
  have hBw : B ≤ wb.heap.size := Nat.le_trans hnamW.hmb (Nat.le_of_lt hnamW.map.lt)
  have hlw : w.heap.size < wb.heap.size := cell_lt b0
  have hnb : nb < wb.heap.size := cell_lt nc
  have hgb := hnamW.slot_block hv0 hvs
  have hn6 : (N.f nm).length ≤ 100000 := HLen.out
  have hgw : ∀ g, (Value.slice a0 (N.f nm).length cap0).ownBlock = some g → g ≠ w.heap.size := fun g hg e => by subst e; have := (hvs.kind hg).fn (show KindAt wb w.heap.size 0 from ⟨_, Hbox.out, rfl⟩); omega
  have Hne := Lib.hid (show nb ≠ mb ∧ w.heap.size ≠ mb from ⟨fun e => by have := hnamW.kind_map; rw [← e] at this; have := this.fn hnamW.kind_box; omega, fun e => by have := hnamW.kind_map; rw [← e] at this; have := this.fn (show KindAt wb w.heap.size 0 from ⟨_, Hbox.out, rfl⟩); omega⟩)
  have HW := Lib.hid hnamW
  have Hv0 := Lib.hid hv0
  have Hvs := Lib.hid hvs
  have Hlk := Lib.hid hlk
  have Hgb := Lib.hid hgb
  have Hgw := Lib.hid hgw
  have Hcv := Lib.hid hcvW
  have Htb := Lib.hid htb0
  clear hnamW hv0 hvs hlk hgb hcvW htb0 hgw
  have hBd : B ≤ wb.drew.heap.size := hBw
  obtain ⟨i0, hi, hz0, hz1, hz2⟩ := info_parts infoVer
  have Kstr := klaw_string (P := Try.prog) Try.underlying9
  go_region_held3 (fun w' => w'.cell? ⟨nb, 0, none⟩ = some (.map (some mb)) ∧ w'.cell? ⟨w.heap.size, 0, none⟩ = some (.string nm) ∧ w'.cell? ⟨w.heap.size, 1, none⟩ = some (.slice a cols.length cap) ∧ w'.cell? ⟨w.heap.size, 2, none⟩ = some (.int .i64 rel))
    (first | exact Key4.out | exact Key3.out | exact Key2a.out _ | exact Key2.out | go_keep)
    (first | (go_at_call 27; refine (copied_any (Hcv.out.tur (Tur.refl None' _).drew (fun _ h => h)) Hsz.out nm rel).mono ?_; rintro e w2 ⟨cv', rfl, hoc, t2⟩; obtain ⟨a2, n2, c2, rfl⟩ := hoc.slice; have t2' := (Tur.refl None' wb).drew.none_trans t2; have nk2 := Hlk.out _ (HW.out.tur t2' (fun _ _ _ _ _ h => h)); have nk3 := fun o => Hlk.out _ (HW.out.tur (t2'.alloc o) (fun _ _ _ _ _ h => h)); have key2 := And.intro (t2'.cell' nc (fun h => h)) (And.intro (t2'.cell' b0 (fun h => h)) (And.intro (t2'.cell' b1 (fun h => h)) (t2'.cell' b2 (fun h => h)))); have key2a := fun (o : Obj) => And.intro (((Tur.refl None' w2).alloc o).cell' key2.1 (fun h => h)) (And.intro (((Tur.refl None' w2).alloc o).cell' key2.2.1 (fun h => h)) (And.intro (((Tur.refl None' w2).alloc o).cell' key2.2.2.1 (fun h => h)) (((Tur.refl None' w2).alloc o).cell' key2.2.2.2 (fun h => h)))); have Hoc := Lib.hid hoc; have T2 := Lib.hid t2'; have Key2 := Lib.hid key2; have Key2a := Lib.hid key2a; clear hoc t2 t2' key2 key2a) | (refine step_append_lies _ (by rfl) _ _ _ (by rfl) B 66 i0 _ 5 64 Try.underlying67 hi hz0 hz1 hz2 rfl (by omega) (.slice a0 (N.f nm).length cap0) (N.f nm).length (((N.f nm).zip cvs).flatMap verCells) (by rfl) (ownsRow_tur Hvs.out.own (T2.out.alloc _) (fun _ _ h => h)) ⟨w2.heap.size, 0, none⟩ 1 1 (verCells (⟨x, 0, ⟨nm, cols, rel⟩⟩, .slice a2 n2 c2)) (by rfl) (by rfl) (World.news_of_block (heap_alloc_new w2 _)) (by simp [Value.oneCell', verCells]) (by omega) (by unfold maxLen; omega) (by omega) (by have := T2.out.size; simp; omega) (w2.heap.size + 1) (by simp) ?_; intro gg cap3 w3 hown3 hgrow3 hat3 hlt3; have Key3 := Lib.hid (put_key hgrow3 (Key2a.out _) (by have := T2.out.size; simp; omega) (by have := T2.out.size; simp; omega) (fun e => (Hgb.out _ e).2.2.2.1 rfl) (fun e => Hgw.out _ e rfl)); have hmap3 := put_map (HW.out.tur (T2.out.alloc _) (fun _ _ _ _ _ h => h)) hgrow3 (fun e => (Hgb.out _ e).2.2.2.2 rfl); obtain ⟨w4, hrun4, hm4, t4, s4⟩ := run_update_at (t := 59) Kstr Try.underlying59 hmap3 nm (.slice (some ⟨gg, 0, none⟩) ((N.f nm).length + 1) cap3); have Key4 := Lib.hid (put_key4 t4 Key3.out Hne.out.1 Hne.out.2); have Hown3 := Lib.hid hown3; have Hgrow3 := Lib.hid hgrow3; have Hat3 := Lib.hid hat3; have Hm4 := Lib.hid hm4; have T4 := Lib.hid t4; clear hown3 hgrow3 hat3 hmap3 hm4 t4 s4 hlt3))
  all_goals
    go_wp2
    go_ret
    refine ⟨rfl, ⟨mb, _, _, (HW.out.tur (T2.out.alloc (Obj.cells #[.int .i64 x, .int .i64 0, .string nm, .slice a2 n2 c2, .int .i64 rel] 66)) (fun _ _ _ _ _ h => h)).append nm ⟨x, 0, ⟨nm, cols, rel⟩⟩ _ ((Hoc.out.mono hBd).tur ((Tur.refl None' _).alloc (Obj.cells #[.int .i64 x, .int .i64 0, .string nm, .slice a2 n2 c2, .int .i64 rel] 66)) (fun _ _ h => h)) (by rw [Hv0.out]; exact Hvs.out.tur (T2.out.alloc (Obj.cells #[.int .i64 x, .int .i64 0, .string nm, .slice a2 n2 c2, .int .i64 rel] 66)) (fun _ _ h => h) (fun _ _ _ _ h => h)) Hown3.out (by rw [Hv0.out]; exact Hgrow3.out) (by rw [Hv0.out]; exact Hat3.out.imp id (fun e => by rw [e]; simp)) Hm4.out T4.out⟩, ?_⟩
    refine (((Htb.out.trans (T2.out.alloc _) (fun _ _ e => e.elim)).grown Hgrow3.out (fun k e _ => ?_)).trans T4.out (fun j _ e => ?_))
    · have hk := HNA.out.slot_kind (s := nm) (g := k) (by rw [Hv0.out]; exact e)
      exact ⟨hk.1, .inr hk.2⟩
    · have e : j = mb := e
      subst e
      exact ⟨HNA.out.hmb, .inl HNA.out.kind_map⟩

end

end Go.Proofs.Ytapkmgmcccgejaa
