/- Layer 5's laws: a script of one operation is played; the document's example. -/
import Derived.Test.YtefhngbeodnldaaChainSeq
set_option maxRecDepth 20000
set_option linter.unusedVariables false
set_option linter.unusedSimpArgs false
namespace Go.Proofs.Ytefhngbeodnldaa
open Go.RowKit Go.PM
theorem Idle.fresh (room bound : Int) (n : Nat) (hn1 : 1 ≤ n) (hn2 : n ≤ 64) (hr1 : (n : Int) ≤ room) (hr2 : room ≤ 65536) (hb1 : 0 ≤ bound) (hb2 : bound ≤ 64) : Idle 1 (List.replicate n ([], 0)) n room bound (L0 room bound n) := by
  have he : (AV.fresh room).allocErr n = 0 := by unfold AV.allocErr AV.fresh; simp; omega
  have hok := AV.Ok.fresh room
  have hmo : (AV.fresh room).most = room := by show min (max room 0) 65536 = room; omega
  have hyb : (YV.fresh 8 bound).bound = bound := by show min (max bound 0) 64 = bound; omega
  obtain ⟨m1, m2, m3, m4⟩ := AV.made_alloc he
  have hf : ((AV.fresh room).alloc n).find 1 = some (List.replicate n 0) := by have := AV.find_alloc_new hok he; rw [Int.toNat_natCast] at this; exact this
  have hent : (YV.fresh 8 bound).ent = List.replicate 9 0 := rfl
  have hs : ∀ t : Nat, (YV.fresh 8 bound).since (t : Int) = 0 := fun t => by
    rw [since_nat, hent, List.getD_eq_getElem?_getD, List.getElem?_replicate]
    split <;> rfl
  refine ⟨⟨fun b => if b = 1 then .base else .none, List.replicate n 0, by omega, (Bd.fresh 8 bound room).alloc n, by show (YV.fresh 8 bound).bound ≤ 64; rw [hyb]; exact hb2, m4, rfl, fun p hp => by simp [L0, YV.fresh] at hp, fun t _ => by show 0 ≤ (YV.fresh 8 bound).since t ∧ (YV.fresh 8 bound).since t ≤ _; rw [hs]; exact ⟨Int.le_refl 0, Int.le_refl 0⟩, hf, rfl, by simp [L0], by simp [L0], by simp [L0]; omega, fun c hc => ?_, (fun t O ht ho => by cases ho), fun t ht _ => hs t⟩, fun _ => rfl, rfl, ?_, by show ((AV.fresh room).alloc n).most = room; rw [m3, hmo], hyb, by simp [L0, YV.fresh]⟩
  · have hc : c < n := by simpa [L0] using hc
    refine .inl ⟨?_, ?_⟩
    · rw [List.getD_eq_getElem?_getD, List.getElem?_replicate, if_pos hc]; rfl
    · show (List.replicate n (([] : List Int), (0 : Int))).getD c ([], 0) = _
      rw [List.getD_eq_getElem?_getD, List.getElem?_replicate, if_pos hc]; rfl
  · show ((AV.fresh room).alloc n).live ≤ n
    rw [m2]
    show (0 : Int) + n ≤ n
    omega
section
variable {w : World} {own : Nat → Nat} {q : Nat} {P : LB} {L : LV} {ad : Nat → Nat}
theorem CoSeq_any (h : LAt q P L ad w own) {N : Int} {m : RB} {l most bound : Int} (hI : Idle N m l most bound L) {t c : Nat} {o : AskV} {g k : Nat} (hS : Scr w own k g [o, ⟨5, t, 0, 0⟩]) (hk : ¬ PlayC q k) (hN : N < 90000000000000) (ht : t < 9) (t1 : 1 ≤ t) (hot : o.t = (t : Int)) (hkd : 1 ≤ o.kind ∧ o.kind ≤ 4) (hc : c < m.length) (ha : o.chain = (c : Int) + 1) (hb : 2 ≤ bound) (hroom : l + ((m.getD c ([], 0)).1.length + 2 : Nat) ≤ most) :
    Calls Try.prog 18 #[.pointer (some ⟨P.W, 0, none⟩), .slice (some ⟨g, 0, none⟩) 2 2] w fun e w' => e = .returned (.bool true) ∧ PlMid q P (Idle (N + 500) (seqM m o) (l + (seqG m o : Nat)) most bound) w own w' :=
  CoPlay_any h hS hk (by show 2 ≤ 1000; decide) (seqPlay hN ht t1 hot hkd hc ha hb hroom) hI
/-- What a chain has, told. -/
theorem CoShow_any (h : LAt q P L ad w own) (hsh : Shows L) (c : Nat) (hc : c < L.m.length) (p : List Int × Int) (hp : L.m[c] = p) :
    Calls Try.prog 15 #[.pointer (some ⟨P.b, 0, none⟩), .int .i64 ((c : Int) + 1)] w fun e w' => ∃ v own', e = .returned (.tuple #[v, .int .i64 p.2]) ∧ Vw w' v p.1 ∧ LAt q P L ad w' own' ∧ Ext (PlayC q) w w' own own' := by
  have hf := hsh.few
  have hls := CoList_any h.arena h.base (by rw [hsh.f]; decide) ((c : Int) + 1) (by omega) (by rw [hsh.chs]; omega) (by rw [hsh.chs]; omega) hsh.blk (hsh.at_ c hc)
  rw [hsh.ch c hc, hp] at hls
  refine hls.mono ?_
  rintro e w6 ⟨v, own6, rfl, hv6, hA6, hE6⟩
  exact ⟨v, own6, rfl, hv6, h.relist hE6 hA6, hE6.mono (fun c h => by unfold PlayC; omega)⟩
end
theorem scr2 (wr : World) (own3 : Nat → Nat) (k : Nat) (kd tt ch vv : Int) (t : Nat) (o1 o2 : Obj) (h2 : o2 = .cells #[.int .i64 kd, .int .i64 tt, .int .i64 ch, .int .i64 vv, .int .i64 5, .int .i64 (t : Int), .int .i64 0, .int .i64 0] 57 (0, 0)) :
    Ext (fun _ => False) wr ((wr.alloc o1).alloc o2) own3 (PM.ow own3 wr.heap.size k) ∧ Scr ((wr.alloc o1).alloc o2) (PM.ow own3 wr.heap.size k) k (wr.heap.size + 1) [⟨kd, tt, ch, vv⟩, ⟨5, t, 0, 0⟩] := by
  have hs := World.size_alloc wr o1
  subst h2
  refine ⟨((Ext.refl.ow k).alloc _).alloc _, ?_⟩
  have := Blk.new (own := PM.ow own3 wr.heap.size k) (k := k) (wr.alloc o1) (.cells #[.int .i64 kd, .int .i64 tt, .int .i64 ch, .int .i64 vv, .int .i64 5, .int .i64 (t : Int), .int .i64 0, .int .i64 0] 57) (ow_ge (by omega))
  rw [hs] at this
  exact this
def alS : Nat → AskV
  | 0 => ⟨1, 1, 1, 7⟩
  | 1 => ⟨2, 1, 1, 8⟩
  | _ => ⟨3, 1, 1, 7⟩
def alM : Nat → RB
  | 0 => List.replicate 2 ([], 0)
  | i + 1 => seqM (alM i) (alS i)
theorem alM_len : ∀ i, (alM i).length = 2
  | 0 => rfl
  | i + 1 => by
    show (seqM (alM i) (alS i)).length = 2
    unfold seqM
    split
    · exact alM_len i
    · rw [effM_len]; exact alM_len i
theorem alM_some (i : Nat) (hi : i < 3) : ((alM i).getD 0 ([], 0)).1.length ≤ 10 ∧ seqG (alM i) (alS i) ≤ 10 := by
  match i, hi with
  | 0, _ => decide
  | 1, _ => decide
  | 2, _ => decide
theorem alM_end : alM 3 = [([8], 3), ([], 0)] := by decide
def AlInv5 (P : LB) (w : World) (own : Nat → Nat) (g : Nat) (iv : Value) (wr : World) : Prop :=
  ∃ i : Nat, iv = .int .i64 i ∧ i + g = 3 ∧ PlMid 100 P (Idle (1 + 500 * i) (alM i) (2 + 10 * i) 500 8) w own wr
set_option maxHeartbeats 4000000 in
theorem alive_any (w : World) : Calls Try.prog 6 #[] w fun e w' => e = .returned (.bool true) ∧ Below w.heap.size w w' := by
  go_enter Try.func6, Try.ntmps6
  go_wp2_with fail
  refine (CoMade_any w 100 500 8 2 (by decide) (by decide) (by decide)).mono ?_
  rintro e w1 ⟨P, own1, rfl, hB1, hown, hL1⟩
  have HB1 := Lib.hid hB1
  have HOWN := Lib.hid hown
  have HL1 := Lib.hid hL1
  have HI1 := Lib.hid (Idle.fresh 500 8 2 (by decide) (by decide) (by decide) (by decide) (by decide) (by decide))
  clear hB1 hown hL1
  go_wp2_with fail
  have HX := Lib.hid (show Ext (fun _ => False) w1 (w1.alloc (.cells #[.int .i64 1, .int .i64 1, .int .i64 1, .int .i64 7, .int .i64 2, .int .i64 1, .int .i64 1, .int .i64 8, .int .i64 3, .int .i64 1, .int .i64 1, .int .i64 7] 57)) own1 (PM.ow own1 w1.heap.size 170) from (Ext.refl.ow 170).alloc _)
  have HB := Lib.hid (Blk.new (own := PM.ow own1 w1.heap.size 170) (k := 170) w1 (.cells #[.int .i64 1, .int .i64 1, .int .i64 1, .int .i64 7, .int .i64 2, .int .i64 1, .int .i64 1, .int .i64 8, .int .i64 3, .int .i64 1, .int .i64 1, .int .i64 7] 57) (ow_ge (Nat.le_refl _)))
  have HL2 := Lib.hid (HL1.out.ext HX.out (fun c h => h.elim))
  generalize hg0 : w1.heap.size = g0 at *
  generalize w1.alloc (.cells #[.int .i64 1, .int .i64 1, .int .i64 1, .int .i64 7, .int .i64 2, .int .i64 1, .int .i64 1, .int .i64 8, .int .i64 3, .int .i64 1, .int .i64 1, .int .i64 7] 57) = w2 at *
  generalize PM.ow own1 g0 170 = own2 at *
  go_loopg [14] 3 (fun g iv wr => AlInv5 P w2 own2 g iv wr)
  case atStart => exact ⟨0, rfl, rfl, _, _, own2, HL2.out, HI1.out, Ext.refl⟩
  case round =>
    obtain ⟨i, rfl, hi, L, ad, own3, hL3, hI3, hE3⟩ := hrel
    have HL3 := Lib.hid hL3
    have HI3 := Lib.hid hI3
    have HE3 := Lib.hid hE3
    have HB3 := Lib.hid (HB.out.ext hE3 (by unfold PlayC; omega))
    clear hL3 hI3 hE3
    by_cases hlt : i < 3
    · have hlt2 : (i : Int) < 3 := by omega
      have hsl := HB3.out.lt
      obtain ⟨kd, vv, hst, d0, d1, d2, d3, hkd1, hkd2⟩ : ∃ kd vv : Int, alS i = ⟨kd, 1, 1, vv⟩ ∧ wr.cell? ⟨g0, i * 4, none⟩ = some (.int .i64 kd) ∧ wr.cell? ⟨g0, i * 4 + 1, none⟩ = some (.int .i64 1) ∧ wr.cell? ⟨g0, i * 4 + 2, none⟩ = some (.int .i64 1) ∧ wr.cell? ⟨g0, i * 4 + 3, none⟩ = some (.int .i64 vv) ∧ 1 ≤ kd ∧ kd ≤ 4 := by
        match i, hlt with
        | 0, _ => exact ⟨1, 7, rfl, HB3.out.cell 0, HB3.out.cell 1, HB3.out.cell 2, HB3.out.cell 3, by decide, by decide⟩
        | 1, _ => exact ⟨2, 8, rfl, HB3.out.cell 4, HB3.out.cell 5, HB3.out.cell 6, HB3.out.cell 7, by decide, by decide⟩
        | 2, _ => exact ⟨3, 7, rfl, HB3.out.cell 8, HB3.out.cell 9, HB3.out.cell 10, HB3.out.cell 11, by decide, by decide⟩
      have hsm := alM_some i hlt
      have HSM := Lib.hid hsm
      have HST := Lib.hid hst
      clear hsm hst
      go_wp2_with fail
      obtain ⟨hX4, hS4⟩ := scr2 wr own3 170 kd 1 1 vv 1 (.cells #[.int .i64 kd, .int .i64 1, .int .i64 1, .int .i64 vv] 57) _ rfl
      have hb0 := CoSeq_any (HL3.out.ext hX4 (fun c h => h.elim)) HI3.out (t := 1) (c := 0) hS4 (by unfold PlayC; omega) (by omega) (by decide) (by decide) rfl ⟨hkd1, hkd2⟩ (by rw [alM_len]; decide) rfl (by decide) (by have := HSM.out.1; omega)
      refine hb0.mono ?_
      rintro e w5 ⟨rfl, L5, ad5, own5, hL5, hI5, hE5⟩
      have HL5 := Lib.hid hL5
      have HE5 := Lib.hid (HE3.out.trans ((hX4.mono (fun c h => h.elim)).trans hE5))
      have HI5 : Hid (Idle (1 + 500 * ((i + 1 : Nat) : Int)) (alM (i + 1)) (2 + 10 * ((i + 1 : Nat) : Int)) 500 8 L5) := Lib.hid (by
        rw [← HST.out] at hI5
        exact hI5.mono (by omega) (by have := HSM.out.2; omega))
      clear hL5 hI5 hE5 hX4 hS4 hb0 d0 d1 d2 d3 hkd1 hkd2 HL3 HI3 HE3 HB3
      go_wp2_with fail
      go_roundg (3 - (i + 1))
      case measure => omega
      case rel => exact ⟨i + 1, by go_num, by omega, L5, ad5, own5, HL5.out, HI5.out, HE5.out⟩
    · obtain rfl : i = 3 := by omega
      have hm3 := HI3.out.m
      rw [alM_end] at hm3
      obtain ⟨mv, hbx, hmv⟩ := HL3.out.box
      have x2 : wr.cell? ⟨P.W, 2, none⟩ = some (.pointer (some ⟨P.b, 0, none⟩)) := hbx.cell 2
      have xl := hbx.lt
      have HLS := Lib.hid (CoShow_any HL3.out (HI3.out.shows HL3.out.arena.1) 0 (by rw [hm3]; decide) ([8], 3) (by simp only [hm3]; rfl))
      clear hbx hmv hm3
      go_wp2_with fail
      refine HLS.out.mono ?_
      rintro e w6 ⟨v, own6, rfl, hv6, hL6, hE6⟩
      obtain ⟨va, vc, rfl, -, hvc⟩ := hv6.open
      obtain ⟨g9, off9, rfl, hg9, hc9⟩ := hvc 0 (by decide)
      have hc9 : w6.cell? ⟨g9, off9, none⟩ = some (.int .i64 8) := hc9
      have hb := HB1.out
      have HF := Lib.hid (show Below w.heap.size w w6 from by
        have e1 : Ext (fun c => c ≠ 0) w1 w6 own1 own6 := (HX.out.mono (fun c h => h.elim)).trans ((HE3.out.mono (fun c h => by unfold PlayC at h; omega)).trans (hE6.mono (fun c h => by unfold PlayC at h; omega)))
        have hs := hb.size
        exact ⟨e1.os.trans hb.os, e1.tape.trans hb.tape, e1.output.trans hb.output, Nat.le_trans hb.size e1.size, fun b hbl => (e1.same b (Nat.lt_of_lt_of_le hbl hs) (by rw [HOWN.out b hbl]; exact fun h => h rfl)).trans (hb.block b hbl)⟩)
      clear hv6 hL6 hE6 hvc HLS hb
      go_wp2_with fail
      go_ret
      exact ⟨rfl, HF.out⟩
end Go.Proofs.Ytefhngbeodnldaa
