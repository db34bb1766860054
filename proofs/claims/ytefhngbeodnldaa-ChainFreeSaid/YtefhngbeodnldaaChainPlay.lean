/- Layer 5's laws: a script is played. Printed by gen_chain.py from chainplay.in. -/
import Derived.Test.YtefhngbeodnldaaChainOne
set_option maxRecDepth 20000
set_option linter.unusedVariables false
set_option linter.unusedSimpArgs false
namespace Go.Proofs.Ytefhngbeodnldaa
open Go.RowKit Go.PM
def askL (S : List AskV) : List Value := S.flatMap fun o => [.int .i64 o.kind, .int .i64 o.t, .int .i64 o.chain, .int .i64 o.v]
theorem askL_get : ∀ (S : List AskV) (i : Nat) (hi : i < S.length), (askL S)[i * 4]? = some (.int .i64 S[i].kind) ∧ (askL S)[i * 4 + 1]? = some (.int .i64 S[i].t) ∧ (askL S)[i * 4 + 2]? = some (.int .i64 S[i].chain) ∧ (askL S)[i * 4 + 3]? = some (.int .i64 S[i].v)
  | [], _, hi => by simp at hi
  | o :: S, 0, _ => ⟨rfl, rfl, rfl, rfl⟩
  | o :: S, i + 1, hi => by
    have h := askL_get S i (by simpa using hi)
    have e : ∀ j, (askL (o :: S))[(i + 1) * 4 + j]? = (askL S)[i * 4 + j]? := fun j => by
      show ([Value.int .i64 o.kind, .int .i64 o.t, .int .i64 o.chain, .int .i64 o.v] ++ askL S)[(i + 1) * 4 + j]? = _
      rw [List.getElem?_append_right (by simp; omega)]
      congr 1
      simp
      omega
    have e0 := e 0
    rw [Nat.add_zero, Nat.add_zero] at e0
    rw [e0, e 1, e 2, e 3]
    exact h
/-- A script that lies in one block. -/
def Scr (w : World) (own : Nat → Nat) (k g : Nat) (S : List AskV) : Prop := Blk w own k g (.cells (askL S).toArray 57 (0, 0))
def LV.start (L : LV) (t : Nat) (o : AskV) : LV := { L with op := upd L.op t (some o.op), what := upd L.what t o, did := upd L.did t false }
structure Shows (L : LV) : Prop where
  f : L.V.faults = 0
  blk : L.V.freeErr L.B.block = 0
  chs : L.B.chains = (L.m.length : Nat)
  few : L.m.length ≤ 64
  at_ : ∀ c, c < L.m.length → L.V.val L.B.block ((c : Int) + 1 - 1) = 0 ∧ L.V.find 0 = none ∨ ∃ xs, 0 < L.V.val L.B.block ((c : Int) + 1 - 1) ∧ L.V.find (L.V.val L.B.block ((c : Int) + 1 - 1)) = some xs ∧ 0 < xs.length ∧ xs.length ≤ 300
  ch : ∀ c (hc : c < L.m.length), L.V.chain L.B ((c : Int) + 1) = L.m[c]
structure PlayOk (S : List AskV) (I Mid : Nat → LV → Prop) (J : Nat → Nat → LV → Prop) : Prop where
  ask : ∀ i (hi : i < S.length), 1 ≤ S[i].t ∧ S[i].t ≤ 8 ∧ 1 ≤ S[i].kind ∧ S[i].kind ≤ 5
  run0 : ∀ i (hi : i < S.length) L, I i L → S[i].kind = 5 → J i 0 L
  run : ∀ i (hi : i < S.length) n L O, J i n L → S[i].kind = 5 → L.V.Ok → L.op S[i].t.toNat = some O → n ≤ 40000 ∧ StepOk L S[i].t.toNat O (stO L.V L.Y L.B O) ∧ J i (n + 1) (L.step S[i].t.toNat O)
  runs : ∀ i (hi : i < S.length) n L, J i n L → S[i].kind = 5 → L.op S[i].t.toNat = none → Mid i L
  beg : ∀ i (hi : i < S.length) L, I i L → S[i].kind ≠ 5 → L.op S[i].t.toNat = none → Mid i (L.start S[i].t.toNat S[i])
  busy : ∀ i (hi : i < S.length) L O, I i L → S[i].kind ≠ 5 → L.op S[i].t.toNat = some O → Mid i L
  shows : ∀ i L, Mid i L → L.V.Ok → Shows L
  next : ∀ i L, Mid i L → I (i + 1) L
def PlayC (q c : Nat) : Prop := q ≤ c ∧ c < q + 50
theorem LAt.relist {q : Nat} {P : LB} {L : LV} {ad : Nat → Nat} {w w' : World} {own own' : Nat → Nat} (h : LAt q P L ad w own) (e : Ext (fun c => c = q + 1 ∨ c = q) w w' own own') (hA : Arena w' own' (q + 1) P.a L.V) : LAt q P L ad w' own' := by
  obtain ⟨h1, ⟨ev, lw, h2⟩, h3, ⟨mv, h4, h5⟩, h6, h7, h8, ⟨vs, h9, h10⟩, h11⟩ := h
  have hc : ∀ g, g < w.heap.size → own g = q + 6 → w'.heap[g]? = w.heap[g]? ∧ own' g = q + 6 := fun g hg ho => ⟨e.same g hg (by rw [ho]; omega), by rw [e.col g hg]; exact ho⟩
  exact ⟨hA, ⟨ev, lw, h2.ext e (by omega)⟩, h3.ext e (by omega), ⟨mv, h4.ext e (by omega), h5.carry e.size hc⟩, h6.ext e (by omega), h7.ext e (by omega), h8.ext e (by omega), ⟨vs, h9.ext e (by omega), fun t ht => (h10 t ht).carry e.size hc⟩, fun t O ht ho => (h11 t O ht ho).ext e (fun c h1 h2 => by omega)⟩
theorem step_play {q t c : Nat} (ht : t < 9) (h : c = q ∨ c = q + 1 ∨ c = q + 2 ∨ c = q + 4 ∨ c = q + 5 ∨ OpC (q + 10 + 4 * t) c) : PlayC q c := by
  unfold PlayC
  rcases h with h | h | h | h | h | ⟨h, h2⟩ <;> omega
def PlMid (q : Nat) (P : LB) (R : LV → Prop) (w : World) (own : Nat → Nat) (wx : World) : Prop :=
  ∃ L ad own', LAt q P L ad wx own' ∧ R L ∧ Ext (PlayC q) w wx own own'
def PlInv (q : Nat) (P : LB) (n : Nat) (I : Nat → LV → Prop) (w : World) (own : Nat → Nat) (g : Nat) (iv : Value) (wr : World) : Prop :=
  ∃ i : Nat, iv = .int .i64 i ∧ i + g = n ∧ PlMid q P (I i) w own wr
def PlRun (q : Nat) (P : LB) (J : Nat → LV → Prop) (w : World) (own : Nat → Nat) (g : Nat) (nv : Value) (wr : World) : Prop :=
  ∃ n : Nat, nv = .int .i64 n ∧ n + g = 40001 ∧ PlMid q P (J n) w own wr
def PlShow (q : Nat) (P : LB) (n : Nat) (L : LV) (ad : Nat → Nat) (w : World) (own : Nat → Nat) (g : Nat) (iv : Value) (wr : World) : Prop :=
  ∃ (i : Nat) (own' : Nat → Nat), iv = .int .i64 i ∧ i + g = n ∧ LAt q P L ad wr own' ∧ Ext (PlayC q) w wr own own'
/-- What the beginning of an operation looks at. -/
def PbI (P : LB) (nb t : Nat) (o : AskV) (w : World) : Prop :=
  w.cell? ⟨P.W, 3, none⟩ = some (.slice (some ⟨P.po, 0, none⟩) 9 9) ∧ w.cell? ⟨P.W, 4, none⟩ = some (.slice (some ⟨P.pw, 0, none⟩) 9 9) ∧ w.cell? ⟨P.W, 5, none⟩ = some (.slice (some ⟨P.pd, 0, none⟩) 9 9) ∧ P.W < w.heap.size ∧
  w.cell? ⟨nb, 0, none⟩ = some (.int .i64 o.kind) ∧ w.cell? ⟨nb, 1, none⟩ = some (.int .i64 (t : Int)) ∧ w.cell? ⟨nb, 2, none⟩ = some (.int .i64 o.chain) ∧ w.cell? ⟨nb, 3, none⟩ = some (.int .i64 o.v) ∧ nb < w.heap.size
theorem PbI.of {q : Nat} {P : LB} {L : LV} {ad : Nat → Nat} {w : World} {own : Nat → Nat} {nb t k : Nat} {o : AskV} (h : LAt q P L ad w own) (hb : Blk w own k nb (.cells #[.int .i64 o.kind, .int .i64 (t : Int), .int .i64 o.chain, .int .i64 o.v] 57 (0, 0))) : PbI P nb t o w := by
  obtain ⟨mv, hbx, -⟩ := h.box
  exact ⟨hbx.cell 3, hbx.cell 4, hbx.cell 5, hbx.lt, hb.cell 0, hb.cell 1, hb.cell 2, hb.cell 3, hb.lt⟩
/-- What the stores need. -/
def PbS (P : LB) (t : Nat) (w : World) : Prop :=
  (∃ v, w.cell? ⟨P.po, t, none⟩ = some v) ∧ (∃ v, w.cell? ⟨P.pw, t * 4, none⟩ = some v) ∧ (∃ v, w.cell? ⟨P.pw, t * 4 + 1, none⟩ = some v) ∧ (∃ v, w.cell? ⟨P.pw, t * 4 + 2, none⟩ = some v) ∧ (∃ v, w.cell? ⟨P.pw, t * 4 + 3, none⟩ = some v) ∧ (∃ v, w.cell? ⟨P.pd, t, none⟩ = some v) ∧
  w.frozen? ⟨P.po, t, none⟩ = false ∧ w.frozen? ⟨P.pw, t * 4, none⟩ = false ∧ w.frozen? ⟨P.pw, t * 4 + 1, none⟩ = false ∧ w.frozen? ⟨P.pw, t * 4 + 2, none⟩ = false ∧ w.frozen? ⟨P.pw, t * 4 + 3, none⟩ = false ∧ w.frozen? ⟨P.pd, t, none⟩ = false ∧ P.po < w.heap.size ∧ P.pw < w.heap.size ∧ P.pd < w.heap.size
theorem PbS.of {q : Nat} {P : LB} {L : LV} {ad : Nat → Nat} {w : World} {own : Nat → Nat} {t : Nat} (h : LAt q P L ad w own) (ht : t < 9) : PbS P t w := by
  obtain ⟨h0, h1, h2, h3⟩ := h.whatc ht
  rw [Nat.mul_comm] at h0 h1 h2 h3
  exact ⟨⟨_, h.opc ht⟩, ⟨_, h0⟩, ⟨_, h1⟩, ⟨_, h2⟩, ⟨_, h3⟩, ⟨_, h.didc ht⟩, h.ops.free _, h.what.free _, h.what.free _, h.what.free _, h.what.free _, h.did.free _, h.ops.lt, h.what.lt, h.did.lt⟩
section
variable {w : World} {own : Nat → Nat} {q : Nat} {P : LB} {L : LV} {ad : Nat → Nat}
set_option maxHeartbeats 8000000 in
theorem CoPlay_any (h : LAt q P L ad w own) {S : List AskV} {g k : Nat} (hS : Scr w own k g S) (hk : ¬ PlayC q k) (hlen : S.length ≤ 1000) {I Mid : Nat → LV → Prop} {J : Nat → Nat → LV → Prop} (hP : PlayOk S I Mid J) (h0 : I 0 L) :
    Calls Try.prog 18 #[.pointer (some ⟨P.W, 0, none⟩), .slice (some ⟨g, 0, none⟩) S.length S.length] w fun e w' => e = .returned (.bool true) ∧ PlMid q P (I S.length) w own w' := by
  have HP := Lib.hid hP
  have HS := Lib.hid hS
  have H0 : Hid (PlMid q P (I 0) w own w) := Lib.hid ⟨L, ad, own, h, h0, Ext.refl⟩
  have hgl : g < w.heap.size := Blk.lt hS
  clear h h0 hP hS
  go_enter Try.func18, Try.ntmps18
  go_wp2_with fail
  go_loopg [13] S.length (fun g iv wr => PlInv q P S.length I w own g iv wr)
  case atStart => exact ⟨0, rfl, by omega, H0.out⟩
  case round =>
    clear H0
    obtain ⟨i, rfl, hi, L, ad, own1, hL, hI, hE⟩ := hrel
    have HL := Lib.hid hL
    have HI := Lib.hid hI
    have HE := Lib.hid hE
    clear hL hI hE
    by_cases hlt : i < S.length
    · have hlt2 : (i : Int) < (S.length : Int) := by omega
      have hsc := Blk.ext HS.out HE.out hk
      obtain ⟨c0, c1, c2, c3⟩ := askL_get S i hlt
      have d0 := (hsc.cell (i * 4)).trans ((List.getElem?_toArray ..).trans c0)
      have d1 := (hsc.cell (i * 4 + 1)).trans ((List.getElem?_toArray ..).trans c1)
      have d2 := (hsc.cell (i * 4 + 2)).trans ((List.getElem?_toArray ..).trans c2)
      have d3 := (hsc.cell (i * 4 + 3)).trans ((List.getElem?_toArray ..).trans c3)
      have hsl := hsc.lt
      obtain ⟨k1, k2, k3, k4⟩ := HP.out.ask i hlt
      obtain ⟨t, ht⟩ := Int.eq_ofNat_of_zero_le (show 0 ≤ S[i].t by omega)
      have htn : S[i].t.toNat = t := by omega
      have HR0 := Lib.hid (HP.out.run0 i hlt)
      have HRUN := Lib.hid (HP.out.run i hlt)
      have HRUNS := Lib.hid (HP.out.runs i hlt)
      have HBEG := Lib.hid (HP.out.beg i hlt)
      have HBUSY := Lib.hid (HP.out.busy i hlt)
      rw [htn] at HRUN HRUNS HBEG HBUSY
      generalize hSi : S[i] = o at *
      clear c0 c1 c2 c3 hsc htn hSi
      have ht9 : t < 9 := by omega
      rw [ht] at d1
      have HB := Lib.hid (Blk.new (own := PM.ow own1 wr.heap.size (q + 60)) (k := q + 60) wr (.cells #[.int .i64 o.kind, .int .i64 (t : Int), .int .i64 o.chain, .int .i64 o.v] 57) (ow_ge (Nat.le_refl _)))
      have HX := Lib.hid (show Ext (fun _ => False) wr (wr.alloc (.cells #[.int .i64 o.kind, .int .i64 (t : Int), .int .i64 o.chain, .int .i64 o.v] 57)) own1 (PM.ow own1 wr.heap.size (q + 60)) from (Ext.refl.ow (q + 60)).alloc _)
      have HLA := Lib.hid (HL.out.ext HX.out (fun c h => h.elim))
      have HEA := Lib.hid (HE.out.trans (HX.out.mono (fun c h => h.elim)))
      clear HL HE HX
      go_upto_region 4 with fail
      clear d0 d1 d2 d3
      generalize hnb : wr.heap.size = nb at *
      generalize wr.alloc (.cells #[.int .i64 o.kind, .int .i64 (t : Int), .int .i64 o.chain, .int .i64 o.v] 57) = wa at *
      generalize PM.ow own1 nb (q + 60) = own2 at *
      have t1 : (1 : Int) ≤ (t : Int) := by omega
      have t8 : (t : Int) ≤ 8 := by omega
      have t0 : (0 : Int) ≤ (t : Int) := by omega
      have t9 : (t : Int) < 9 := by omega
      have b0 : wa.cell? ⟨nb, 0, none⟩ = some (.int .i64 o.kind) := HB.out.cell 0
      have b1 : wa.cell? ⟨nb, 1, none⟩ = some (.int .i64 (t : Int)) := HB.out.cell 1
      have bl := HB.out.lt
      have kz : (o.kind == 0) = false := by rw [beq_eq_false_iff_ne]; omega
      obtain ⟨bk, hbk⟩ : ∃ bk, (o.kind == 5) = bk := ⟨_, rfl⟩
      go_upto_region 5 with fail
      go_upto_if 32 with fail
      have HBK := Lib.hid hbk
      clear hbk
      go_cut [] (fun wx => PlMid q P (Mid i) w own wx)
      case first =>
        cases bk with
        | true =>
          have hk5 : o.kind = 5 := by have := HBK.out; simpa using this
          have HJ0 : Hid (PlRun q P (J i) wa own2 40001 (.int .i64 0) wa) := Lib.hid ⟨0, rfl, rfl, L, ad, own2, HLA.out, HR0.out L HI.out hk5, Ext.refl⟩
          have HK5 := Lib.hid hk5
          clear b0 b1 bl HLA HI hk5
          go_wp2_with fail
          go_loopg [7] 40001 (fun g nv wr => PlRun q P (J i) wa own2 g nv wr)
          case atStart => exact HJ0.out
          case round =>
            clear HJ0
            obtain ⟨n, rfl, hn, L1, ad1, own4, hL1, hJ1, hE1⟩ := hrel
            have HL1 := Lib.hid hL1
            have HJ1 := Lib.hid hJ1
            have HE1 := Lib.hid hE1
            clear hL1 hJ1 hE1
            have HB1 := Lib.hid (HB.out.ext HE1.out (by unfold PlayC; omega))
            obtain ⟨x3, x4, x5, xl, b0, b1, b2, b3, bl⟩ := PbI.of HL1.out HB1.out
            have p0 := HL1.out.opc ht9
            have HQ := Lib.hid (fun n => HL1.out.ext (M := fun _ => False) (Ext.refl.drewN n) (fun c h => h.elim))
            have HQE := Lib.hid (fun n => HE1.out.drewN n)
            have HQB := Lib.hid (fun n => HB1.out.drewN n)
            cases hop : L1.op t with
            | none =>
              rw [hop] at p0
              replace p0 : wr.cell? ⟨P.po, t, none⟩ = some (.pointer none) := p0
              have HM := Lib.hid (show ∀ m, PlMid q P (Mid i) w own (wr.drewN m) from fun m => ⟨L1, ad1, own4, HQ.out m, HRUNS.out n L1 HJ1.out HK5.out hop, HEA.out.trans (HQE.out m)⟩)
              clear hop
              go_upto_region 7 with fail
              go_quiet (fail)
              go_wp2_with fail
              go_meet
              exact HM.out _
            | some O =>
              rw [hop] at p0
              replace p0 : wr.cell? ⟨P.po, t, none⟩ = some (.pointer (some ⟨ad1 t, 0, none⟩)) := p0
              have hrun := HRUN.out n L1 O HJ1.out HK5.out HL1.out.arena.1 hop
              obtain ⟨hn4, hok, hJ2⟩ := hrun
              have HOK := Lib.hid hok
              have HJ2 := Lib.hid hJ2
              have HOP := Lib.hid hop
              clear hop hok hJ2
              go_upto_region 7 with fail
              go_quiet (fail)
              have HL5 := Lib.hid (HQ.out nq)
              have HE5 := Lib.hid (HQE.out nq)
              have HB5 := Lib.hid (HQB.out nq)
              clear x3 x4 x5 xl b0 b1 b2 b3 bl p0 HL1 HE1 HB1 HQ HQE HQB HJ1
              go_upto_region 9 with fail
              generalize wr.drewN nq = wq at *
              obtain ⟨x3, x4, x5, xl, b0, b1, b2, b3, bl⟩ := PbI.of HL5.out HB5.out
              have hn40 : ¬ ((40000 : Int) < (n : Int)) := by omega
              go_wp2_with fail
              refine (CoOne_any HL5.out ht9 HOP.out HOK.out).mono ?_
              rintro e w6 ⟨rfl, own6, hL6, hE6⟩
              have HE6 := Lib.hid (HE5.out.trans (hE6.mono (M' := PlayC q) (fun c h => step_play ht9 h)))
              have HL6 := Lib.hid hL6
              have HB6 := Lib.hid (HB.out.ext HE6.out (by unfold PlayC; omega))
              clear hL6 hE6 HL5 HE5 HB5 x3 x4 x5 xl b0 b1 b2 b3 bl HOP HOK
              obtain ⟨x3, x4, x5, xl, b0, b1, b2, b3, bl⟩ := PbI.of HL6.out HB6.out
              go_wp2_with fail
              go_roundg (40001 - (n + 1))
              case measure => omega
              case rel => exact ⟨n + 1, by go_num, by omega, L1.step t O, ad1, own6, HL6.out, HJ2.out, HE6.out⟩
        | false =>
          have hk5 : o.kind ≠ 5 := by have := HBK.out; simpa using this
          obtain ⟨x3, x4, x5, x7, xl, y0, y1, y2, y3, yl, z0, zl1, zl2, zl3⟩ := HLA.out.look ht9
          have p0 := HLA.out.opc ht9
          have HQ := Lib.hid (fun n => HLA.out.ext (M := fun _ => False) (Ext.refl.drewN n) (fun c h => h.elim))
          have HQE := Lib.hid (fun n => HEA.out.drewN n)
          have HQB := Lib.hid (fun n => HB.out.drewN n)
          cases hop : L.op t with
          | some O =>
            rw [hop] at p0
            replace p0 : wa.cell? ⟨P.po, t, none⟩ = some (.pointer (some ⟨ad t, 0, none⟩)) := p0
            have HM := Lib.hid (show ∀ n, PlMid q P (Mid i) w own (wa.drewN n) from fun n => ⟨L, ad, own2, HQ.out n, HBUSY.out L O HI.out hk5 hop, HQE.out n⟩)
            clear hop
            go_upto_region 12 with fail
            go_quiet (fail)
            go_wp2_with fail
            go_meet
            exact HM.out _
          | none =>
            rw [hop] at p0
            replace p0 : wa.cell? ⟨P.po, t, none⟩ = some (.pointer none) := p0
            have HMID := Lib.hid (HBEG.out L HI.out hk5 hop)
            have k0 : (0 : Int) < o.kind := by omega
            have k5 : o.kind < 5 := by omega
            clear hop
            go_upto_region 12 with fail
            go_quiet (fail)
            go_upto_region 13 with fail
            have HLB := Lib.hid (HQ.out nq)
            have HEB := Lib.hid (HQE.out nq)
            have HBB := Lib.hid (HQB.out nq)
            clear x3 x4 x5 x7 xl y0 y1 y2 y3 yl z0 zl1 zl2 zl3 p0 b0 b1 bl HQ HQE HQB HLA HEA HB
            generalize wa.drewN nq = wb at *
            have HLD := Lib.hid (HLB.out.ext (M := fun _ => False) (show Ext (fun _ => False) wb wb.drew own2 own2 from Ext.refl.drew) (fun c h => h.elim))
            have HBD := Lib.hid HBB.out.drew
            have HED := Lib.hid HEB.out.drew
            clear HLB HEB HBB
            refine wp_region_plan5 [.early 0 [1, 2, 3, 9, 10], .early 1 [2, 3, 9, 10], .early 2 [3, 9, 10], .early 3 [9, 10], .early 4 [5, 9, 10], .early 5 [9, 10], .early 6 [8, 9, 10], .early 7 [8, 9, 10], .big 8, .early 9 [10], .big 10] 10 (PbI P nb t o) (by kernel_rfl) (by kernel_rfl) (fun _ _ _ d _ h => by cases d <;> exact h) ((PbI.of HLD.out HBD.out)) ?_
            generalize wb.drew = wd at *
            iterate 8
              apply plan5_early
              case hi => rfl
              case h =>
                intro w9 hf
                obtain ⟨x3, x4, x5, xl, b0, b1, b2, b3, bl⟩ := hf
                still_step
                exact wpStill_nil rfl
            refine plan5_big rfl ?_
            have hbg := CoBegin_any HLD.out o (q + 10 + 4 * t)
            rw [ht] at hbg
            have HBG := Lib.hid hbg
            clear hbg
            go_wp2_with fail
            refine HBG.out.mono ?_
            rintro e w2 ⟨o2, rfl, ho2, hB2, hC2⟩
            have HX2 := Lib.hid (Ext.of_below (M := fun _ => False) hB2 own2 (q + 10 + 4 * t))
            have HC2 := Lib.hid (hC2 (PM.ow own2 wd.heap.size (q + 10 + 4 * t)) (fun c hc => ow_ge hc))
            have HL2 := Lib.hid (HLD.out.ext HX2.out (fun c h => h.elim))
            have HB2 := Lib.hid (HBD.out.ext HX2.out (fun h => h))
            have HE2 := Lib.hid (HED.out.trans (HX2.out.mono (fun c h => h.elim)))
            clear ho2 hB2 hC2 HBG HX2 HLD HBD HED
            generalize PM.ow own2 wd.heap.size (q + 10 + 4 * t) = own3 at *
            go_wp2_with fail
            refine ⟨fun _ => PbI.of HL2.out HB2.out, ?_⟩
            iterate 1
              apply plan5_early
              case hi => rfl
              case h =>
                intro w9 hf
                obtain ⟨x3, x4, x5, xl, b0, b1, b2, b3, bl⟩ := hf
                still_step
                exact wpStill_nil rfl
            refine plan5_big rfl ?_
            obtain ⟨⟨u0, v0⟩, ⟨u1, v1⟩, ⟨u2, v2⟩, ⟨u3, v3⟩, ⟨u4, v4⟩, ⟨u5, v5⟩, f0, f1, f2, f3, f4, f5, l0, l1, l2⟩ := PbS.of HL2.out ht9
            go_wp2_with fail
            refine ⟨fun h => absurd rfl h, ?_⟩
            refine plan5_nil ?_
            clear u0 v0 u1 v1 u2 v2 u3 v3 u4 v4 u5 v5 f0 f1 f2 f3 f4 f5 l0 l1 l2
            have HP3 := Lib.hid (HL2.out.putOp ht9 HC2.out)
            have HB3 := Lib.hid (HB2.out.setCell_other (a := ⟨P.po, t, none⟩) (HB2.out.ne HL2.out.ops (by omega)) (.pointer (some ⟨o2, 0, none⟩)))
            go_upto_region 14 with fail
            generalize w2.setCell ⟨P.po, t, none⟩ (.pointer (some ⟨o2, 0, none⟩)) = w3 at *
            have HL3 := Lib.hid (HP3.out.1.ext (M := fun _ => False) (show Ext (fun _ => False) w3 w3.drew own3 own3 from Ext.refl.drew) (fun c h => h.elim))
            have HE3 := Lib.hid ((HE2.out.trans (HP3.out.2.mono (fun c h => (⟨by omega, by omega⟩ : PlayC q c)))).drew)
            have HB3d := Lib.hid HB3.out.drew
            clear HP3 HL2 HB2 HE2 HB3 HC2
            refine wp_region_plan5 [.early 0 [1, 2, 3, 7, 8], .early 1 [2, 3, 7, 8], .early 2 [3, 7, 8], .early 3 [7, 8], .early 4 [5, 7, 8], .early 5 [7, 8], .early 6 [7, 8], .early 7 [8], .big 8] 8 (PbI P nb t o) (by kernel_rfl) (by kernel_rfl) (fun _ _ _ d _ h => by cases d <;> exact h) ((PbI.of HL3.out HB3d.out)) ?_
            generalize w3.drew = we at *
            iterate 8
              apply plan5_early
              case hi => rfl
              case h =>
                intro w9 hf
                obtain ⟨x3, x4, x5, xl, b0, b1, b2, b3, bl⟩ := hf
                still_step
                exact wpStill_nil rfl
            refine plan5_big rfl ?_
            obtain ⟨⟨u0, v0⟩, ⟨u1, v1⟩, ⟨u2, v2⟩, ⟨u3, v3⟩, ⟨u4, v4⟩, ⟨u5, v5⟩, f0, f1, f2, f3, f4, f5, l0, l1, l2⟩ := PbS.of HL3.out ht9
            go_wp2_with fail
            refine ⟨fun h => absurd rfl h, ?_⟩
            refine plan5_nil ?_
            clear u0 v0 u1 v1 u2 v2 u3 v3 u4 v4 u5 v5 f0 f1 f2 f3 f4 f5 l0 l1 l2
            have hpw := HL3.out.putWhat o ht9
            rw [Nat.mul_comm 4 t, ht] at hpw
            have HP4 : Hid (LAt q P { L with op := upd L.op t (some o.op), what := upd L.what t o } (upd ad t o2) ((((we.setCell ⟨P.pw, t * 4, none⟩ (.int .i64 o.kind)).setCell ⟨P.pw, t * 4 + 1, none⟩ (.int .i64 (t : Int))).setCell ⟨P.pw, t * 4 + 2, none⟩ (.int .i64 o.chain)).setCell ⟨P.pw, t * 4 + 3, none⟩ (.int .i64 o.v)) own3 ∧
              Ext (fun c => c = q + 5) we ((((we.setCell ⟨P.pw, t * 4, none⟩ (.int .i64 o.kind)).setCell ⟨P.pw, t * 4 + 1, none⟩ (.int .i64 (t : Int))).setCell ⟨P.pw, t * 4 + 2, none⟩ (.int .i64 o.chain)).setCell ⟨P.pw, t * 4 + 3, none⟩ (.int .i64 o.v)) own3 own3) := Lib.hid hpw
            have HB4 : Hid (Blk ((((we.setCell ⟨P.pw, t * 4, none⟩ (.int .i64 o.kind)).setCell ⟨P.pw, t * 4 + 1, none⟩ (.int .i64 (t : Int))).setCell ⟨P.pw, t * 4 + 2, none⟩ (.int .i64 o.chain)).setCell ⟨P.pw, t * 4 + 3, none⟩ (.int .i64 o.v)) own3 (q + 60) nb (.cells #[.int .i64 o.kind, .int .i64 (t : Int), .int .i64 o.chain, .int .i64 o.v] 57 (0, 0))) := Lib.hid (HB3d.out.ext HP4.out.2 (by omega))
            clear hpw
            go_upto_region 15 with fail
            generalize ((((we.setCell ⟨P.pw, t * 4, none⟩ (.int .i64 o.kind)).setCell ⟨P.pw, t * 4 + 1, none⟩ (.int .i64 (t : Int))).setCell ⟨P.pw, t * 4 + 2, none⟩ (.int .i64 o.chain)).setCell ⟨P.pw, t * 4 + 3, none⟩ (.int .i64 o.v)) = w4 at *
            have HL4 := Lib.hid (HP4.out.1.ext (M := fun _ => False) (show Ext (fun _ => False) w4 w4.drew own3 own3 from Ext.refl.drew) (fun c h => h.elim))
            have HE4 := Lib.hid ((HE3.out.trans (HP4.out.2.mono (fun c h => (⟨by omega, by omega⟩ : PlayC q c)))).drew)
            have HB4d := Lib.hid HB4.out.drew
            clear HP4 HL3 HE3 HB3d HB4
            refine wp_region_plan5 [.early 0 [1, 2, 3, 6, 7], .early 1 [2, 3, 6, 7], .early 2 [3, 6, 7], .early 3 [6, 7], .early 4 [5, 6, 7], .early 5 [6, 7], .early 6 [7], .big 7] 7 (PbI P nb t o) (by kernel_rfl) (by kernel_rfl) (fun _ _ _ d _ h => by cases d <;> exact h) ((PbI.of HL4.out HB4d.out)) ?_
            generalize w4.drew = wg at *
            iterate 7
              apply plan5_early
              case hi => rfl
              case h =>
                intro w9 hf
                obtain ⟨x3, x4, x5, xl, b0, b1, b2, b3, bl⟩ := hf
                still_step
                exact wpStill_nil rfl
            refine plan5_big rfl ?_
            obtain ⟨⟨u0, v0⟩, ⟨u1, v1⟩, ⟨u2, v2⟩, ⟨u3, v3⟩, ⟨u4, v4⟩, ⟨u5, v5⟩, f0, f1, f2, f3, f4, f5, l0, l1, l2⟩ := PbS.of HL4.out ht9
            go_wp2_with fail
            refine ⟨fun h => absurd rfl h, ?_⟩
            refine plan5_nil ?_
            clear u0 v0 u1 v1 u2 v2 u3 v3 u4 v4 u5 v5 f0 f1 f2 f3 f4 f5 l0 l1 l2
            have HP5 := Lib.hid (HL4.out.putDid false ht9)
            have HB5 := Lib.hid (HB4d.out.ext HP5.out.2 (by omega))
            go_upto_region 16 with fail
            generalize wg.setCell ⟨P.pd, t, none⟩ (.bool false) = w5 at *
            obtain ⟨x3, x4, x5, xl, b0, b1, b2, b3, bl⟩ := PbI.of HP5.out.1 HB5.out
            have p0 := HP5.out.1.opc ht9
            replace p0 : w5.cell? ⟨P.po, t, none⟩ = some (.pointer (some ⟨o2, 0, none⟩)) := by
              rw [p0]
              show some (Value.pointer ((upd L.op t (some o.op) t).map fun _ => ⟨upd ad t o2 t, 0, none⟩)) = _
              rw [upd_same, upd_same]
              rfl
            have HM := Lib.hid (show ∀ n, PlMid q P (Mid i) w own (w5.drewN n) from fun n => ⟨L.start t o, upd ad t o2, own3, HP5.out.1.ext (M := fun _ => False) (Ext.refl.drewN n) (fun c h => h.elim), HMID.out, (HE4.out.trans (HP5.out.2.mono (fun c h => (⟨by omega, by omega⟩ : PlayC q c)))).drewN n⟩)
            clear HP5 HB5 HL4 HE4 HB4d HMID
            go_quiet (fail)
            go_wp2_with fail
            go_meet
            exact HM.out _
      case rest =>
        obtain ⟨L1, ad1, own4, hL1, hM1, hE1⟩ := hcut
        have HL1 := Lib.hid hL1
        have HM1 := Lib.hid hM1
        have HE1 := Lib.hid hE1
        have HSH := Lib.hid (HP.out.shows i L1 hM1 hL1.arena.1)
        have HNX := Lib.hid (HP.out.next i L1 hM1)
        clear hL1 hM1 hE1 HR0 HRUN HRUNS HBEG HBUSY HBK HB HLA HEA HI b0 b1 bl
        obtain ⟨mv, hbx, hmv⟩ := HL1.out.box
        obtain ⟨ma, mc, rfl⟩ := hmv.shape
        have x6 : wc.cell? ⟨P.W, 6, none⟩ = some (.slice ma L1.m.length mc) := hbx.cell 6
        have xl := hbx.lt
        clear hbx hmv
        go_wp2_with fail
        go_loopg [114] L1.m.length (fun g iv wr => PlShow q P L1.m.length L1 ad1 w own g iv wr)
        case atStart => exact ⟨0, own4, rfl, by omega, HL1.out, HE1.out⟩
        case round =>
          obtain ⟨j, own5, rfl, hj, hL5, hE5⟩ := hrel
          have HL5 := Lib.hid hL5
          have HE5 := Lib.hid hE5
          clear hL5 hE5 x6 xl
          obtain ⟨mv5, hbx5, hmv5⟩ := HL5.out.box
          obtain ⟨ma5, mc5, rfl⟩ := hmv5.shape
          have x0 : wr.cell? ⟨P.W, 0, none⟩ = some (.pointer (some ⟨P.a, 0, none⟩)) := hbx5.cell 0
          have x2 : wr.cell? ⟨P.W, 2, none⟩ = some (.pointer (some ⟨P.b, 0, none⟩)) := hbx5.cell 2
          have xl := hbx5.lt
          have hmf : L1.m.length ≤ 64 := HSH.out.few
          clear hbx5 hmv5
          by_cases hjl : j < L1.m.length
          · have hjl2 : (j : Int) < (L1.m.length : Int) := by omega
            have hls := CoList_any HL5.out.arena HL5.out.base (by rw [HSH.out.f]; decide) ((j : Int) + 1) (by omega) (by rw [HSH.out.chs]; omega) (by rw [HSH.out.chs]; omega) HSH.out.blk (HSH.out.at_ j hjl)
            rw [HSH.out.ch j hjl] at hls
            have HLS := Lib.hid hls
            clear hls
            go_upto_region 20 with fail
            go_wp2_with fail
            refine HLS.out.mono ?_
            rintro e w6 ⟨v, own6, rfl, hv6, hA6, hE6⟩
            have HL6 := Lib.hid (HL5.out.relist hE6 hA6)
            have HE6 := Lib.hid (HE5.out.trans (hE6.mono (M' := PlayC q) (fun c h => by unfold PlayC; omega)))
            obtain ⟨va, vc, rfl, -, -⟩ := hv6.open
            have HV6 := Lib.hid hv6
            clear hv6 hA6 hE6 HL5 HE5 HLS x0 x2 xl
            obtain ⟨mv6, hbx6, hmv6⟩ := HL6.out.box
            obtain ⟨ma6, mc6, rfl⟩ := hmv6.shape
            obtain ⟨g6, lv6, rfl, hg6, hcg6, c0, c1, hlv⟩ := RBAt.get hmv6 hjl
            obtain ⟨la, lc, rfl⟩ := hlv.shape
            have x6 : w6.cell? ⟨P.W, 6, none⟩ = some (.slice (some ⟨g6, 0, none⟩) L1.m.length mc6) := hbx6.cell 6
            have xl := hbx6.lt
            have HSL := Lib.hid (SameLongs_any HV6.out hlv.vw)
            rw [show decide (L1.m[j].1 = L1.m[j].1) = true from by simp] at HSL
            have hst : (L1.m[j].2 != L1.m[j].2) = false := by simp
            clear hbx6 hmv6 hlv hcg6
            generalize L1.m[j].2 = st at *
            generalize L1.m[j].1 = ls at *
            by_cases hj4 : (j : Int) < 4
            · go_wp2_with fail
              refine HSL.out.mono ?_
              rintro e w7 ⟨rfl, hB7⟩
              have HX7 := Lib.hid (ext_same (M := fun _ => False) own6 hB7)
              have HL7 := Lib.hid (HL6.out.ext HX7.out (fun c h => h.elim))
              have HE7 := Lib.hid (HE6.out.trans (HX7.out.mono (fun c h => h.elim)))
              clear hB7 HX7
              go_wp2_with fail
              go_roundg (L1.m.length - (j + 1))
              case measure => omega
              case rel => exact ⟨j + 1, own6, by go_num, by omega, HL7.out, HE7.out⟩
            · go_wp2_with fail
              go_roundg (L1.m.length - (j + 1))
              case measure => omega
              case rel => exact ⟨j + 1, own6, by go_num, by omega, HL6.out, HE6.out⟩
          · obtain rfl : j = L1.m.length := by omega
            have HFA := Lib.hid (Faults_any HL5.out.arena)
            rw [HSH.out.f] at HFA
            go_wp2_with fail
            refine HFA.out.mono ?_
            rintro e w7 ⟨rfl, hw7⟩
            subst hw7
            go_wp2_with fail
            go_roundg (S.length - (i + 1))
            case measure => omega
            case rel => exact ⟨i + 1, by go_num, by omega, L1, ad1, own5, HL5.out, HNX.out, HE5.out⟩
    · obtain rfl : i = S.length := by omega
      go_wp2_with fail
      go_ret
      exact ⟨rfl, L, ad, own1, HL.out, HI.out, HE.out⟩
end
end Go.Proofs.Ytefhngbeodnldaa
