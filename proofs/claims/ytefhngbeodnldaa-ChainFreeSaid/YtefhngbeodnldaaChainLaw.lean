/- Layer 5's laws: the law package's world. Printed by gen_chain.py from chainlaw.in. -/
import Derived.Test.YtefhngbeodnldaaChainAlike
set_option maxRecDepth 20000
set_option linter.unusedVariables false
set_option linter.unusedSimpArgs false
namespace Go.Proofs.Ytefhngbeodnldaa
open Go.RowKit Go.PM
/-- What a thread is asked: Kind, T, Chain, V. -/
structure AskV where
  kind : Int
  t : Int
  chain : Int
  v : Int
/-- The law package's world, plain: by threads 0 to 8. -/
structure LV where
  V : AV
  Y : YV
  B : BV
  op : Nat → Option CO
  what : Nat → AskV
  did : Nat → Bool
  m : RB
  want : Nat → AnsV
def ptrs (op : Nat → Option CO) (ad : Nat → Nat) : List Value := (List.range 9).map fun t => .pointer ((op t).map fun _ => ⟨ad t, 0, none⟩)
def asks (f : Nat → AskV) : List Value := (List.range 9).flatMap fun t => [.int .i64 (f t).kind, .int .i64 (f t).t, .int .i64 (f t).chain, .int .i64 (f t).v]
def dids (f : Nat → Bool) : List Value := (List.range 9).map fun t => .bool (f t)
def wants (f : Nat → AnsV) (vs : Nat → Value) : List Value := (List.range 9).flatMap fun t => [.int .i64 (f t).err, .bool (f t).ok, .int .i64 (f t).stamp, vs t]
/-- Where a world's parts lie. -/
structure LB where
  W : Nat
  a : Nat
  y : Nat
  b : Nat
  po : Nat
  pw : Nat
  pd : Nat
  pn : Nat
structure LAt (q : Nat) (P : LB) (L : LV) (ad : Nat → Nat) (w : World) (own : Nat → Nat) : Prop where
  arena : Arena w own (q + 1) P.a L.V
  yard : ∃ ev lw, Yard w own (q + 2) P.y P.a L.Y ev lw
  base : BaseAt w own (q + 3) P.b P.a P.y L.B
  box : ∃ mv, Blk w own (q + 4) P.W (.cells #[.pointer (some ⟨P.a, 0, none⟩), .pointer (some ⟨P.y, 0, none⟩), .pointer (some ⟨P.b, 0, none⟩), .slice (some ⟨P.po, 0, none⟩) 9 9, .slice (some ⟨P.pw, 0, none⟩) 9 9, .slice (some ⟨P.pd, 0, none⟩) 9 9, mv, .slice (some ⟨P.pn, 0, none⟩) 9 9] 37 (0, 0)) ∧ RBAt w (fun g => own g = q + 6) mv L.m
  ops : Blk w own (q + 5) P.po (.cells (ptrs L.op ad).toArray 27 (0, 0))
  what : Blk w own (q + 5) P.pw (.cells (asks L.what).toArray 57 (0, 0))
  did : Blk w own (q + 5) P.pd (.cells (dids L.did).toArray 4 (0, 0))
  want : ∃ vs, Blk w own (q + 5) P.pn (.cells (wants L.want vs).toArray 41 (0, 0)) ∧ ∀ t, t < 9 → VwC w (fun g => own g = q + 6) (vs t) (L.want t).values
  op : ∀ t O, t < 9 → L.op t = some O → CAt w own (q + 10 + 4 * t) (ad t) P.b O
theorem LAt.ext {M : Nat → Prop} {q : Nat} {P : LB} {L : LV} {ad : Nat → Nat} {w w' : World} {own own' : Nat → Nat} (h : LAt q P L ad w own) (e : Ext M w w' own own') (hM : ∀ c, M c → c = q ∨ q + 50 ≤ c) : LAt q P L ad w' own' := by
  obtain ⟨h1, ⟨ev, lw, h2⟩, h3, ⟨mv, h4, h5⟩, h6, h7, h8, ⟨vs, h9, h10⟩, h11⟩ := h
  have hk : ∀ k, q + 1 ≤ k → k < q + 50 → ¬ M k := fun k hk1 hk2 hm => by rcases hM k hm with h | h <;> omega
  have hc : ∀ g, g < w.heap.size → own g = q + 6 → w'.heap[g]? = w.heap[g]? ∧ own' g = q + 6 := fun g hg ho => ⟨e.same g hg (by rw [ho]; exact hk _ (by omega) (by omega)), by rw [e.col g hg]; exact ho⟩
  exact ⟨h1.ext e (hk _ (by omega) (by omega)), ⟨ev, lw, h2.ext e (hk _ (by omega) (by omega))⟩, h3.ext e (hk _ (by omega) (by omega)), ⟨mv, h4.ext e (hk _ (by omega) (by omega)), h5.carry e.size hc⟩, h6.ext e (hk _ (by omega) (by omega)), h7.ext e (hk _ (by omega) (by omega)), h8.ext e (hk _ (by omega) (by omega)),
    ⟨vs, h9.ext e (hk _ (by omega) (by omega)), fun t ht => (h10 t ht).carry e.size hc⟩, fun t O ht ho => (h11 t O ht ho).ext e (fun c h1 h2 => hk c (by omega) (by omega))⟩
section
variable {w : World} {own : Nat → Nat} {q : Nat} {P : LB} {L : LV} {ad : Nat → Nat}
/-- The operation that is asked for. -/
def AskV.op (o : AskV) : CO := if o.kind = 1 then CO.begin o.t o.chain 0 o.v else if o.kind = 2 then CO.begin o.t o.chain 1 o.v else if o.kind = 3 then CO.begin o.t o.chain 2 o.v else CO.begin o.t o.chain 3 0
theorem BgPost.quiet {w1 : World} {k b : Nat} {O O' : CO} {e : Ending} {w' : World} (hB : Below w.heap.size w w1) (h : BgPost w1 k b O e w') (ho : O = O') : BgPost w k b O' e w' := by
  subst ho
  obtain ⟨o, h1, h2, h3, h4⟩ := h
  exact ⟨o, h1, by have := hB.size; omega, hB.trans (h3.mono hB.size), fun own hk => h4 own (fun c hc => hk c (by have := hB.size; omega))⟩
set_option maxHeartbeats 4000000 in
theorem CoBegin_any (h : LAt q P L ad w own) (o : AskV) (k : Nat) : Calls Try.prog 32 #[.pointer (some ⟨P.W, 0, none⟩), .agg #[.int .i64 o.kind, .int .i64 o.t, .int .i64 o.chain, .int .i64 o.v]] w (BgPost w k P.b o.op) := by
  obtain ⟨mv, hbx, -⟩ := h.box
  have x2 : w.cell? ⟨P.W, 2, none⟩ = some (.pointer (some ⟨P.b, 0, none⟩)) := hbx.cell 2
  have xl := hbx.lt
  have HB1 := Lib.hid ((Below.refl w.heap.size w).alloc (Nat.le_refl _) (.cells #[.int .i64 o.kind, .int .i64 o.t, .int .i64 o.chain, .int .i64 o.v] 57))
  have HBN := Lib.hid (fun n => (⟨HB1.out.os, HB1.out.tape, HB1.out.output, HB1.out.size, HB1.out.block⟩ : Below w.heap.size w ((w.alloc (.cells #[.int .i64 o.kind, .int .i64 o.t, .int .i64 o.chain, .int .i64 o.v] 57)).drewN n)))
  clear h hbx
  by_cases h1 : o.kind = 1
  · have HO := Lib.hid (show CO.begin o.t o.chain (if false then 1 else 0) o.v = o.op by unfold AskV.op; rw [if_pos h1]; rfl)
    rw [h1] at HB1 HBN ⊢
    go_enter Try.func32, Try.ntmps32
    go_wp2_with fail
    refine wp_region_plan2 [(true, 0, [1, 2, 3, 10, 11]), (true, 1, [2, 3, 10, 11]), (true, 2, [3, 10, 11]), (true, 3, [10, 11]), (true, 4, [5, 10, 11]), (true, 5, [10, 11]), (true, 6, [7, 10, 11]), (true, 7, [10, 11]), (true, 8, [9, 10, 11]), (true, 9, [10, 11]), (false, 10, []), (true, 11, [])] (by kernel_rfl) (by kernel_rfl) (fun _ _ _ d _ h => by cases d <;> exact h) ?_
    iterate 10 (refine plan_early rfl ?_; still_step; refine wpStill_nil ?_)
    refine plan_big rfl ?_
    go_wp2_with fail
    refine (CoAdd_any P.b o.t o.chain o.v false k).mono ?_
    rintro e w2 hp
    obtain ⟨o2, rfl, h3, h4, h5⟩ := BgPost.quiet (HBN.out 1) hp HO.out
    have HP := Lib.hid (show BgPost w k P.b o.op (.returned (.pointer (some ⟨o2, 0, none⟩))) w2 from ⟨o2, rfl, h3, h4, h5⟩)
    clear hp h3 h4 h5 HBN HB1 x2 xl
    go_wp2_with fail
    iterate 1 (refine plan_early rfl ?_; still_step; refine wpStill_nil ?_)
    refine plan_nil ?_
    go_wp2_with fail
    go_ret
    exact HP.out
  by_cases h2 : o.kind = 2
  · have HO := Lib.hid (show CO.begin o.t o.chain (if true then 1 else 0) o.v = o.op by unfold AskV.op; rw [if_neg h1, if_pos h2]; rfl)
    rw [h2] at HB1 HBN ⊢
    go_enter Try.func32, Try.ntmps32
    go_wp2_with fail
    refine wp_region_plan2 [(true, 0, [1, 2, 3, 10, 11]), (true, 1, [2, 3, 10, 11]), (true, 2, [3, 10, 11]), (true, 3, [10, 11]), (true, 4, [5, 10, 11]), (true, 5, [10, 11]), (true, 6, [7, 10, 11]), (true, 7, [10, 11]), (true, 8, [9, 10, 11]), (true, 9, [10, 11]), (false, 10, []), (true, 11, [])] (by kernel_rfl) (by kernel_rfl) (fun _ _ _ d _ h => by cases d <;> exact h) ?_
    iterate 10 (refine plan_early rfl ?_; still_step; refine wpStill_nil ?_)
    refine plan_big rfl ?_
    go_wp2_with fail
    refine (CoAdd_any P.b o.t o.chain o.v true k).mono ?_
    rintro e w2 hp
    obtain ⟨o2, rfl, h3, h4, h5⟩ := BgPost.quiet (HBN.out 1) hp HO.out
    have HP := Lib.hid (show BgPost w k P.b o.op (.returned (.pointer (some ⟨o2, 0, none⟩))) w2 from ⟨o2, rfl, h3, h4, h5⟩)
    clear hp h3 h4 h5 HBN HB1 x2 xl
    go_wp2_with fail
    iterate 1 (refine plan_early rfl ?_; still_step; refine wpStill_nil ?_)
    refine plan_nil ?_
    go_wp2_with fail
    go_ret
    exact HP.out
  by_cases h3k : o.kind = 3
  · have HO := Lib.hid (show CO.begin o.t o.chain 2 o.v = o.op by unfold AskV.op; rw [if_neg h1, if_neg h2, if_pos h3k])
    rw [h3k] at HB1 HBN ⊢
    go_enter Try.func32, Try.ntmps32
    go_wp2_with fail
    refine wp_region_plan2 [(true, 0, [1, 2, 3, 10, 11]), (true, 1, [2, 3, 10, 11]), (true, 2, [3, 10, 11]), (true, 3, [10, 11]), (true, 4, [5, 10, 11]), (true, 5, [10, 11]), (true, 6, [7, 10, 11]), (true, 7, [10, 11]), (true, 8, [9, 10, 11]), (true, 9, [10, 11]), (false, 10, []), (true, 11, [])] (by kernel_rfl) (by kernel_rfl) (fun _ _ _ d _ h => by cases d <;> exact h) ?_
    iterate 10 (refine plan_early rfl ?_; still_step; refine wpStill_nil ?_)
    refine plan_big rfl ?_
    go_wp2_with fail
    refine (CoCut_any P.b o.t o.chain o.v k).mono ?_
    rintro e w2 hp
    obtain ⟨o2, rfl, h3, h4, h5⟩ := BgPost.quiet (HBN.out 1) hp HO.out
    have HP := Lib.hid (show BgPost w k P.b o.op (.returned (.pointer (some ⟨o2, 0, none⟩))) w2 from ⟨o2, rfl, h3, h4, h5⟩)
    clear hp h3 h4 h5 HBN HB1 x2 xl
    go_wp2_with fail
    iterate 1 (refine plan_early rfl ?_; still_step; refine wpStill_nil ?_)
    refine plan_nil ?_
    go_wp2_with fail
    go_ret
    exact HP.out
  have g1 : (o.kind == 1) = false := by simp [h1]
  have g2 : (o.kind == 2) = false := by simp [h2]
  have g3 : (o.kind == 3) = false := by simp [h3k]
  have HO := Lib.hid (show CO.begin o.t o.chain 3 0 = o.op by unfold AskV.op; rw [if_neg h1, if_neg h2, if_neg h3k])
  generalize o.kind = kd at *
  go_enter Try.func32, Try.ntmps32
  go_wp2_with fail
  refine wp_region_plan2 [(true, 0, [1, 2, 3, 8, 9]), (true, 1, [2, 3, 8, 9]), (true, 2, [3, 8, 9]), (true, 3, [8, 9]), (true, 4, [5, 8, 9]), (true, 5, [8, 9]), (true, 6, [7, 8, 9]), (true, 7, [8, 9]), (false, 8, []), (true, 9, [])] (by kernel_rfl) (by kernel_rfl) (fun _ _ _ d _ h => by cases d <;> exact h) ?_
  iterate 8 (refine plan_early rfl ?_; still_step; refine wpStill_nil ?_)
  refine plan_big rfl ?_
  go_wp2_with fail
  refine (CoAll_any P.b o.t o.chain k).mono ?_
  rintro e w2 hp
  obtain ⟨o2, rfl, h3, h4, h5⟩ := BgPost.quiet (HBN.out 1) hp HO.out
  have HP := Lib.hid (show BgPost w k P.b o.op (.returned (.pointer (some ⟨o2, 0, none⟩))) w2 from ⟨o2, rfl, h3, h4, h5⟩)
  clear hp h3 h4 h5 HBN HB1 x2 xl
  go_wp2_with fail
  iterate 1 (refine plan_early rfl ?_; still_step; refine wpStill_nil ?_)
  refine plan_nil ?_
  go_wp2_with fail
  go_ret
  exact HP.out
end
end Go.Proofs.Ytefhngbeodnldaa
