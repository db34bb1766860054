/- Layer 5, plain: the steps that read, decide, take effect, retire, enter and leave. No program in sight. -/
import Derived.Test.YtefhngbeodnldaaChainInv3
set_option linter.unusedVariables false
set_option linter.unusedSimpArgs false
namespace Go.Proofs.Ytefhngbeodnldaa
open Go.RowKit Go.PM
section
variable {M : Nat} {N : Int} {r : Int → Role} {ks : List Int} {L : LV} {t : Nat} {O : CO}
theorem HeldAt.known (h : GI M N r ks L) {c : Nat} (hc : c < L.m.length) (hch : O.chain = (c : Int) + 1) (ho : O.old = ks.getD c 0) : (O.old = 0 → (L.m.getD c ([], 0)) = ([], 0)) ∧ (O.old ≠ 0 → HeldAt M N L.V L.Y r O ((L.m.getD c ([], 0)).2 :: (L.m.getD c ([], 0)).1)) := by
  have hk := h.ch c hc
  rw [← ho] at hk
  rcases hk with ⟨h1, h2⟩ | ⟨h1, h2, h3, h4, h5, h6⟩
  · exact ⟨fun _ => h2, fun hn => absurd h1 hn⟩
  · refine ⟨fun he => by omega, fun _ => ⟨h1, h2, .inl ?_, fun p hp he => ?_, by simp, by rw [List.length_cons]; omega, h5, h6⟩⟩
    · rw [h3]; congr 1; omega
    · have := (h.lim p hp).1
      rw [he, h3] at this
      cases this
/-- A step that may sweep. -/
theorem GI.swept_step (h : GI M N r ks L) (ht : t < 9) (ho : L.op t = some O) {O' : CO} {V' : AV} {Y' : YV} (hs : Swept N r L.V L.Y V' Y') {did' : Nat → Bool} {want' : Nat → AnsV} (hd : ∀ t2, t2 ≠ t → did' t2 = L.did t2) (hw : ∀ t2, t2 ≠ t → want' t2 = L.want t2)
    (own : OpI M (N + 1) V' Y' r L.m.length t (L.what t) (did' t) (want' t) O') : GI M (N + 1) r ks { L with V := V', Y := Y', m := L.m, op := upd L.op t (some O'), did := did', want := want' } := by
  have hsn : ∀ t : Nat, Y'.since t = L.Y.since t := fun t => by unfold YV.since; rw [hs.ent]
  exact h.put (by omega) ht (hs.bd.mono (by omega)) hs.bound (by rw [hs.faults]; exact h.f0) (by rw [hs.ent]; exact h.ent) (fun p hp => by rw [hs.now]; exact h.lim p (hs.lim p hp)) (fun t ht => by rw [hsn, hs.now]; exact h.snow t ht)
    (by rw [hs.find _ (by rw [h.blkr]; intro h; cases h)]; exact h.blk) h.blkr h.len rfl (fun c hc => (h.ch c hc).mono (by omega) fun K _ h1 h2 => ⟨by rw [hs.find _ (by rw [h2]; intro h; cases h)]; exact h1, h2⟩)
    (fun t2 _ => hs.env t2) hd hw (h.op t O ht ho).1 (fun O2 h2 => by cases h2; exact own) (fun h => by cases h)
theorem upd_at {α : Type} (f : Nat → α) (t : Nat) (x : α) : ∀ t2, t2 ≠ t → upd f t x t2 = f t2 := fun t2 h => upd_ne f x h
theorem Swept.since {V V' : AV} {Y Y' : YV} (hs : Swept N r V Y V' Y') (t : Int) : Y'.since t = Y.since t := by unfold YV.since; rw [hs.ent]
/-- Reading a number, the last one with a decision. -/
theorem GI.step3 (h : GI M N r ks L) (hN : N < 100000000000000) (ht : t < 9) (ho : L.op t = some O) (n : O.next = 3) : StepsTo M N L t O := by
  have hso := h.stok hN ht ho
  obtain ⟨t1, hp⟩ := h.op t O ht ho
  obtain ⟨a1, a2, a3, a4, a5, a6, a7, a8, a9, av, st⟩ := hp
  cases st with
  | s3 K n2 d f hh fd lt ct al =>
    have hv : L.V.val O.old (O.found.length : Nat) = K[O.found.length] := AV.val_hit hh.find lt
    have hr : readO L.V O = { O with found := O.found ++ [K[O.found.length]] } := by unfold readO; rw [hv]
    have htk : O.found ++ [K[O.found.length]] = K.take (O.found.length + 1) := by rw [List.take_succ_eq_append_getElem lt, ← fd]
    have hlen : (O.found ++ [K[O.found.length]]).length = O.found.length + 1 := by simp
    have hl2 := hh.l2
    have hm := h.m200
    by_cases hl : O.found.length + 1 = K.length
    · have hc : ((readO L.V O).found.length : Int) = O.count := by rw [hr, ct]; show ((O.found ++ [K[O.found.length]]).length : Int) = _; rw [hlen]; omega
      have hfd : (readO L.V O).found = K := by rw [hr]; show O.found ++ [K[O.found.length]] = K; rw [htk, hl, List.take_length]
      have eV : stV L.V L.Y L.B O = decV L.V L.Y (readO L.V O) := by simp only [stV, n]; unfold read2V; rw [if_pos hc, AV.touch_hit hh.find]; rfl
      have eY : stY L.V L.Y L.B O = decY L.Y (readO L.V O) := by simp only [stY, n]; unfold read2Y; rw [if_pos hc]; rfl
      have eO : stO L.V L.Y L.B O = decO L.V L.Y (readO L.V O) := by simp only [stO, n]; unfold read2O; rw [if_pos hc, AV.touch_hit hh.find]; rfl
      have hsw := h.bd.dec (r := r) (fun p hp => (h.lim p hp).1) (readO L.V O)
      have hD := dec_out (t := t) (A := L.what t) (m := L.m.length) (want := L.want t) (O := readO L.V O) (K := K) rfl rfl h.bd (fun p hp => (h.lim p hp).1) hm a1 a2 a4 a5 (Held.as (O' := readO L.V O) (Or.inr hh) rfl rfl rfl) (a7 (by omega)).1 hfd f d al a9 av
      have hmv : OpI M (N + 1) (decV L.V L.Y (readO L.V O)) (decY L.Y (readO L.V O)) r L.m.length t (L.what t) (L.did t) (L.want t) (decO L.V L.Y (readO L.V O)) := by
        have hi : OpI M N (decV L.V L.Y (readO L.V O)) (decY L.Y (readO L.V O)) r L.m.length t (L.what t) (L.did t) (L.want t) (decO L.V L.Y (readO L.V O)) :=
          ⟨hD.t.trans a1, a2, hD.ch.trans a3, by rw [hD.what]; exact a4, fun hk => hD.val.trans (a5 hk), by rw [hD.done]; exact a6, fun _ => by rw [hD.t, hD.ch, hsw.since]; exact a7 (by omega), by rw [hD.fd, hfd]; omega, hD.ll, hD.vl, hD.st⟩
        exact hi.move Env.refl (by omega)
      have hq : ¬ (O.done = false ∧ (decO L.V L.Y (readO L.V O)).done = true) := by
        rw [hD.done]; intro hx; have : O.done = true := hx.2; rw [hx.1] at this; cases this
      refine ⟨by rw [eO]; exact h.sok (by omega) hso (fun hx => by rw [hD.done]; exact hx) hmv.vl hD.n.2, r, ks, ?_⟩
      rw [LV.step_q eV eY eO hq hD.n.2]
      exact h.swept_step ht ho hsw (fun _ _ => rfl) (fun _ _ => rfl) hmv
    · have hc : ¬ ((readO L.V O).found.length : Int) = O.count := by rw [hr, ct]; show ¬ ((O.found ++ [K[O.found.length]]).length : Int) = _; rw [hlen]; omega
      have eV : stV L.V L.Y L.B O = L.V := by simp only [stV, n]; unfold read2V; rw [if_neg hc, AV.touch_hit hh.find]; rfl
      have eY : stY L.V L.Y L.B O = L.Y := by simp only [stY, n]; unfold read2Y; rw [if_neg hc]; rfl
      have eO : stO L.V L.Y L.B O = readO L.V O := by simp only [stO, n]; unfold read2O; rw [if_neg hc]; rfl
      rw [hr] at eO
      refine h.quiet_step hN ht ho eV eY eO rfl (by show O.next ≠ 11; omega) ⟨a1, a2, a3, a4, a5, a6, fun _ => a7 (by omega), by show (O.found ++ [K[O.found.length]]).length ≤ 299; rw [hlen]; omega, a9, av, ?_⟩
      refine .s3 K n d f ((hh.mono (by omega)).as rfl rfl rfl) ?_ ?_ ct al
      · show O.found ++ [K[O.found.length]] = K.take (O.found ++ [K[O.found.length]]).length
        rw [hlen]; exact htk
      · show (O.found ++ [K[O.found.length]]).length < K.length
        rw [hlen]; omega
  | _ => omega
/-- The chain's cell is read. -/
theorem GI.step1 (h : GI M N r ks L) (hN : N < 100000000000000) (ht : t < 9) (ho : L.op t = some O) (n : O.next = 1) : StepsTo M N L t O := by
  have hso := h.stok hN ht ho
  obtain ⟨t1, hp⟩ := h.op t O ht ho
  obtain ⟨a1, a2, a3, a4, a5, a6, a7, a8, a9, av, st⟩ := hp
  cases st with
  | s1 n2 d f =>
    obtain ⟨hs, hch⟩ := a7 (by omega)
    obtain ⟨c, hc, hcc, hcn⟩ := chain_nat hch
    have hcell := h.cell hc hcc
    have htouch : L.V.touch L.B.block = L.V := AV.touch_hit h.blk
    have hm := h.m200
    have w3 : O.what = 3 ↔ (L.what t).kind = 4 := by
      obtain ⟨q1, q2, q3, q4⟩ := a4
      constructor
      · intro hw
        by_cases b1 : (L.what t).kind = 1
        · have := q1 b1; omega
        by_cases b2 : (L.what t).kind = 2
        · have := q2 b2; omega
        by_cases b3 : (L.what t).kind = 3
        · have := q3 b3; omega
        omega
      · exact q4
    have hR : rootO L.V L.B O = { O with old := ks.getD c 0, found := [], count := 0, next := 2, done := decide ((L.what t).kind = 4) } := by
      unfold rootO
      rw [hcell]
      congr 1
      by_cases hw : O.what = 3
      · rw [if_pos hw, decide_eq_true (w3.1 hw)]
      · rw [if_neg hw, d, decide_eq_false (fun hx => hw (w3.2 hx))]
    have hk := HeldAt.known (O := rootO L.V L.B O) h hc (by rw [hR]; exact hcc) (by rw [hR])
    have hac : (L.what t).chain = (c : Int) + 1 := by rw [← a3]; exact hcc
    -- what is told of the chain
    have hwant : (L.what t).kind = 4 → ∀ K : List Int, (L.m.getD c ([], 0)) = (K.drop 1, hd0 K) → effA L.m (L.what t) = ⟨0, true, hd0 K, K.drop 1⟩ ∧ effM L.m (L.what t) = L.m := fun h4 K hK => by
      obtain ⟨e1, e2⟩ := eff_all hc hac h4
      rw [e2, hK]
      exact ⟨rfl, e1⟩
    -- the end, whatever the operation
    have fin : ∀ (O' : CO) (V' : AV) (Y' : YV) (K : List Int), stV L.V L.Y L.B O = V' → stY L.V L.Y L.B O = Y' → stO L.V L.Y L.B O = O' → Swept N r L.V L.Y V' Y' → (L.m.getD c ([], 0)) = (K.drop 1, hd0 K) → O'.done = decide ((L.what t).kind = 4) → O'.next ≠ 11 →
        (∀ want, ((L.what t).kind = 4 → want = ⟨0, true, hd0 K, K.drop 1⟩) → OpI M (N + 1) V' Y' r L.m.length t (L.what t) (decide ((L.what t).kind = 4)) want O') → StepsTo M N L t O := by
      intro O' V' Y' K eV eY eO hsw hK hd hn11 own
      refine ⟨by rw [eO]; exact h.sok (by omega) hso (fun hx => by rw [d] at hx; cases hx) (own ⟨0, true, hd0 K, K.drop 1⟩ (fun _ => rfl)).vl hn11, r, ks, ?_⟩
      by_cases h4 : (L.what t).kind = 4
      · have hdt : O'.done = true := by rw [hd, decide_eq_true h4]
        obtain ⟨e1, e2⟩ := hwant h4 K hK
        rw [LV.step_e eV eY eO ⟨d, hdt⟩ hn11, e2]
        refine h.swept_step ht ho hsw (upd_at _ _ _) (upd_at _ _ _) ?_
        rw [upd_same, upd_same]
        have := own (effA L.m (L.what t)) (fun _ => e1)
        rw [decide_eq_true h4] at this
        exact this
      · have hq : ¬ (O.done = false ∧ O'.done = true) := by rw [hd, decide_eq_false h4]; intro hx; cases hx.2
        rw [LV.step_q eV eY eO hq hn11]
        refine h.swept_step ht ho hsw (fun _ _ => rfl) (fun _ _ => rfl) ?_
        have := own (L.want t) (fun hx => absurd hx h4)
        rw [decide_eq_false h4] at this
        have hdd : L.did t = false := by rw [a6, d]
        rw [hdd]
        exact this
    by_cases h0 : ks.getD c 0 = 0
    · have h0' : (rootO L.V L.B O).old = 0 := by rw [hR]; exact h0
      have eV : stV L.V L.Y L.B O = decV L.V L.Y (rootO L.V L.B O) := by simp only [stV, n]; unfold root2V; rw [if_pos h0', htouch]; rfl
      have eY : stY L.V L.Y L.B O = decY L.Y (rootO L.V L.B O) := by simp only [stY, n]; unfold root2Y; rw [if_pos h0']; rfl
      have eO : stO L.V L.Y L.B O = decO L.V L.Y (rootO L.V L.B O) := by simp only [stO, n]; unfold root2O; rw [if_pos h0', htouch]; rfl
      have hsw := h.bd.dec (r := r) (fun p hp => (h.lim p hp).1) (rootO L.V L.B O)
      have hD : ∀ want, ((L.what t).kind = 4 → want = ⟨0, true, hd0 ([] : List Int), ([] : List Int).drop 1⟩) → DecOut M N (decV L.V L.Y (rootO L.V L.B O)) (decY L.Y (rootO L.V L.B O)) r L.m.length t (L.what t) want (rootO L.V L.B O) (decO L.V L.Y (rootO L.V L.B O)) := fun want hw =>
        dec_out (t := t) (A := L.what t) (m := L.m.length) (want := want) (O := rootO L.V L.B O) (K := []) rfl rfl h.bd (fun p hp => (h.lim p hp).1) hm (by rw [hR]; exact a1) a2 (by rw [hR]; exact a4) (by rw [hR]; exact a5) (.inl ⟨h0', rfl⟩) (by rw [hR]; exact hs) (by rw [hR]) (by rw [hR]; exact f) (by rw [hR]) hw (by rw [hR]; exact a9) (by rw [hR]; exact av)
      have hd0 := hD ⟨0, true, hd0 ([] : List Int), ([] : List Int).drop 1⟩ (fun _ => rfl)
      refine fin _ _ _ [] eV eY eO hsw (hk.1 h0') ?_ hd0.n.2 fun want hw => ?_
      · rw [hd0.done, hR]
      · have hD := hD want hw
        have hi : OpI M N (decV L.V L.Y (rootO L.V L.B O)) (decY L.Y (rootO L.V L.B O)) r L.m.length t (L.what t) (decide ((L.what t).kind = 4)) want (decO L.V L.Y (rootO L.V L.B O)) :=
          ⟨hD.t.trans (by rw [hR]; exact a1), a2, hD.ch.trans (by rw [hR]; exact a3), by rw [hD.what, hR]; exact a4, fun hk => hD.val.trans (by rw [hR]; exact a5 hk), by rw [hD.done, hR], fun _ => by rw [hD.t, hD.ch, hsw.since, hR]; exact a7 (by omega), by rw [hD.fd, hR]; show (0 : Nat) ≤ 299; omega, hD.ll, hD.vl, hD.st⟩
        exact hi.move Env.refl (by omega)
    · have h0' : (rootO L.V L.B O).old ≠ 0 := by rw [hR]; exact h0
      have eV : stV L.V L.Y L.B O = L.V := by simp only [stV, n]; unfold root2V; rw [if_neg h0', htouch]; rfl
      have eY : stY L.V L.Y L.B O = L.Y := by simp only [stY, n]; unfold root2Y; rw [if_neg h0']; rfl
      have eO : stO L.V L.Y L.B O = rootO L.V L.B O := by simp only [stO, n]; unfold root2O; rw [if_neg h0']; rfl
      have hH := hk.2 h0'
      have hdone : (rootO L.V L.B O).done = decide ((L.what t).kind = 4) := by rw [hR]
      have hnx : (rootO L.V L.B O).next = 2 := by rw [hR]
      refine fin _ _ _ ((L.m.getD c ([], 0)).2 :: (L.m.getD c ([], 0)).1) eV eY eO (.same h.bd) rfl hdone (by rw [hnx]; decide) fun want hw => ?_
      refine ⟨by rw [hR]; exact a1, a2, by rw [hR]; exact a3, by rw [hR]; exact a4, by rw [hR]; exact a5, by rw [hR], fun _ => by rw [hR]; exact a7 (by omega), by rw [hR]; show (0 : Nat) ≤ 299; omega, by rw [hR]; exact a9, by rw [hR]; exact av, ?_⟩
      exact .s2 _ hnx hdone (by rw [hR]; exact f) (hH.mono (by omega)) (by rw [hR]) hw
  | _ => omega
end
end Go.Proofs.Ytefhngbeodnldaa
