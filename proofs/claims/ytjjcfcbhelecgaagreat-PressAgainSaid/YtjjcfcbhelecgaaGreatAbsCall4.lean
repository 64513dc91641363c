/- A call of a function, in memory of its own or in the caller's. Conditions: those of each lemma. -/
import Derived.Test.YtjjcfcbhelecgaaGreatAbsCall3
set_option linter.unusedVariables false
set_option linter.unusedSimpArgs false
namespace Go.Abs
variable {P : Program} {c : Cx} {B : Nat} {H : Heap} {e : Env} {act : Act}

theorem met_live : ∀ (d : Nat) {a a' : AV}, frz d H a = some a' → ∀ b, b ∈ met d H a → ∃ k, H[b]? = some k ∧ k.kind.isGone = false
  | 0, a, a', h, b, hb => by simp [frz] at h
  | d + 1, a, a', h, b, hb => by
    have ihL : ∀ {l l' : List AV}, frzAll (frz d H) l = some l' → ∀ b, b ∈ metAll (met d H) l → ∃ k, H[b]? = some k ∧ k.kind.isGone = false := fun {l l'} hl b hb => by
      obtain ⟨i, hi, hb⟩ := metAll_inv hb
      obtain ⟨e, hg⟩ := frzAll_get hl
      exact met_live d (hg i (e ▸ hi)) b hb
    cases a with
    | sl b' u o n =>
      simp only [frz, Option.bind_eq_some_iff] at h
      obtain ⟨rows, hrows, rows', hrows', _⟩ := h
      simp only [met, hrows, List.mem_cons] at hb
      rcases hb with rfl | hb
      · obtain ⟨ro, sz, es, hb, _, _⟩ := rowsOf_eq hrows
        exact ⟨_, hb, rfl⟩
      · obtain ⟨i, hi, hb⟩ := metRows_inv hb
        obtain ⟨e, hg⟩ := frzRows_get hrows'
        exact ihL (hg i (e ▸ hi)) b hb
    | agg cs =>
      simp only [frz, Option.bind_eq_some_iff] at h
      obtain ⟨_, hcs, _⟩ := h
      exact ihL hcs b (by simpa [met] using hb)
    | tuple cs =>
      simp only [frz, Option.bind_eq_some_iff] at h
      obtain ⟨_, hcs, _⟩ := h
      exact ihL hcs b (by simpa [met] using hb)
    | iface t x =>
      simp only [frz, Option.bind_eq_some_iff] at h
      obtain ⟨_, hx, _⟩ := h
      exact met_live d hx b (by simpa [met] using hb)
    | func f x y =>
      simp only [frz, Option.bind_eq_some_iff] at h
      obtain ⟨_, hx, _, hy, _⟩ := h
      simp only [met, List.mem_append] at hb
      rcases hb with hb | hb
      · exact ihL hx b hb
      · exact ihL hy b hb
    | mref b' =>
      simp only [frz] at h
      split at h
      · rename_i ro es hH
        simp only [Option.bind_eq_some_iff] at h
        obtain ⟨_, hvs, _⟩ := h
        simp only [met, hH, List.mem_cons] at hb
        rcases hb with rfl | hb
        · exact ⟨_, hH, rfl⟩
        · exact ihL hvs b hb
      · cases h
    | _ => simp [met] at hb

theorem give_live : ∀ (d : Nat) {a a' : AV}, give d H a = some a' → ∀ b, b ∈ tops d a → ∃ k, H[b]? = some k ∧ k.kind.isGone = false
  | 0, a, a', h, b, hb => by simp [give] at h
  | d + 1, a, a', h, b, hb => by
    have ihL : ∀ {l l' : List AV}, frzAll (give d H) l = some l' → ∀ b, b ∈ metAll (tops d) l → ∃ k, H[b]? = some k ∧ k.kind.isGone = false := fun {l l'} hl b hb => by
      obtain ⟨i, hi, hb⟩ := metAll_inv hb
      obtain ⟨e, hg⟩ := frzAll_get hl
      exact give_live d (hg i (e ▸ hi)) b hb
    cases a with
    | sl b' u o n =>
      simp only [give, Option.bind_eq_some_iff] at h
      obtain ⟨rows, hrows, rows', hrows', _⟩ := h
      simp only [tops, List.mem_singleton] at hb
      subst hb
      obtain ⟨ro, sz, es, hb, _, _⟩ := rowsOf_eq hrows
      exact ⟨_, hb, rfl⟩
    | agg cs =>
      simp only [give, Option.bind_eq_some_iff] at h
      obtain ⟨_, hcs, _⟩ := h
      exact ihL hcs b (by simpa [tops] using hb)
    | tuple cs =>
      simp only [give, Option.bind_eq_some_iff] at h
      obtain ⟨_, hcs, _⟩ := h
      exact ihL hcs b (by simpa [tops] using hb)
    | iface t x =>
      simp only [give, Option.bind_eq_some_iff] at h
      obtain ⟨_, hx, _⟩ := h
      exact give_live d hx b (by simpa [tops] using hb)
    | _ => simp [tops] at hb

theorem apart_mem {l m : List Nat} (h : apart l m = true) {b : Nat} (h1 : b ∈ l) (h2 : b ∈ m) : False := by
  have h3 := List.all_eq_true.1 h b h1
  simp only [Bool.not_eq_true'] at h3
  have : (m.any (Nat.beq b)) = true := List.any_eq_true.2 ⟨b, h2, Nat.beq_refl b⟩
  rw [this] at h3
  cases h3

/-- What a call of its own hands back, in the caller's eyes. -/
theorem answer_rep {bs : List Nat} {c2 c2' : Cx} {B2 : Nat} {H2 : Heap} {a2 r : AV} {v : Value} (g : Good c B H) (e1 : c2.w = c.w) (eD : ∀ k, c2.D k → c.D k ∨ ∃ b, b ∈ bs ∧ ∃ u l, c.ρ b u = some l ∧ l.blk = k) (eρ : ∀ b u, c2.ρ b u = none)
    (g2 : Good c2' B2 H2) (n2 : Nxt c2 c2' [] H2) (hr : Rep c2' a2 v) (ha : answer H2 a2 = some r) :
    ∃ os, RepA c2'.w (c.back bs os c2'.w).D r v os ∧ os.Nodup ∧ (∀ k, k ∈ os → k < c2'.w.heap.size ∧ c.w.heap.size ≤ k) ∧ ((∃ a, give deep H2 a = some r) ∨ (os = [] ∧ RepI c2'.w (c.back bs [] c2'.w).D r v)) := by
  have hnew : ∀ b u l, c2'.ρ b u = some l → c.w.heap.size ≤ l.blk ∧ l.blk < c2'.w.heap.size := fun b u l hl => by
    refine ⟨?_, (g2.rn _ _ _ hl).2⟩
    rcases n2.rnew b u l hl with h | h | ⟨u', l', h, _⟩
    · rw [eρ] at h; cases h
    · rw [e1] at h; exact h
    · rw [eρ] at h; cases h
  have hDD : ∀ (os : List Nat), (∀ k, c2'.D k → k ∉ os) → ∀ k, c2'.D k → (c.back bs os c2'.w).D k := fun os hos k hk => by
    rcases n2.dnew k hk with h | h | ⟨b, u, l, h, _⟩
    · rcases eD k h with h | h
      · exact .inl h
      · exact .inr (.inr h)
    · rw [e1] at h
      exact .inr (.inl ⟨h, g2.dlt k hk, hos k hk⟩)
    · rw [eρ] at h; cases h
  unfold answer at ha
  cases hc : (nodup (tops deep a2) && apart (tops deep a2) (unders H2 deep a2) && (tops deep a2).all (freeBlk H2)) with
  | true =>
    simp only [hc, cond_true] at ha
    simp only [Bool.and_eq_true] at hc
    obtain ⟨⟨hn, hap⟩, hfree⟩ := hc
    obtain ⟨os, h1, h2⟩ := give_rep (D2 := fun k => c2'.D k ∨ ∃ b, b ∈ unders H2 deep a2 ∧ ∃ u l, c2'.ρ b u = some l ∧ l.blk = k) g2 (fun k h => .inl h) deep ha hr (fun b hb u l hl => .inr ⟨b, hb, u, l, hl, rfl⟩)
    have hos1 : ∀ k, c2'.D k → k ∉ os := fun k hk hko => by
      obtain ⟨b, hb, u, l, hl, rfl⟩ := h2.mem hko
      have hf := List.all_eq_true.1 hfree b hb
      unfold freeBlk at hf
      split at hf
      · rename_i q hq
        by_cases hg : q.kind.isGone = false
        · exact g2.disj _ b u l hk hl ⟨q, hq, hg, by simpa using hf⟩ rfl
        · -- a block that is gone stands for nothing
          exact absurd rfl (fun _ : True = True => by
            have := give_live deep ha b hb
            obtain ⟨q', h3, h4⟩ := this
            rw [hq] at h3; cases h3
            exact hg h4)
      · cases hf
    refine ⟨os, h1.mono (fun k hk => ?_), h2.nodup g2 hn, fun k hk => ?_, .inl ⟨_, ha⟩⟩
    · rcases hk with hk | ⟨b, hb, u, l, hl, rfl⟩
      · exact hDD os hos1 k hk
      · refine .inr (.inl ⟨(hnew _ _ _ hl).1, (hnew _ _ _ hl).2, fun hko => ?_⟩)
        obtain ⟨b', hb', u', l', hl', e⟩ := h2.mem hko
        have := (g2.inj _ _ _ _ _ _ hl' hl e).1
        subst this
        exact apart_mem hap hb' hb
    · obtain ⟨b, hb, u, l, hl, rfl⟩ := h2.mem hk
      exact ⟨(hnew _ _ _ hl).2, (hnew _ _ _ hl).1⟩
  | false =>
    simp only [hc, cond_false] at ha
    have h1 := frz_rep (D2 := (c.back bs [] c2'.w).D) g2 (hDD [] (fun _ _ => by simp)) deep ha hr (fun b hb u l hl => .inr (.inl ⟨(hnew _ _ _ hl).1, (hnew _ _ _ hl).2, by simp⟩))
    exact ⟨[], .imm h1, List.nodup_nil, (fun k hk => absurd hk (by simp)), .inr ⟨rfl, h1⟩⟩

theorem setRo_nil (H : Heap) : setRo H [] = H := rfl

/-- A call in memory of its own, and what the caller's context is behind it. -/
theorem sim_pure {call : CallT} {f : FuncId} {as args' : List AV} {r : AV} {vs : List Value} (hS : SimCall P call f) (g : Good c B H) (hr : RepL c as vs) (hf : frzAll (frz deep H) as = some args') (hp : pure1 call f args' = some r) :
    Enters P f ∧ Calls P f vs.toArray c.w (fun
      | .returned v, w' => ∃ bs' os, (lentBack H r (metAll (met deep H) as) = setRo H bs') ∧ Good (c.back bs' os w') B (setRo H bs') ∧ Nxt c (c.back bs' os w') H (setRo H bs') ∧
          Good (c.back bs' [] w') B (setRo H bs') ∧ Nxt c (c.back bs' [] w') H (setRo H bs') ∧ RepA w' (c.back bs' os w').D r v os ∧ os.Nodup ∧ (∀ k, k ∈ os → k < w'.heap.size ∧ c.w.heap.size ≤ k) ∧
          ((∃ H2 a, give deep H2 a = some r) ∨ (os = [] ∧ RepI w' (c.back bs' [] w').D r v))
      | .outgrown, _ => False
      | .panicked _, _ => False) := by
  simp only [pure1, Option.bind_eq_some_iff] at hp
  obtain ⟨⟨a2, H2⟩, hcall, hans⟩ := hp
  let bs := metAll (met deep H) as
  let D2 : Nat → Prop := fun k => c.D k ∨ ∃ b, b ∈ bs ∧ ∃ u l, c.ρ b u = some l ∧ l.blk = k
  let c2 : Cx := ⟨c.w, D2, fun _ _ => none, fun _ _ => False⟩
  have g2 : Good c2 H2.length [] := by
    refine ⟨by simp, fun b u h => h.elim, fun b u k h => h.elim, fun b u l h => (by cases h), fun b u l b' u' l' h => (by cases h), fun k hk => ?_, fun k b u l hk h => (by cases h), fun b k hk => absurd hk (by simp), fun b u l k h => (by cases h), fun b k l hk => absurd hk (by simp)⟩
    rcases hk with hk | ⟨b, hb, u, l, hl, rfl⟩
    · exact g.dlt k hk
    · exact (g.rn _ _ _ hl).2
  obtain ⟨e, hg⟩ := frzAll_get hf
  obtain ⟨e2, hr2⟩ := hr
  have hargs : RepL c2 args' vs := ⟨e.trans e2, fun i hi => .imm (frz_rep (c := c) (D2 := D2) g (fun k h => .inl h) deep (hg i hi) (hr2 i (e ▸ hi)) (fun b hb u l hl => .inr ⟨b, metAll_mem (e ▸ hi) hb, u, l, hl, rfl⟩))⟩
  have hlive : ∀ b, b ∈ bs → ∃ k, H[b]? = some k ∧ k.kind.isGone = false := fun b hb => by
    obtain ⟨i, hi, hb⟩ := metAll_inv hb
    exact met_live deep (hg i (e ▸ hi)) b hb
  obtain ⟨_, hent, hcl⟩ := hS args' [] a2 H2 hcall
  refine ⟨hent, Calls.mono (hcl c2 H2.length vs (Nat.le_refl _) g2 hargs) fun en w' hen => ?_⟩
  cases en with
  | panicked ch => exact hen.elim
  | outgrown => exact hen.elim
  | returned v =>
    obtain ⟨c2', rfl, g2', r2, n2⟩ := hen
    have hw : Grown c.w c2'.w := ⟨n2.os, n2.tape, n2.output, n2.size, fun k hk => n2.keep k hk (fun b u l h => by cases h)⟩
    have case1 : ∀ bs', (∀ b, b ∈ bs' → b ∈ bs) → (∀ os, RepA c2'.w (c.back bs os c2'.w).D r v os → RepA c2'.w (c.back bs' os c2'.w).D r v os) → (RepI c2'.w (c.back bs [] c2'.w).D r v → RepI c2'.w (c.back bs' [] c2'.w).D r v) →
        lentBack H r (metAll (met deep H) as) = setRo H bs' → ∃ bs' os, (lentBack H r (metAll (met deep H) as) = setRo H bs') ∧ Good (c.back bs' os c2'.w) B (setRo H bs') ∧ Nxt c (c.back bs' os c2'.w) H (setRo H bs') ∧
          Good (c.back bs' [] c2'.w) B (setRo H bs') ∧ Nxt c (c.back bs' [] c2'.w) H (setRo H bs') ∧ RepA c2'.w (c.back bs' os c2'.w).D r v os ∧ os.Nodup ∧ (∀ k, k ∈ os → k < c2'.w.heap.size ∧ c.w.heap.size ≤ k) ∧
          ((∃ H2 a, give deep H2 a = some r) ∨ (os = [] ∧ RepI c2'.w (c.back bs' [] c2'.w).D r v)) := fun bs' hsub hA hI hH => by
      obtain ⟨os, h1, h2, h3, h4⟩ := answer_rep (c2 := c2) g rfl (fun k hk => hk) (fun _ _ => rfl) g2' n2 r2 hans
      obtain ⟨q1, q2⟩ := good_back g bs' os hw (fun b hb => hlive b (hsub b hb))
      obtain ⟨q3, q4⟩ := good_back g bs' [] hw (fun b hb => hlive b (hsub b hb))
      refine ⟨bs', os, hH, q1, q2, q3, q4, hA os h1, h2, h3, ?_⟩
      rcases h4 with ⟨a, h4⟩ | ⟨h4, h5⟩
      · exact .inl ⟨H2, a, h4⟩
      · exact .inr ⟨h4, hI h5⟩
    have hcs : ∀ l : List Nat, l = [] ∨ ∃ b m, l = b :: m := fun l => by cases l <;> simp
    rcases hcs (metAll (met deep H) as) with hbs | ⟨b0, bs0, hbs⟩
    · have e0 : bs = [] := hbs
      exact case1 bs (fun _ h => h) (fun _ h => h) (fun h => h) (by rw [hbs, e0]; rfl)
    · have e0 : bs = b0 :: bs0 := hbs
      cases hl : hasLst deep r with
      | true =>
        exact case1 bs (fun _ h => h) (fun _ h => h) (fun h => h) (by rw [hbs, e0]; simp [lentBack, hl])
      | false =>
        exact case1 [] (fun _ h => absurd h (by simp)) (fun os h => hasLst_repA _ deep hl h) (fun h => hasLst_repI _ deep hl h) (by rw [hbs]; simp [lentBack, hl, setRo])

/-- THE CALL. -/
theorem sim_doCall {call : CallT} {f : FuncId} {as : List AV} {m : Mode} {a : AV} {H' : Heap} {vs : List Value} (hS : SimCall P call f) (hv : doCall call f as m H = some (a, H')) (g : Good c B H) (hB : H'.length ≤ B) (hr : RepL c as vs) :
    Enters P f ∧ Calls P f vs.toArray c.w (Behind c B H a H') := by
  have plain : call f as H = some (a, H') → Enters P f ∧ Calls P f vs.toArray c.w (Behind c B H a H') := fun h =>
    ⟨(hS as H a H' h).2.1, (hS as H a H' h).2.2 c B vs hB g hr⟩
  unfold doCall at hv
  split at hv
  · rename_i args' hf
    simp only [Option.bind_eq_some_iff] at hv
    obtain ⟨r, hp, hv⟩ := hv
    cases hv
    obtain ⟨hent, hc⟩ := sim_pure hS g hr hf hp
    refine ⟨hent, Calls.mono hc fun en w' hen => ?_⟩
    cases en with
    | panicked ch => exact hen.elim
    | outgrown => exact hen.elim
    | returned v =>
      obtain ⟨bs', os, hH, q1, q2, q3, q4, h1, h2, h3, h4⟩ := hen
      rw [hH]
      refine ⟨c.back bs' [] w', rfl, q3, .imm ?_, q4⟩
      rcases h4 with ⟨H2, a, h4⟩ | ⟨_, h4⟩
      · refine settle_give (fun k hk => ?_) deep h4 h1 (fun k hk => .inr (.inl ⟨(h3 k hk).2, (h3 k hk).1, by simp⟩))
        rcases hk with hk | hk | hk
        · exact .inl hk
        · exact .inr (.inl ⟨hk.1, hk.2.1, by simp⟩)
        · exact .inr (.inr hk)
      · exact settle_repI deep h4
  · rename_i args' hf
    simp only [Option.bind_eq_some_iff] at hv
    obtain ⟨r, hp, hv⟩ := hv
    injection hv with hv
    have ea : a = (take deep (lentBack H r (metAll (met deep H) as)) r).1 := by rw [hv]
    have eH : H' = (take deep (lentBack H r (metAll (met deep H) as)) r).2 := by rw [hv]
    obtain ⟨hent, hc⟩ := sim_pure hS g hr hf hp
    refine ⟨hent, Calls.mono hc fun en w' hen => ?_⟩
    cases en with
    | panicked ch => exact hen.elim
    | outgrown => exact hen.elim
    | returned v =>
      obtain ⟨bs', os, hH, q1, q2, q3, q4, h1, h2, h3, h4⟩ := hen
      rw [hH] at ea eH
      subst ea eH
      have t : Took c B H (c.back bs' os w') (setRo H bs') (os ++ []) := ⟨q1, q2, fun k hk => by
        have hk : k ∈ os := by simpa using hk
        refine ⟨(h3 k hk).1, (h3 k hk).2, fun hD => ?_, fun b u q hq e => ?_⟩
        · rcases hD with hD | hD | ⟨b, hb, u, l, hl, rfl⟩
          · have := g.dlt k hD; have := (h3 k hk).2; omega
          · exact hD.2.2 hk
          · have := (g.rn _ _ _ hl).2; have := (h3 _ hk).2; omega
        · have := (g.rn _ _ _ hq).2; have := (h3 k hk).2; omega, by simpa using h2⟩
      rcases h4 with ⟨H2, a, h4⟩ | ⟨ho, h4⟩
      · obtain ⟨c', l', t', r'⟩ := take_give deep (c.back bs' os w') (setRo H bs') os [] r v ⟨a, h4⟩ t h1 g hB
        exact ⟨c', l'.w, t'.good, r', t'.nxt⟩
      · rw [take_repI deep _ h4]
        exact ⟨c.back bs' [] w', rfl, q3, .imm h4, q4⟩
  · exact plain hv

end Go.Abs
