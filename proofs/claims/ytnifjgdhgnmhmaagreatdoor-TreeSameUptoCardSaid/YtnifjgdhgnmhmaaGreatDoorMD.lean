/- What an operation looks at, and of what kind it is. A region whose order Go leaves open: whatever order is drawn, it comes to what the text's order comes to. -/
import Derived.Test.YtnifjgdhgnmhmaaGreatDoorM2
import Derived.Test.YtnifjgdhgnmhmaaGreatDoorM1
namespace Go.X
open Go

theorem xop_congr {E : Env} {call : CallF} {op : XOp} {T T' : List XV} {H : Heap} (h : ∀ x ∈ usesX op, ev E T x = ev E T' x) : xop E call op T H = xop E call op T' H := by
  have hmap : ∀ xs : List XO, (∀ x ∈ xs, ev E T x = ev E T' x) → xs.map (ev E T) = xs.map (ev E T') := fun xs hx => List.map_congr_left hx
  have hparts : ∀ ps : List (Nat × Nat × XO), (∀ x ∈ ps.map (·.2.2), ev E T x = ev E T' x) → (ps.map fun (o, s, x) => (o, s, ev E T x)) = (ps.map fun (o, s, x) => (o, s, ev E T' x)) := fun ps hx =>
    List.map_congr_left fun p hp => by
      obtain ⟨o, s, x⟩ := p
      simp only [hx x (List.mem_map.2 ⟨_, hp, rfl⟩)]
  have hopt : ∀ l : Option XO, (∀ x ∈ l.toList, ev E T x = ev E T' x) → l.map (ev E T) = l.map (ev E T') := fun l hx => by
    cases l with
    | none => rfl
    | some x => simp [hx x (by simp)]
  cases op with
  | build z ps => simp only [xop, hparts ps (by simpa [usesX] using h)]
  | bslice e n z ps => simp only [xop, hparts ps (by simpa [usesX] using h)]
  | mkfn f x y => simp only [xop, hmap x (fun z hz => h z (by simp [usesX, hz])), hmap y (fun z hz => h z (by simp [usesX, hz]))]
  | max xs => simp only [xop, hmap xs (by simpa [usesX] using h)]
  | min xs => simp only [xop, hmap xs (by simpa [usesX] using h)]
  | slice st e x lo hi => simp only [xop, h x (by simp [usesX]), hopt lo (fun z hz => h z (by simp only [usesX, List.mem_cons, List.mem_append]; exact .inr (.inl hz))), hopt hi (fun z hz => h z (by simp only [usesX, List.mem_cons, List.mem_append]; exact .inr (.inr hz)))]
  | sliceA n e x lo hi => simp only [xop, h x (by simp [usesX]), hopt lo (fun z hz => h z (by simp only [usesX, List.mem_cons, List.mem_append]; exact .inr (.inl hz))), hopt hi (fun z hz => h z (by simp only [usesX, List.mem_cons, List.mem_append]; exact .inr (.inr hz)))]
  | call f xs => simp only [xop, h f (by simp [usesX]), hmap xs (fun z hz => h z (by simp [usesX, hz]))]
  | defer f xs => simp only [xop, h f (by simp [usesX]), hmap xs (fun z hz => h z (by simp [usesX, hz]))]
  | pick x y z => simp only [xop, h x (by simp [usesX]), h y (by simp [usesX]), h z (by simp [usesX])]
  | insert x y z => simp only [xop, h x (by simp [usesX]), h y (by simp [usesX]), h z (by simp [usesX])]
  | alloc t z => simp only [xop]
  | lenC n => simp only [xop]
  | makeM => simp only [xop]
  | store n x y => simp only [xop, h x (by simp [usesX]), h y (by simp [usesX])]
  | bin n x y => simp only [xop, h x (by simp [usesX]), h y (by simp [usesX])]
  | eq n k x y => simp only [xop, h x (by simp [usesX]), h y (by simp [usesX])]
  | iaddr n x y => simp only [xop, h x (by simp [usesX]), h y (by simp [usesX])]
  | iaddrA n m x y => simp only [xop, h x (by simp [usesX]), h y (by simp [usesX])]
  | idxS x y => simp only [xop, h x (by simp [usesX]), h y (by simp [usesX])]
  | idxA n m g x y => simp only [xop, h x (by simp [usesX]), h y (by simp [usesX])]
  | eqP n x y => simp only [xop, h x (by simp [usesX]), h y (by simp [usesX])]
  | ustr e x y => simp only [xop, h x (by simp [usesX]), h y (by simp [usesX])]
  | append s e b t x y => simp only [xop, h x (by simp [usesX]), h y (by simp [usesX])]
  | makeS e b z x y => simp only [xop, h x (by simp [usesX]), h y (by simp [usesX])]
  | lookup z ok x y => simp only [xop, h x (by simp [usesX]), h y (by simp [usesX])]
  | _ => simp only [xop, h _ (by simp only [usesX]; exact List.mem_singleton.2 rfl)]

theorem append_nil' {α : Type} {a b : List α} (h : a ++ b = []) : a = [] ∧ b = [] := by simpa using h

mutual
theorem frz_any {H : Heap} (H' : Heap) : ∀ (d : Nat) {x x' : XV}, frz d H x = some (x', []) → frz d H' x = some (x', [])
  | 0, _, _, h => by simp [frz] at h
  | d + 1, x, x', h => by
    cases x with
    | ptr b off =>
      simp only [frz] at h
      split at h
      · split at h
        · obtain ⟨⟨r, vis⟩, _, he⟩ := map_some h; cases he
        · cases h
      · cases h
    | sl b off len esz =>
      simp only [frz] at h
      split at h
      · split at h
        · obtain ⟨⟨r, vis⟩, _, he⟩ := map_some h; cases he
        · cases h
      · cases h
    | fn f a b =>
      simp only [frz] at h
      cases h1 : frzL d H a with
      | none => simp [h1] at h
      | some p =>
        obtain ⟨pa, v1⟩ := p
        cases h2 : frzL d H b with
        | none => simp [h1, h2] at h
        | some q =>
          obtain ⟨pb, v2⟩ := q
          simp [h1, h2] at h
          obtain ⟨rfl, rfl, rfl⟩ := h
          simp [frz, frzL_any H' d h1, frzL_any H' d h2]
    | iface t v =>
      simp only [frz] at h
      obtain ⟨⟨r, vis⟩, h1, he⟩ := map_some h
      cases he
      simp [frz, frz_any H' d h1]
    | agg cs =>
      simp only [frz] at h
      obtain ⟨⟨r, vis⟩, h1, he⟩ := map_some h
      cases he
      simp [frz, frzL_any H' d h1]
    | tup cs =>
      simp only [frz] at h
      obtain ⟨⟨r, vis⟩, h1, he⟩ := map_some h
      cases he
      simp [frz, frzL_any H' d h1]
    | mp b => simp [frz] at h
    | bad => simp [frz] at h
    | _ => simp only [frz] at h ⊢; exact h
theorem frzL_any {H : Heap} (H' : Heap) : ∀ (d : Nat) {xs xs' : List XV}, frzL d H xs = some (xs', []) → frzL d H' xs = some (xs', [])
  | 0, _, _, h => by simp [frzL] at h
  | d + 1, [], _, h => by simp only [frzL] at h ⊢; exact h
  | d + 1, x :: xs, xs', h => by
    simp only [frzL] at h
    cases h1 : frz d H x with
    | none => simp [h1] at h
    | some p =>
      obtain ⟨pa, v1⟩ := p
      cases h2 : frzL d H xs with
      | none => simp [h1, h2] at h
      | some q =>
        obtain ⟨pb, v2⟩ := q
        simp [h1, h2] at h
        obtain ⟨rfl, rfl, rfl⟩ := h
        simp [frzL, frz_any H' d h1, frzL_any H' d h2]
end

theorem kind_zero {E : Env} {call : CallF} {op : XOp} {T : List XV} {H K : Heap} {v : XV} (hk : kindO E op T H = 0) (hx : xop E call op T H = some (.val v K)) : K = H ∧ ∀ H', xop E call op T H' = some (.val v H') := by
  cases op <;> simp only [kindO, reduceCtorEq] at hk <;> (try (exact absurd hk (by decide)))
  case call f xs =>
    simp only [xop] at hx ⊢
    split at hk
    · rename_i g first captured hf
      split at hk
      · rename_i hi
        split at hk
        · rename_i args' hfr
          have hd : ∀ H', docall E call g (first ++ xs.map (ev E T) ++ captured) H' = match E.ora g args' with
              | some r => some (.ret r H')
              | none => match call g args' [] with
                | some (.ret r _) => some (.ret r H')
                | some (.pan v _) => if flat v then some (.pan v H') else none
                | none => none := by
            intro H'
            unfold docall
            rw [if_pos hi, frzL_any H' depth hfr]
            simp only [back, killAll]
            cases E.ora g args' with
            | some r => simp
            | none => cases call g args' [] with
              | none => rfl
              | some r => cases r <;> simp
          first | rw [hf] at hx ⊢ | rw [hf] at hx
          simp only [hd] at hx ⊢
          cases ho : E.ora g args' with
          | some r => simp [ho] at hx ⊢; exact ⟨hx.2.symm, hx.1⟩
          | none =>
            simp only [ho] at hx ⊢
            cases hc : call g args' [] with
            | none => simp [hc] at hx
            | some r =>
              cases r with
              | ret r K' => simp [hc] at hx ⊢; exact ⟨hx.2.symm, hx.1⟩
              | pan r K' => simp only [hc] at hx; split at hx <;> simp_all
        · exact absurd hk (by decide)
      · exact absurd hk (by decide)
    · exact absurd hk (by decide)
  all_goals
    simp only [xop] at hx ⊢
    (repeat' split at hx) <;> (try (cases hx; done)) <;> (try (obtain ⟨h1, rfl⟩ := okv_eq hx; refine ⟨rfl, fun H' => ?_⟩; simp_all [okv]; done)) <;> (try (cases hx; refine ⟨rfl, fun H' => ?_⟩; simp_all; done)) <;> (try (cases hx; exact ⟨rfl, fun H' => rfl⟩))

theorem kind_two {E : Env} {call : CallF} {op : XOp} {T : List XV} {H K : Heap} {v : XV} (hk : kindO E op T H = 2) (hx : xop E call op T H = some (.val v K)) : K = H := by
  cases op <;> simp only [kindO] at hk <;> (try (exact absurd hk (by decide)))
  case call f xs =>
    (repeat' split at hk) <;> exact absurd hk (by decide)
  all_goals
    simp only [xop] at hx
    (repeat' split at hx) <;> first
      | (cases hx; done)
      | (cases hx; rfl)
      | exact (okv_eq hx).2

end Go.X
namespace Go.X
open Go

/-! ### what is before what -/
theorem bitsL_testBit {acc : List Nat} {j : Nat} : ∀ {ds : List Nat}, (bitsL acc ds).testBit j = true → ∃ d ∈ ds, d = j ∨ (acc.getD d 0).testBit j = true
  | [], h => by simp [bitsL] at h
  | d :: r, h => by
    simp only [bitsL, Nat.testBit_or, Bool.or_eq_true] at h
    rcases h with (h | h) | h
    · rw [Nat.testBit_two_pow] at h
      exact ⟨d, by simp, .inl (by simpa using h)⟩
    · exact ⟨d, by simp, .inr h⟩
    · obtain ⟨d', h1, h2⟩ := bitsL_testBit h
      exact ⟨d', by simp [h1], h2⟩

theorem closL_spec : ∀ (rest done : List (List Nat)) (acc : List Nat), acc.length = done.length → (∀ (k : Nat) (ds : List Nat), (done ++ rest)[k]? = some ds → ∀ d ∈ ds, d < k) →
    (∀ k j, k < acc.length → (acc.getD k 0).testBit j = true → ∃ d ∈ done.getD k [], d = j ∨ (acc.getD d 0).testBit j = true) →
    ∀ k j, k < (done ++ rest).length → ((closL rest acc).getD k 0).testBit j = true → ∃ d ∈ (done ++ rest).getD k [], d = j ∨ ((closL rest acc).getD d 0).testBit j = true
  | [], done, acc, hl, hb, hp, k, j, hk, ht => by
    simp only [closL, List.append_nil] at *
    exact hp k j (by omega) ht
  | ds :: rest, done, acc, hl, hb, hp, k, j, hk, ht => by
    have ih := closL_spec rest (done ++ [ds]) (acc ++ [bitsL acc ds]) (by simp [hl]) (by simpa using hb) (by
      intro k j hk ht
      simp at hk
      have hbd : ∀ d ∈ ds, d < acc.length := by
        intro d hd
        have := hb done.length ds (by simp) d hd
        omega
      by_cases e : k < acc.length
      · have e1 : (acc ++ [bitsL acc ds]).getD k 0 = acc.getD k 0 := by simp [List.getD_eq_getElem?_getD, List.getElem?_append_left e]
        rw [e1] at ht
        obtain ⟨d, hd, h2⟩ := hp k j e ht
        have e2 : (done ++ [ds]).getD k [] = done.getD k [] := by simp [List.getD_eq_getElem?_getD, List.getElem?_append_left (show k < done.length by omega)]
        refine ⟨d, by rw [e2]; exact hd, ?_⟩
        rcases h2 with h2 | h2
        · exact .inl h2
        · right
          by_cases e3 : d < acc.length
          · simpa [List.getD_eq_getElem?_getD, List.getElem?_append_left e3] using h2
          · simp [List.getD_eq_getElem?_getD, List.getElem?_eq_none (Nat.le_of_not_lt e3)] at h2
      · have hke : k = acc.length := by omega
        subst hke
        have e1 : (acc ++ [bitsL acc ds]).getD acc.length 0 = bitsL acc ds := by simp [List.getD_eq_getElem?_getD]
        rw [e1] at ht
        obtain ⟨d, hd, h2⟩ := bitsL_testBit ht
        refine ⟨d, by simp [List.getD_eq_getElem?_getD, hl, hd], ?_⟩
        rcases h2 with h2 | h2
        · exact .inl h2
        · right
          simpa [List.getD_eq_getElem?_getD, List.getElem?_append_left (hbd d hd)] using h2)
    simp only [closL]
    have := ih k j (by simpa using hk) ht
    simpa using this

/-- Down to what an operation waits for, all is done. -/
theorem clos_done {dirs : List (List Nat)} (hb : backOk dirs = true) {b : Nat → Bool} (hcl : ∀ k, b k = true → ∀ d ∈ dirs.getD k [], b d = true) :
    ∀ (k : Nat), k < dirs.length → (∀ d ∈ dirs.getD k [], b d = true) → ∀ j, ((closL dirs []).getD k 0).testBit j = true → b j = true := by
  have hback : ∀ (k : Nat) (ds : List Nat), dirs[k]? = some ds → ∀ d ∈ ds, d < k := by
    intro k ds hk d hd
    have hlt : k < dirs.length := by
      rcases Nat.lt_or_ge k dirs.length with h' | h'
      · exact h'
      · simp [List.getElem?_eq_none h'] at hk
    have h1 := List.all_eq_true.1 hb k (List.mem_range.2 hlt)
    have h2 := List.all_eq_true.1 h1 d (by simp [List.getD_eq_getElem?_getD, hk, hd])
    simpa using h2
  have hs := closL_spec dirs [] [] rfl (by simpa using hback) (by intro k j hk; simp at hk)
  simp only [List.nil_append] at hs
  intro k
  induction k using Nat.strongRecOn with
  | _ k ih =>
    intro hk hd j ht
    obtain ⟨d, hdm, h2⟩ := hs k j hk ht
    have hbd := hd d hdm
    rcases h2 with rfl | h2
    · exact hbd
    · have hdk : d < k := by
        obtain ⟨ds, hds⟩ : ∃ ds, dirs[k]? = some ds := ⟨dirs[k], List.getElem?_eq_getElem hk⟩
        exact hback k ds hds d (by simpa [List.getD_eq_getElem?_getD, hds] using hdm)
      exact ih d hdk (by omega) (hcl d hbd) j h2

/-! ### the trace -/
section
variable {E : Env} {call : CallF}

/-- The temporaries behind the operations that are marked, in the text's order. -/
def Tsel (b : Nat → Bool) : List DR → Nat → List XV → List XV
  | [], _, T => T
  | r :: rs, j, T => Tsel b rs (j + 1) (if b j then putT T r.o.dst r.v else T)

theorem putT_length (T : List XV) (d : Option Nat) (v : XV) : (putT T d v).length = T.length := by cases d <;> simp [putT]

theorem Tsel_length (b : Nat → Bool) : ∀ (rs : List DR) (j : Nat) (T : List XV), (Tsel b rs j T).length = T.length
  | [], _, _ => rfl
  | r :: rs, j, T => by simp only [Tsel]; rw [Tsel_length b rs]; split <;> simp [putT_length]

theorem putT_other {T : List XV} {d : Option Nat} {v : XV} {t : Nat} (h : d ≠ some t) : (putT T d v)[t]? = T[t]? := by
  cases d with
  | none => rfl
  | some n =>
    have : n ≠ t := fun e => h (by rw [e])
    simp [putT, this]

theorem Tsel_agree {b b' : Nat → Bool} {t : Nat} : ∀ (rs : List DR) (j : Nat) (T T' : List XV), T[t]? = T'[t]? → T.length = T'.length →
    (∀ (k : Nat) (r : DR), rs[k]? = some r → r.o.dst = some t → b (j + k) = b' (j + k)) → (Tsel b rs j T)[t]? = (Tsel b' rs j T')[t]?
  | [], _, _, _, h, _, _ => h
  | r :: rs, j, T, T', h, hl, hw => by
    simp only [Tsel]
    refine Tsel_agree rs (j + 1) _ _ ?_ ?_ (fun k r' hr hd => by have := hw (k + 1) r' (by simpa using hr) hd; rwa [show j + (k + 1) = j + 1 + k by omega] at this)
    · by_cases hd : r.o.dst = some t
      · have hb : b j = b' j := by simpa using hw 0 r rfl hd
        rw [hb, hd]
        split
        · simp [putT, List.getElem?_set, hl]
        · exact h
      · have e1 : (if b j = true then putT T r.o.dst r.v else T)[t]? = T[t]? := by split; exact putT_other hd; rfl
        have e2 : (if b' j = true then putT T' r.o.dst r.v else T')[t]? = T'[t]? := by split; exact putT_other hd; rfl
        rw [e1, e2, h]
    · split <;> split <;> simp [putT_length, hl]

/-- A trace's own chain. -/
structure Trace (E : Env) (call : CallF) (ops : List XOper) (T0 : List XV) (H0 : Heap) (rs : List DR) : Prop where
  len : rs.length = ops.length
  op : ∀ (i : Nat) (r : DR), rs[i]? = some r → ops[i]? = some r.o
  T : ∀ (i : Nat) (r : DR), rs[i]? = some r → r.T = Tsel (fun k => decide (k < i)) rs 0 T0
  first : ∀ (r : DR), rs[0]? = some r → r.H = H0
  next : ∀ (i : Nat) (r r' : DR), rs[i]? = some r → rs[i + 1]? = some r' → r'.H = r.H'
  run : ∀ (i : Nat) (r : DR), rs[i]? = some r → r.w = want r.T r.o.guard ∧ (if r.w then xop E call r.o.op r.T r.H = some (.val r.v r.H') else r.v = und ∧ r.H' = r.H)
  last : lastT T0 rs = Tsel (fun _ => true) rs 0 T0
  lastH0 : rs = [] → lastH H0 rs = H0
  lastHn : ∀ (r : DR), rs[rs.length - 1]? = some r → lastH H0 rs = r.H'

theorem Tsel_none (rs : List DR) : ∀ (j : Nat) (T : List XV) (b : Nat → Bool), (∀ k, j ≤ k → b k = false) → Tsel b rs j T = T := by
  induction rs with
  | nil => intro _ _ _ _; rfl
  | cons r rs ih =>
    intro j T b h
    simp only [Tsel, h j (Nat.le_refl _), Bool.false_eq_true, if_false]
    exact ih (j + 1) T b (fun k hk => h k (by omega))

theorem Tsel_shift (rs : List DR) : ∀ (j : Nat) (T : List XV) (b b' : Nat → Bool) (d : Nat), (∀ k, j ≤ k → b k = b' (k + d)) → Tsel b rs j T = Tsel b' rs (j + d) T := by
  induction rs with
  | nil => intro _ _ _ _ _ _; rfl
  | cons r rs ih =>
    intro j T b b' d h
    simp only [Tsel, h j (Nat.le_refl _)]
    rw [show j + d + 1 = j + 1 + d by omega]
    exact ih (j + 1) _ b b' d (fun k hk => h k (by omega))

theorem traceD_ok : ∀ (ops : List XOper) (T0 : List XV) (H0 : Heap) {rs : List DR}, traceD E call ops T0 H0 = some rs → Trace E call ops T0 H0 rs
  | [], T0, H0, rs, h => by
    simp [traceD] at h
    subst h
    exact ⟨rfl, by simp, by simp, by simp, by simp, by simp, rfl, fun _ => rfl, by simp⟩
  | o :: ops, T0, H0, rs, h => by
    have key : ∃ (r0 : DR) (l : List DR), rs = r0 :: l ∧ r0.o = o ∧ r0.T = T0 ∧ r0.H = H0 ∧ (r0.w = want T0 o.guard ∧ (if r0.w then xop E call o.op T0 H0 = some (.val r0.v r0.H') else r0.v = und ∧ r0.H' = H0)) ∧
        traceD E call ops (putT T0 o.dst r0.v) r0.H' = some l := by
      simp only [traceD] at h
      split at h
      · rename_i hw
        split at h
        · rename_i v H' hx
          split at h
          · rename_i l hl
            cases h
            exact ⟨_, l, rfl, rfl, rfl, rfl, ⟨hw.symm, by simpa using hx⟩, hl⟩
          · cases h
        · cases h
      · rename_i hw
        split at h
        · rename_i l hl
          cases h
          exact ⟨_, l, rfl, rfl, rfl, rfl, ⟨by simpa using hw, by simp⟩, hl⟩
        · cases h
    obtain ⟨r0, l, rfl, ho, hT, hH, hrun, hl⟩ := key
    have ih := traceD_ok ops _ _ hl
    subst ho hT hH
    refine ⟨by simp [ih.len], ?_, ?_, ?_, ?_, ?_, ?_, fun h => by simp at h, ?_⟩
    · intro i r hr
      cases i with
      | zero => simp at hr; subst hr; rfl
      | succ i => simp at hr; simpa using ih.op i r hr
    · intro i r hr
      cases i with
      | zero => simp at hr; subst hr; rw [Tsel_none _ 0 _ _ (fun k _ => by simp)]
      | succ i =>
        simp at hr
        rw [ih.T i r hr]
        simp only [Tsel, Nat.zero_lt_succ, decide_true, if_true]
        exact Tsel_shift l 0 _ _ _ 1 (fun k _ => by simp)
    · intro r hr; simp at hr; rw [← hr]
    · intro i r r' hr hr'
      cases i with
      | zero =>
        simp at hr hr'
        subst hr
        exact ih.first r' hr'
      | succ i => simp at hr hr'; exact ih.next i r r' hr (by simpa using hr')
    · intro i r hr
      cases i with
      | zero => simp at hr; subst hr; exact hrun
      | succ i => simp at hr; exact ih.run i r hr
    · simp only [lastT, Tsel, if_true]
      rw [show lastT (putT r0.T r0.o.dst r0.v) l = _ from ih.last]
      exact Tsel_shift l 0 _ _ _ 1 (fun k _ => rfl)
    · intro r hr
      simp only [lastH]
      cases l with
      | nil => simp at hr; subst hr; rfl
      | cons r1 l => exact ih.lastHn r (by simpa using hr)

end
end Go.X
