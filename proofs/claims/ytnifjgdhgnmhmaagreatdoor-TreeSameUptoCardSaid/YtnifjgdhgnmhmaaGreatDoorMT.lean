/- A region whose order Go leaves open: the theorem. Compiled code does what the program's code does. Functions: a run of a compiled function tells a call of the program's function. -/
import Derived.Test.YtnifjgdhgnmhmaaGreatDoorMD
import Derived.LoopN
import Derived.Defers
namespace Go.X
open Go

section
variable {P : Program} {E : Env} {call : CallF}

/-- The heap in front of operation p. -/
def HH (H0 : Heap) (rs : List DR) : Nat → Heap
  | 0 => H0
  | p + 1 => match rs[p]? with
    | some r => r.H'
    | none => H0

section
variable {xs : List XOper} {T0 : List XV} {H0 : Heap} {rs : List DR}

theorem HH_succ {i : Nat} {r : DR} (hr : rs[i]? = some r) : HH H0 rs (i + 1) = r.H' := by simp [HH, hr]

theorem HH_at (ht : Trace E call xs T0 H0 rs) {i : Nat} {r : DR} (hr : rs[i]? = some r) : HH H0 rs i = r.H := by
  cases i with
  | zero => exact (ht.first r hr).symm
  | succ i =>
    have hlt : i < rs.length := by
      rcases Nat.lt_or_ge i rs.length with h | h
      · exact h
      · simp [List.getElem?_eq_none (show rs.length ≤ i + 1 by omega)] at hr
    have h0 : rs[i]? = some rs[i] := List.getElem?_eq_getElem hlt
    rw [HH_succ h0, ht.next i _ r h0 hr]

theorem HH_last (ht : Trace E call xs T0 H0 rs) : HH H0 rs rs.length = lastH H0 rs := by
  rcases Nat.eq_zero_or_pos rs.length with h | h
  · have : rs = [] := List.length_eq_zero_iff.1 h
    subst this
    rfl
  · have h0 : rs[rs.length - 1]? = some rs[rs.length - 1] := List.getElem?_eq_getElem (by omega)
    rw [ht.lastHn _ h0, ← HH_succ (H0 := H0) h0]
    congr 1
    omega

theorem kind_vals (E : Env) (op : XOp) (T : List XV) (H : Heap) : kindO E op T H = 0 ∨ kindO E op T H = 2 ∨ kindO E op T H = 3 := by
  unfold kindO
  repeat' split
  all_goals simp

theorem kindD_vals (E : Env) (r : DR) : kindD E r = 0 ∨ kindD E r = 2 ∨ kindD E r = 3 := by
  unfold kindD
  split
  · exact kind_vals ..
  · exact .inl rfl

theorem kind_two_any {op : XOp} {T : List XV} {H : Heap} (H' : Heap) (h : kindO E op T H = 2) : kindO E op T H' = 2 := by
  cases op <;> simp only [kindO] at h ⊢ <;> (try exact absurd h (by decide))
  case call f ys => (repeat' split at h) <;> exact absurd h (by decide)

theorem HH_still (ht : Trace E call xs T0 H0 rs) {i : Nat} {r : DR} (hr : rs[i]? = some r) (hk : kindD E r ≠ 3) : HH H0 rs (i + 1) = HH H0 rs i := by
  rw [HH_succ hr, HH_at ht hr]
  obtain ⟨_, hrun⟩ := ht.run i r hr
  cases hw : r.w with
  | false => simp [hw] at hrun; exact hrun.2
  | true =>
    simp [hw] at hrun
    simp only [kindD, hw, if_true] at hk
    rcases kind_vals E r.o.op r.T r.H with h | h | h
    · exact (kind_zero h hrun).1
    · exact kind_two h hrun
    · exact absurd h hk

theorem HH_const (ht : Trace E call xs T0 H0 rs) {p : Nat} : ∀ (q : Nat), p ≤ q → q ≤ rs.length → (∀ (k : Nat) (r : DR), p ≤ k → k < q → rs[k]? = some r → kindD E r ≠ 3) → HH H0 rs q = HH H0 rs p := by
  intro q
  induction q with
  | zero => intro hpq _ _; rw [show p = 0 by omega]
  | succ q ih =>
    intro hpq hq hk
    by_cases e : p = q + 1
    · rw [e]
    · have h0 : rs[q]? = some rs[q] := List.getElem?_eq_getElem (by omega)
      rw [HH_still ht h0 (hk q _ (by omega) (by omega) h0)]
      exact ih (by omega) (by omega) (fun k r h1 h2 hr => hk k r h1 (by omega) hr)

theorem evalEq_ok {r : DR} {H : Heap} (hk : kindO E r.o.op r.T r.H = 2) (h : evalEq E call r H = true) : xop E call r.o.op r.T H = some (.val r.v H) := by
  unfold evalEq at h
  split at h
  · rename_i v K hx
    rw [hx, beqX_eq h, kind_two (kind_two_any H hk) hx]
  · cases h

theorem pair_get {cl : List Nat} (hp : pairsOk E call cl rs = true) {i j : Nat} (hij : i < j) {ri rj : DR} (hi : rs[i]? = some ri) (hj : rs[j]? = some rj) : pairOk E call ((cl.getD j 0).testBit i) ri rj = true := by
  have hlt : j < rs.length := by
    rcases Nat.lt_or_ge j rs.length with h | h
    · exact h
    · simp [List.getElem?_eq_none h] at hj
  have h1 := List.all_eq_true.1 hp j (List.mem_range.2 hlt)
  have h2 := List.all_eq_true.1 h1 i (List.mem_range.2 hij)
  simpa [hi, hj] using h2

theorem stat_get {cl : List Nat} (hp : statOk xs cl = true) {i j : Nat} (hij : i < j) {a b : XOper} (hi : xs[i]? = some a) (hj : xs[j]? = some b) (hc : conflX a b = true) : (cl.getD j 0).testBit i = true := by
  have hlt : j < xs.length := by
    rcases Nat.lt_or_ge j xs.length with h | h
    · exact h
    · simp [List.getElem?_eq_none h] at hj
  have h1 := List.all_eq_true.1 hp j (List.mem_range.2 hlt)
  have h2 := List.all_eq_true.1 h1 i (List.mem_range.2 hij)
  simpa [hi, hj, hc] using h2

/-- What is done, and how far memory has come. -/
structure Inv (E : Env) (dirs : List (List Nat)) (rs : List DR) (b : Nat → Bool) (p : Nat) : Prop where
  closed : ∀ k, b k = true → ∀ d ∈ dirs.getD k [], b d = true
  le : p ≤ rs.length
  old : ∀ (k : Nat) (r : DR), k < p → rs[k]? = some r → kindD E r = 3 → b k = true
  new : ∀ (k : Nat) (r : DR), p ≤ k → rs[k]? = some r → b k = true → kindD E r ≠ 3

variable {dirs : List (List Nat)} {b : Nat → Bool} {p : Nat}

theorem lt_of_get {α : Type} {l : List α} {i : Nat} {x : α} (h : l[i]? = some x) : i < l.length := by
  rcases Nat.lt_or_ge i l.length with h' | h'
  · exact h'
  · simp [List.getElem?_eq_none h'] at h

/-- The heap may be the one of another place. -/
theorem Inv.value (ht : Trace E call xs T0 H0 rs) (hp : pairsOk E call (closL dirs []) rs = true) (hbk : backOk dirs = true) (hdl : dirs.length = rs.length) (hv : Inv E dirs rs b p) {i : Nat} {r : DR} (hr : rs[i]? = some r) (hbi : b i = false)
    (hready : ∀ d ∈ dirs.getD i [], b d = true) (hw : r.w = true) :
    ∃ p', xop E call r.o.op r.T (HH H0 rs p) = some (.val r.v (HH H0 rs p')) ∧ Inv E dirs rs (fun k => if k = i then true else b k) p' := by
  have hi := lt_of_get hr
  obtain ⟨_, hrun⟩ := ht.run i r hr
  simp only [hw, if_true] at hrun
  have hcl' : ∀ k, (if k = i then true else b k) = true → ∀ d ∈ dirs.getD k [], (if d = i then true else b d) = true := by
    intro k hk d hd
    split
    · rfl
    · by_cases e : k = i
      · subst e; exact hready d hd
      · simp only [if_neg e] at hk; exact hv.closed k hk d hd
  have hkd : kindD E r = kindO E r.o.op r.T r.H := by simp [kindD, hw]
  have same : kindD E r ≠ 3 → Inv E dirs rs (fun k => if k = i then true else b k) p := by
    intro hk3
    refine ⟨hcl', hv.le, ?_, ?_⟩
    · intro k r' h1 h2 h3
      by_cases e : k = i
      · simp [e]
      · simp only [if_neg e]; exact hv.old k r' h1 h2 h3
    · intro k r' h1 h2 h3
      by_cases e : k = i
      · subst e
        rw [hr] at h2
        cases h2
        exact hk3
      · simp only [if_neg e] at h3; exact hv.new k r' h1 h2 h3
  rcases kind_vals E r.o.op r.T r.H with h0 | h2 | h3
  · exact ⟨p, (kind_zero h0 hrun).2 _, same (by rw [hkd, h0]; decide)⟩
  · refine ⟨p, ?_, same (by rw [hkd, h2]; decide)⟩
    have hki : kindD E r = 2 := by rw [hkd, h2]
    rcases Nat.le_total p i with hpi | hip
    · -- down from i to p
      have key : ∀ (m q : Nat), p ≤ q → q ≤ i → i - q = m → xop E call r.o.op r.T (HH H0 rs q) = some (.val r.v (HH H0 rs q)) := by
        intro m
        induction m with
        | zero =>
          intro q h1 h2' hm
          have e : q = i := by omega
          subst e
          rw [HH_at ht hr, hrun, kind_two h2 hrun]
        | succ m ih =>
          intro q h1 h2' hm
          have hq : rs[q]? = some rs[q] := List.getElem?_eq_getElem (by omega)
          by_cases hk : kindD E rs[q] = 3
          · have hbq : b q = false := by
              cases hb : b q with
              | false => rfl
              | true => exact absurd hk (hv.new q _ h1 hq hb)
            have hpr := pair_get hp (show q < i by omega) hq hr
            have hord : ((closL dirs []).getD i 0).testBit q = false := by
              cases ho : ((closL dirs []).getD i 0).testBit q with
              | false => rfl
              | true => rw [clos_done hbk hv.closed i (by omega) hready q ho] at hbq; cases hbq
            simp only [pairOk, hord, hk, hki, holdsD, Bool.false_eq_true, if_false, Bool.and_eq_true] at hpr
            rw [HH_at ht hq]
            exact evalEq_ok h2 hpr.1
          · rw [← HH_still ht hq hk]
            exact ih (q + 1) (by omega) (by omega) (by omega)
      exact key (i - p) p (Nat.le_refl _) hpi rfl
    · -- up from i to p
      have key : ∀ (m : Nat), i + m ≤ p → xop E call r.o.op r.T (HH H0 rs (i + m)) = some (.val r.v (HH H0 rs (i + m))) := by
        intro m
        induction m with
        | zero => intro _; rw [Nat.add_zero, HH_at ht hr, hrun, kind_two h2 hrun]
        | succ m ih =>
          intro hm
          have hle := hv.le
          have hq : rs[i + m]? = some rs[i + m] := List.getElem?_eq_getElem (by omega)
          by_cases hk : kindD E rs[i + m] = 3
          · have hbq : b (i + m) = true := hv.old _ _ (by omega) hq hk
            have hne : i < i + m := by
              rcases Nat.eq_zero_or_pos m with e | e
              · subst e
                simp only [Nat.add_zero] at hbq
                rw [hbi] at hbq; cases hbq
              · omega
            have hpr := pair_get hp hne hr hq
            have hord : ((closL dirs []).getD (i + m) 0).testBit i = false := by
              cases ho : ((closL dirs []).getD (i + m) 0).testBit i with
              | false => rfl
              | true => rw [clos_done hbk hv.closed (i + m) (by omega) (hv.closed _ hbq) i ho] at hbi; cases hbi
            simp only [pairOk, hord, hk, hki, holdsD, Bool.false_eq_true, if_false, Bool.and_eq_true] at hpr
            rw [show i + (m + 1) = i + m + 1 by omega, HH_succ hq]
            exact evalEq_ok h2 hpr.2
          · rw [show i + (m + 1) = i + m + 1 by omega, HH_still ht hq hk]
            exact ih (by omega)
      have := key (p - i) (by omega)
      rwa [show i + (p - i) = p by omega] at this
  · have hki : kindD E r = 3 := by rw [hkd, h3]
    have hpi : p ≤ i := by
      rcases Nat.lt_or_ge i p with h | h
      · have := hv.old i r h hr hki
        rw [hbi] at this; cases this
      · exact h
    have hnone : ∀ (k : Nat) (r' : DR), p ≤ k → k < i → rs[k]? = some r' → kindD E r' ≠ 3 := by
      intro k r' h1 h2 hk hk3
      have hpr := pair_get hp h2 hk hr
      cases ho : ((closL dirs []).getD i 0).testBit k with
      | false =>
        rw [ho] at hpr
        simp [pairOk, hk3, hki] at hpr
      | true => exact hv.new k r' h1 hk (clos_done hbk hv.closed i (by omega) hready k ho) hk3
    refine ⟨i + 1, ?_, hcl', by omega, ?_, ?_⟩
    · rw [← HH_const ht i hpi (by omega) hnone, HH_at ht hr, HH_succ hr]
      exact hrun
    · intro k r' h1 h2 h3'
      by_cases e : k = i
      · simp [e]
      · simp only [if_neg e]
        rcases Nat.lt_or_ge k p with h | h
        · exact hv.old k r' h h2 h3'
        · exact absurd h3' (hnone k r' h (by omega) h2)
    · intro k r' h1 h2 h3'
      rw [if_neg (show k ≠ i by omega)] at h3'
      exact hv.new k r' (by omega) h2 h3'

/-- An operation looks only at what stands behind the ones that it waits for. -/
theorem Tsel_looks (ht : Trace E call xs T0 H0 rs) (hs : statOk xs (closL dirs []) = true) (hbk : backOk dirs = true) (hdl : dirs.length = rs.length) (hcl : ∀ k, b k = true → ∀ d ∈ dirs.getD k [], b d = true) {i : Nat} {r : DR} (hr : rs[i]? = some r)
    (hbi : b i = false) (hready : ∀ d ∈ dirs.getD i [], b d = true) {t : Nat} (htl : t ∈ looksX r.o) : (Tsel b rs 0 T0)[t]? = r.T[t]? := by
  rw [ht.T i r hr]
  refine Tsel_agree rs 0 T0 T0 rfl rfl (fun k r' hk hd => ?_)
  rw [Nat.zero_add]
  have hklt := lt_of_get hk
  have hi := lt_of_get hr
  rcases Nat.lt_trichotomy k i with h | h | h
  · have hc : conflX r'.o r.o = true := by simp [conflX, hd, htl]
    rw [clos_done hbk hcl i (by omega) hready k (stat_get hs h (ht.op k r' hk) (ht.op i r hr) hc)]
    simp [h]
  · subst h; simp [hbi]
  · have hc : conflX r.o r'.o = true := by simp [conflX, hd, htl]
    have hbit := stat_get hs h (ht.op i r hr) (ht.op k r' hk) hc
    have : b k = false := by
      cases hb : b k with
      | false => rfl
      | true => rw [clos_done hbk hcl k (by omega) (hcl k hb) i hbit] at hbi; cases hbi
    rw [this]
    simp; omega

theorem Tsel_last {v : XV} {t : Nat} : ∀ (rs : List DR) (i j : Nat) (T : List XV) (b : Nat → Bool) (r : DR), rs[i]? = some r → r.o.dst = some t → b (j + i) = true → (∀ (k : Nat) (r' : DR), i < k → rs[k]? = some r' → r'.o.dst = some t → b (j + k) = false) →
    r.v = v → (Tsel b rs j T)[t]? = if t < T.length then some v else none
  | [], i, j, T, b, r, hr, _, _, _, _ => by simp at hr
  | r0 :: rs, 0, j, T, b, r, hr, hd, hb, hw, hv => by
    simp at hr
    subst hr
    simp only [Tsel]
    rw [Nat.add_zero] at hb
    rw [if_pos hb]
    have h1 := Tsel_agree (b := b) (b' := fun _ => false) (t := t) rs (j + 1) (putT T r0.o.dst r0.v) (putT T r0.o.dst r0.v) rfl rfl (fun k r' hk hd' => by
      have := hw (k + 1) r' (by omega) (by simpa using hk) hd'
      rwa [show j + (k + 1) = j + 1 + k by omega] at this)
    rw [h1, Tsel_none rs (j + 1) _ _ (fun _ _ => rfl), hd, ← hv]
    simp [putT, List.getElem?_set]
  | r0 :: rs, i + 1, j, T, b, r, hr, hd, hb, hw, hv => by
    simp only [Tsel]
    rw [Tsel_last rs i (j + 1) _ b r (by simpa using hr) hd (by rwa [show j + 1 + i = j + (i + 1) by omega]) (fun k r' h1 h2 h3 => by
      have := hw (k + 1) r' (by omega) (by simpa using h2) h3
      rwa [show j + (k + 1) = j + 1 + k by omega] at this) hv]
    have : (if b j = true then putT T r0.o.dst r0.v else T).length = T.length := by split <;> simp [putT_length]
    rw [this]

theorem Tsel_put (ht : Trace E call xs T0 H0 rs) (hs : statOk xs (closL dirs []) = true) (hbk : backOk dirs = true) (hdl : dirs.length = rs.length) (hcl : ∀ k, b k = true → ∀ d ∈ dirs.getD k [], b d = true) {i : Nat} {r : DR} (hr : rs[i]? = some r)
    (hbi : b i = false) : putT (Tsel b rs 0 T0) r.o.dst r.v = Tsel (fun k => if k = i then true else b k) rs 0 T0 := by
  apply List.ext_getElem?
  intro t
  by_cases hd : r.o.dst = some t
  · rw [Tsel_last (v := r.v) rs i 0 T0 (fun k => if k = i then true else b k) r hr hd (by simp) (fun k r' h1 h2 h3 => by
      rw [Nat.zero_add, if_neg (by omega)]
      have hklt := lt_of_get h2
      have hc : conflX r.o r'.o = true := by simp [conflX, hd, h3]
      have hbit := stat_get hs h1 (ht.op i r hr) (ht.op k r' h2) hc
      cases hb : b k with
      | false => rfl
      | true => rw [clos_done hbk hcl k (by omega) (hcl k hb) i hbit] at hbi; cases hbi) rfl]
    rw [hd]
    simp [putT, List.getElem?_set, Tsel_length]
  · rw [putT_other hd]
    refine Tsel_agree rs 0 T0 T0 rfl rfl (fun k r' hk hd' => ?_)
    rw [Nat.zero_add]
    by_cases e : k = i
    · subst e
      rw [hr] at hk
      cases hk
      exact absurd hd' hd
    · rw [if_neg e]
end

theorem cOpers_get {ops : Array Oper} : ∀ {l : List Oper} {xs : List XOper}, cOpers P ops l = some xs → l.length = xs.length ∧ ∀ (i : Nat) (o : Oper), l[i]? = some o → ∃ xo, xs[i]? = some xo ∧ cOper P ops o = some xo
  | [], xs, h => by simp [cOpers] at h; subst h; simp
  | o :: l, xs, h => by
    simp only [cOpers] at h
    split at h
    · rename_i x ys h1 h2
      cases h
      obtain ⟨hl, ih⟩ := cOpers_get h2
      refine ⟨by simp [hl], fun i o' ho => ?_⟩
      cases i with
      | zero => simp at ho; subst ho; exact ⟨x, rfl, h1⟩
      | succ i => simp at ho; simpa using ih i o' ho
    · cases h

theorem count_set_true : ∀ (l : List Bool) (i : Nat), l[i]? = some false → (l.set i true).count false + 1 = l.count false
  | [], i, h => by simp at h
  | x :: l, 0, h => by simp at h; subst h; simp
  | x :: l, i + 1, h => by
    simp at h
    have := count_set_true l i h
    simp only [List.set_cons_succ, List.count_cons]
    omega

theorem ev_looks {T T' : List XV} {o : XOper} (h : ∀ t ∈ looksX o, T[t]? = T'[t]?) : (∀ x ∈ usesX o.op, ev E T x = ev E T' x) ∧ want T o.guard = want T' o.guard := by
  refine ⟨fun x hx => ?_, ?_⟩
  · cases x with
    | t n =>
      have : T[n]? = T'[n]? := h n (by
        unfold looksX
        exact List.mem_append_left _ (List.mem_filterMap.2 ⟨_, hx, rfl⟩))
      simp [ev, List.getD_eq_getElem?_getD, this]
    | c v => rfl
    | g n => rfl
  · cases hg : o.guard with
    | none => rfl
    | some g =>
      obtain ⟨t, b⟩ := g
      have : T[t]? = T'[t]? := h t (by
        unfold looksX
        rw [hg]
        exact List.mem_append_right _ (by simp))
      simp [want, this]

variable {σ : Ctx} {a : Act} {w : World} {s s' : St}

/-- THE REGION, IN EVERY ORDER. -/
theorem region_any_ok (hm : P.follows .mixedOrders = true) (hcall : CallOk P E call) (hora : OraOk P E) {ops : Array Oper} {xs : List XOper} (hc : cOpers P ops ops.toList = some xs) (hst : statOk xs (closL (dirsOf ops) []) = true)
    (hbk : backOk (dirsOf ops) = true) {x : XE} (hx : runD E call xs (closL (dirsOf ops) []) s = some (x, s')) (hT : relL σ s.T a.tmps.toList) (hD : relD σ s.D a.defers) (h : WF σ s.H w) (hg : globOk E σ) {id : Nat} {Q : Exit → Act → World → Prop}
    (hQ : ∀ τ e a' u, exitOk τ x e → After σ s.H w s' τ a' u → Q e a' u) : (Code.region id ops true).wp P Q a w := by
  unfold runD at hx
  split at hx
  case h_2 => cases hx
  rename_i rs htr
  split at hx
  case isFalse => cases hx
  rename_i hpairs
  cases hx
  have ht := traceD_ok _ _ _ htr
  obtain ⟨hlen, hget⟩ := cOpers_get hc
  have hsz : ops.size = rs.length := by rw [ht.len, ← hlen]; simp
  generalize hdirs : dirsOf ops = dirs at *
  have hdl : dirs.length = rs.length := by rw [← hdirs, ← hsz]; simp [dirsOf]
  have hdir : ∀ (i : Nat) (o : Oper), ops[i]? = some o → dirs.getD i [] = (o.after.toList.filter (Region.binds .any)).map (·.on) := by
    intro i o ho
    have : ops.toList[i]? = some o := by simpa using ho
    rw [← hdirs]
    simp [dirsOf, List.getD_eq_getElem?_getD, ho]
  refine wp_region_any hm ?_
  have key : ∀ (fuel : Nat) (listed : Array Bool) (p : Nat) (τ : Ctx) (a' : Act) (u : World), listed.size = rs.length → listed.toList.count false ≤ fuel → Inv E dirs rs (fun k => listed.getD k false) p →
      relL τ (Tsel (fun k => listed.getD k false) rs 0 s.T) a'.tmps.toList → relD τ s.D a'.defers → Step σ s.H w τ (HH s.H rs p) u → wpAny P .any ops Q fuel listed a' u := by
    intro fuel
    induction fuel with
    | zero =>
      intro listed p τ a' u hls hcnt hv hTT hDD hstp
      have hall : ∀ k, k < rs.length → listed.getD k false = true := by
        intro k hk
        have h0 : listed.toList.count false = 0 := by omega
        rw [List.count_eq_zero] at h0
        have hk' : k < listed.size := by omega
        cases hb : listed[k] with
        | true => simp [Array.getD, hk', hb]
        | false => exact absurd (by rw [← hb]; simp) h0
      have hr0 : Region.ready .any ops listed = [] := by
        unfold Region.ready
        rw [List.filter_eq_nil_iff]
        intro i hi
        simp at hi
        have h1 := hall i (by omega)
        have hk' : i < listed.size := by omega
        simp [Array.getD, hk'] at h1
        simp [Array.getD, hk', h1]
      refine ⟨hr0, ?_⟩
      have e1 : Tsel (fun k => listed.getD k false) rs 0 s.T = lastT s.T rs := by
        rw [ht.last]
        apply List.ext_getElem?
        intro t
        exact Tsel_agree rs 0 _ _ rfl rfl (fun k r hk _ => by rw [Nat.zero_add]; exact hall k (lt_of_get hk))
      have e2 : HH s.H rs p = lastH s.H rs := by
        rw [← HH_last ht]
        exact (HH_const ht rs.length hv.le (Nat.le_refl _) (fun k r h1 h2 hr => hv.new k r h1 hr (hall k h2))).symm
      rw [e1] at hTT
      rw [e2] at hstp
      exact hQ τ _ a' u rfl ⟨hTT, hDD, hstp⟩
    | succ fuel ih =>
      intro listed p τ a' u hls hcnt hv hTT hDD hstp
      constructor
      · intro hnil
        have hall : ∀ k, k < rs.length → listed.getD k false = true := by
          intro k
          induction k using Nat.strongRecOn with
          | _ k ihk =>
            intro hk
            cases hb : listed.getD k false with
            | true => rfl
            | false =>
              exfalso
              have hk2 : k < ops.size := by omega
              have ho : ops[k]? = some ops[k] := by simp [hk2]
              unfold Region.ready at hnil
              rw [List.filter_eq_nil_iff] at hnil
              have h1 := hnil k (by simp; omega)
              apply h1
              have hk' : k < listed.size := by omega
              simp [Array.getD, hk'] at hb
              simp only [Bool.and_eq_true]
              refine ⟨by simp [Array.getD, hk', hb], ?_⟩
              rw [ho]
              simp only [Option.map_some, Option.getD_some]
              rw [Array.all_eq_true']
              intro e he
              by_cases hbe : Region.binds .any e = true
              · have hmem : e.on ∈ dirs.getD k [] := by
                  rw [hdir k _ ho]
                  exact List.mem_map.2 ⟨e, List.mem_filter.2 ⟨by simpa using he, hbe⟩, rfl⟩
                have hlt : e.on < k := by
                  have h1 := List.all_eq_true.1 hbk k (List.mem_range.2 (by omega))
                  have h2 := List.all_eq_true.1 h1 _ hmem
                  simpa using h2
                rw [ihk e.on hlt (by omega)]
                simp
              · simp [hbe]
        have e1 : Tsel (fun k => listed.getD k false) rs 0 s.T = lastT s.T rs := by
          rw [ht.last]
          apply List.ext_getElem?
          intro t
          exact Tsel_agree rs 0 _ _ rfl rfl (fun k r hk _ => by rw [Nat.zero_add]; exact hall k (lt_of_get hk))
        have e2 : HH s.H rs p = lastH s.H rs := by
          rw [← HH_last ht]
          exact (HH_const ht rs.length hv.le (Nat.le_refl _) (fun k r h1 h2 hr => hv.new k r h1 hr (hall k h2))).symm
        rw [e1] at hTT
        rw [e2] at hstp
        exact hQ τ _ a' u rfl ⟨hTT, hDD, hstp⟩
      · intro i hi
        unfold Region.ready at hi
        rw [List.mem_filter] at hi
        obtain ⟨hi1, hi2⟩ := hi
        have hilt : i < ops.size := by simpa using hi1
        have ho : ops[i]? = some ops[i] := by simp [hilt]
        generalize ops[i] = o at ho
        simp only [ho, Option.map_some, Option.getD_some, Bool.and_eq_true] at hi2
        have hil : i < listed.size := by omega
        have hbi : listed.getD i false = false := by
          have := hi2.1
          simp [Array.getD, hil] at this
          simp [Array.getD, hil, this]
        have hready : ∀ d ∈ dirs.getD i [], listed.getD d false = true := by
          intro d hd
          rw [hdir i o ho] at hd
          obtain ⟨e, he, rfl⟩ := List.mem_map.1 hd
          obtain ⟨he1, he2⟩ := List.mem_filter.1 he
          have := Array.all_eq_true'.1 hi2.2 e (by simpa using he1)
          simpa [he2] using this
        obtain ⟨xo, hxo, hco⟩ := hget i o (by simpa using ho)
        have hr : rs[i]? = some rs[i] := List.getElem?_eq_getElem (by omega)
        generalize rs[i] = r at hr
        have hro : r.o = xo := by
          have := ht.op i r hr
          rw [hxo] at this
          cases this
          rfl
        subst hro
        have hlk := ev_looks (E := E) (o := r.o) (T := Tsel (fun k => listed.getD k false) rs 0 s.T) (T' := r.T) (fun t htl => Tsel_looks ht hst hbk hdl hv.closed hr hbi hready htl)
        have hput := Tsel_put ht hst hbk hdl hv.closed hr hbi
        have hbs : (fun k => (listed.setIfInBounds i true).getD k false) = fun k => if k = i then true else listed.getD k false := by
          funext k
          by_cases e : k = i
          · subst e
            simp [Array.getD, hil]
          · simp only [if_neg e, Array.getD, Array.size_setIfInBounds]
            split
            · rename_i hk
              simp [Ne.symm e, hk]
            · simp
        have hstep : ∃ p', xoper E call r.o { T := Tsel (fun k => listed.getD k false) rs 0 s.T, H := HH s.H rs p, D := s.D } = some (.norm, { T := Tsel (fun k => if k = i then true else listed.getD k false) rs 0 s.T, H := HH s.H rs p', D := s.D }) ∧
            Inv E dirs rs (fun k => if k = i then true else listed.getD k false) p' := by
          obtain ⟨hww, hrun⟩ := ht.run i r hr
          cases hw : r.w with
          | true =>
            obtain ⟨p', h1, h2⟩ := hv.value ht hpairs hbk hdl hr hbi hready hw
            refine ⟨p', ?_, h2⟩
            unfold xoper
            simp only
            rw [hlk.2, ← hww, hw, if_pos rfl, xop_congr hlk.1, h1]
            simp only [hput]
          | false =>
            refine ⟨p, ?_, ?_⟩
            · unfold xoper
              simp only
              rw [hlk.2, ← hww, hw, if_neg (by decide)]
              simp [hw] at hrun
              rw [← hrun.1, hput]
            · have hk0 : kindD E r = 0 := by simp [kindD, hw]
              refine ⟨?_, hv.le, ?_, ?_⟩
              · intro k hk d hd
                by_cases e : k = i
                · subst e
                  split
                  · rfl
                  · exact hready d hd
                · simp only [if_neg e] at hk
                  split
                  · rfl
                  · exact hv.closed k hk d hd
              · intro k r' h1 h2 h3
                by_cases e : k = i
                · simp [e]
                · simp only [if_neg e]; exact hv.old k r' h1 h2 h3
              · intro k r' h1 h2 h3
                by_cases e : k = i
                · subst e
                  rw [hr] at h2
                  cases h2
                  rw [hk0]; decide
                · simp only [if_neg e] at h3; exact hv.new k r' h1 h2 h3
        obtain ⟨p', hxs, hv'⟩ := hstep
        have main := oper_ok (K := wpAny P .any ops Q fuel (listed.setIfInBounds i true)) (Q := Q) hcall hora hco (s := { T := Tsel (fun k => listed.getD k false) rs 0 s.T, H := HH s.H rs p, D := s.D }) hTT hDD hstp.wf (hg.mono hstp.le) hxs
          (fun _ υ a2 u2 haft => by
            refine ih (listed.setIfInBounds i true) p' υ a2 u2 (by simpa using hls) ?_ (by rw [hbs]; exact hv') (by rw [hbs]; exact haft.1) haft.2.1 (hstp.trans h haft.2.2)
            have := count_set_true listed.toList i (by simp [Array.getD, hil] at hbi; simp [hil, hbi])
            rw [Array.toList_setIfInBounds]
            omega) (fun v hv => by cases hv)
        unfold wpOp
        simp only [ho]
        split
        · rename_i hw
          rw [if_pos hw] at main
          exact .inl main
        · rename_i hw
          rw [if_neg hw] at main
          exact main
  have hsame := Step.same (u := { w with drawn := w.drawn + 1 }) h rfl
  have hrep : (fun k => (Array.replicate ops.size false).getD k false) = fun _ => false := by
    funext k
    simp [Array.getD]
  refine key ops.size (Array.replicate ops.size false) 0 σ a _ (by simp [hsz]) (by simp) ?_ ?_ hD hsame
  · rw [hrep]
    exact { closed := fun k hk => absurd hk Bool.false_ne_true, le := Nat.zero_le _, old := fun k r hk => absurd hk (Nat.not_lt_zero _), new := fun k r _ _ hk => absurd hk Bool.false_ne_true }
  · rw [hrep, Tsel_none rs 0 _ _ (fun _ _ => rfl)]
    exact hT

end
end Go.X
namespace Go.X
open Go

section
variable {P : Program} {E : Env} {σ : Ctx} {a : Act} {w : World} {s s' : St} {call : CallF}

theorem After.trans {σ τ υ : Ctx} {H : Heap} {w u v : World} {s t : St} {a b : Act} (h0 : WF σ H w) (h : After σ H w s τ a u) (k : After τ s.H u t υ b v) : After σ H w t υ b v :=
  ⟨k.1, k.2.1, h.2.2.trans h0 k.2.2⟩

theorem exitOk_norm {τ : Ctx} : exitOk τ .norm .normal := rfl

/-- THE OPERATIONS OF A REGION, in the text's order. -/
theorem xops_ok (hcall : CallOk P E call) (hora : OraOk P E) {ops : Array Oper} : ∀ (l : List Oper) (i : Nat) (xs : List XOper) (σ : Ctx) (a : Act) (w : World) (s : St) {x : XE} {s' : St},
    ops.toList.drop i = l → cOpers P ops l = some xs → xops E call xs s = some (x, s') → relL σ s.T a.tmps.toList → relD σ s.D a.defers → WF σ s.H w → globOk E σ → {Q : Exit → Act → World → Prop} →
    (∀ τ e a' u, exitOk τ x e → After σ s.H w s' τ a' u → Q e a' u) → wpOps P ops Q (List.range' i l.length) a w
  | [], i, xs, σ, a, w, s, x, s', hl, hc, hx, hT, hD, h, hg, Q, hQ => by
    simp [cOpers] at hc
    subst hc
    simp [xops] at hx
    obtain ⟨rfl, rfl⟩ := hx
    exact hQ σ _ _ _ exitOk_norm ⟨hT, hD, Step.refl h⟩
  | o :: l, i, xs, σ, a, w, s, x, s', hl, hc, hx, hT, hD, h, hg, Q, hQ => by
    simp only [cOpers] at hc
    split at hc
    · rename_i xo xs' h1 h2
      cases hc
      have ho : ops[i]? = some o := by
        have : (ops.toList.drop i)[0]? = some o := by rw [hl]; rfl
        simpa using this
      have hl' : ops.toList.drop (i + 1) = l := by rw [← List.drop_drop, hl]; rfl
      simp only [List.length_cons, List.range'_succ, wpOps, ho]
      simp only [xops] at hx
      cases ho2 : xoper E call xo s with
      | none => simp [ho2] at hx
      | some r =>
        obtain ⟨x1, s1⟩ := r
        have main := oper_ok (K := wpOps P ops Q (List.range' (i + 1) l.length)) (Q := Q) hcall hora h1 hT hD h hg ho2 (fun hn τ a' u haft => by
            subst hn
            simp only [ho2] at hx
            exact xops_ok hcall hora l (i + 1) xs' τ a' u s1 hl' h2 hx haft.1 haft.2.1 haft.2.2.wf (hg.mono haft.2.2.le) (fun υ e b v he hb => hQ υ e b v he (After.trans h haft hb))) (fun v hv τ e a' u he haft => by
            subst hv
            simp only [ho2] at hx
            cases hx
            exact hQ τ e a' u he haft)
        split
        · rename_i hw
          rw [if_pos hw] at main
          exact .inl main
        · rename_i hw
          rw [if_neg hw] at main
          exact main
    · cases hc

/-! ### code -/

def exec (E : Env) (call : CallF) (k : Nat) : XC → St → Option (XE × St)
  | .skip, s => some (.norm, s)
  | .seq a b, s => match exec E call k a s with
    | some (.norm, s') => exec E call k b s'
    | r => r
  | .cond c a b, s => match ev E s.T c with
    | .bool true => exec E call k a s
    | .bool false => exec E call k b s
    | _ => none
  | .block id b, s => match exec E call k b s with
    | some (.exit i, s') => if i = id then some (.norm, s') else some (.exit i, s')
    | r => r
  | .loop b, s => loopN (exec E call k b) k s
  | .exit id, s => some (.exit id, s)
  | .ret, s => some (.ret, s)
  | .stuck, _ => none
  | .region ops, s => xops E call ops s
  | .regionD ops cl, s => runD E call ops cl s

theorem exec_ok (hm : P.follows .mixedOrders = true) (hcall : CallOk P E call) (hora : OraOk P E) (k : Nat) : ∀ (c : Code) (xc : XC) (σ : Ctx) (a : Act) (w : World) (s : St) {x : XE} {s' : St},
    cCode P c = some xc → exec E call k xc s = some (x, s') → relL σ s.T a.tmps.toList → relD σ s.D a.defers → WF σ s.H w → globOk E σ → {Q : Exit → Act → World → Prop} →
    (∀ τ e a' u, exitOk τ x e → After σ s.H w s' τ a' u → Q e a' u) → c.wp P Q a w := by
  intro c
  induction c with
  | skip =>
    intro xc σ a w s x s' hc hx hT hD h hg Q hQ
    simp [cCode] at hc; subst hc
    simp [exec] at hx
    obtain ⟨rfl, rfl⟩ := hx
    exact wp_skip (hQ σ _ _ _ exitOk_norm ⟨hT, hD, Step.refl h⟩)
  | region id ops draw =>
    intro xc σ a w s x s' hc hx hT hD h hg Q hQ
    simp only [cCode] at hc
    split at hc
    · rename_i l hl
      cases draw
      · simp only [Bool.false_eq_true, if_false, Option.some.injEq] at hc
        subst hc
        simp only [exec] at hx
        refine wp_region ?_
        have := xops_ok hcall hora ops.toList 0 l σ a w s rfl hl hx hT hD h hg hQ
        rwa [Array.length_toList, ← List.range_eq_range'] at this
      · simp only [if_true] at hc
        split at hc
        · rename_i hok
          cases hc
          simp only [Bool.and_eq_true] at hok
          simp only [exec] at hx
          exact region_any_ok hm hcall hora hl hok.1 hok.2 hx hT hD h hg hQ
        · cases hc
    · cases hc
  | seq c1 c2 ih1 ih2 =>
    intro xc σ a w s x s' hc hx hT hD h hg Q hQ
    simp only [cCode] at hc
    split at hc
    · rename_i x1 x2 h1 h2
      cases hc
      simp only [exec] at hx
      refine wp_seq ?_
      split at hx
      · rename_i s1 he1
        refine ih1 x1 σ a w s h1 he1 hT hD h hg (fun τ e a' u he haft => ?_)
        cases he
        exact ih2 x2 τ a' u s1 h2 hx haft.1 haft.2.1 haft.2.2.wf (hg.mono haft.2.2.le) (fun υ e b v he hb => hQ υ e b v he (After.trans h haft hb))
      · rename_i hne
        refine ih1 x1 σ a w s h1 hx hT hD h hg (fun τ e a' u he haft => ?_)
        have := hQ τ e a' u he haft
        cases x with
        | norm => exact absurd hx (hne s')
        | exit id => cases he; exact this
        | ret => cases he; exact this
        | pan v => obtain ⟨v', rfl, _⟩ := he; exact this
    · cases hc
  | cond c c1 c2 ih1 ih2 =>
    intro xc σ a w s x s' hc hx hT hD h hg Q hQ
    simp only [cCode] at hc
    split at hc
    · rename_i c' x1 x2 h0 h1 h2
      cases hc
      have hr := rel_ev hg hT h0
      simp only [exec] at hx
      split at hx
      · rename_i hb
        rw [hb] at hr
        exact wp_cond_true (rel_bool hr) (ih1 x1 σ a w s h1 hx hT hD h hg hQ)
      · rename_i hb
        rw [hb] at hr
        exact wp_cond_false (rel_bool hr) (ih2 x2 σ a w s h2 hx hT hD h hg hQ)
      · cases hx
    · cases hc
  | block id c ih =>
    intro xc σ a w s x s' hc hx hT hD h hg Q hQ
    obtain ⟨x1, h1, rfl⟩ := map_some hc
    simp only [exec] at hx
    refine wp_block ?_
    split at hx
    · rename_i i s1 he1
      refine ih x1 σ a w s h1 he1 hT hD h hg (fun τ e a' u he haft => ?_)
      cases he
      simp only [Exit.inBlock]
      split at hx
      · rename_i hi
        cases hx
        rw [if_pos hi]
        exact hQ τ _ a' u exitOk_norm haft
      · rename_i hi
        cases hx
        rw [if_neg hi]
        exact hQ τ _ a' u rfl haft
    · rename_i hne
      refine ih x1 σ a w s h1 hx hT hD h hg (fun τ e a' u he haft => ?_)
      have := hQ τ e a' u he haft
      cases x with
      | norm => cases he; exact this
      | exit id' => exact absurd hx (hne id' s')
      | ret => cases he; exact this
      | pan v => obtain ⟨v', rfl, _⟩ := he; exact this
  | loop c ih =>
    intro xc σ a w s x s' hc hx hT hD h hg Q hQ
    obtain ⟨x1, h1, rfl⟩ := map_some hc
    simp only [exec] at hx
    refine wp_loop_rounds k ?_
    have key : ∀ (n : Nat) (σ : Ctx) (a : Act) (w : World) (s : St), loopN (exec E call k x1) n s = some (x, s') → relL σ s.T a.tmps.toList → relD σ s.D a.defers → WF σ s.H w → globOk E σ → (∀ τ e a' u, exitOk τ x e → After σ s.H w s' τ a' u → Q e a' u) →
        Code.rounds P c Q n a w := by
      intro n
      induction n with
      | zero => intro σ a w s hx; simp [loopN] at hx
      | succ n ihn =>
        intro σ a w s hx hT hD h hg hQ
        simp only [loopN] at hx
        show c.wp P (Exit.then (Code.rounds P c Q n) Q) a w
        split at hx
        · rename_i s1 he1
          refine ih x1 σ a w s h1 he1 hT hD h hg (fun τ e a' u he haft => ?_)
          cases he
          exact ihn τ a' u s1 hx haft.1 haft.2.1 haft.2.2.wf (hg.mono haft.2.2.le) (fun υ e b v he hb => hQ υ e b v he (After.trans h haft hb))
        · rename_i hne
          refine ih x1 σ a w s h1 hx hT hD h hg (fun τ e a' u he haft => ?_)
          have := hQ τ e a' u he haft
          cases x with
          | norm => exact absurd hx (hne s')
          | exit id => cases he; exact this
          | ret => cases he; exact this
          | pan v => obtain ⟨v', rfl, _⟩ := he; exact this
    exact key k σ a w s hx hT hD h hg hQ
  | exit id =>
    intro xc σ a w s x s' hc hx hT hD h hg Q hQ
    simp [cCode] at hc; subst hc
    simp [exec] at hx
    obtain ⟨rfl, rfl⟩ := hx
    exact wp_exit (hQ σ _ _ _ rfl ⟨hT, hD, Step.refl h⟩)
  | ret =>
    intro xc σ a w s x s' hc hx hT hD h hg Q hQ
    simp [cCode] at hc; subst hc
    simp [exec] at hx
    obtain ⟨rfl, rfl⟩ := hx
    exact wp_ret (hQ σ _ _ _ rfl ⟨hT, hD, Step.refl h⟩)
  | refuse m => intro xc σ a w s x s' hc hx; simp [cCode] at hc; subst hc; simp [exec] at hx
  | _ => intro xc σ a w s x s' hc; simp [cCode] at hc

end
end Go.X
namespace Go.X
open Go

section
variable {P : Program} {E : Env} {σ : Ctx} {a : Act} {w : World} {call : CallF}

/-- What a call hands back. -/
def finish (E : Env) (f : Nat) (xf : XF) (T : List XV) (H : Heap) : Option CR :=
  match resOf T H xf.res with
  | none => none
  | some vs =>
    if E.iso f then (match frz depth H (tupOf vs) with
      | some (v, _) => some (.ret v [])
      | none => none)
    else if E.fz f then (match frz depth H (tupOf vs) with
      | some (v, vis) => some (.ret v (killAll H vis))
      | none => none)
    else some (.ret (tupOf vs) H)

/-- The deferred calls, at a return. -/
def runDefers (dcall : CallF) : List (Nat × List XV) → Heap → Option Heap
  | [], H => some H
  | (f, args) :: r, H => match dcall f args H with
    | some (.ret _ H') => runDefers dcall r H'
    | _ => none

def frame0 (xf : XF) (args : List XV) : List XV := args ++ List.replicate (xf.ntmps - args.length) und

/-- A function's run; 'k': the rounds of a loop. -/
def runF (E : Env) (call : CallF) (dcall : CallF) (k : Nat) (f : Nat) (xf : XF) (args : List XV) (H : Heap) : Option CR :=
  match exec E call k xf.body ⟨frame0 xf args, H, []⟩ with
  | some (.norm, s) => (runDefers dcall s.D s.H).bind (finish E f xf s.T)
  | some (.ret, s) => (runDefers dcall s.D s.H).bind (finish E f xf s.T)
  | some (.pan v, s) => if E.iso f then none else match s.D with
    | [] => some (.pan v s.H)
    | _ => none
  | _ => none

theorem results_list {σ : Ctx} {T : List XV} {H : Heap} (h : WF σ H w) (hT : relL σ T a.tmps.toList) : ∀ (rs : List ResultVar) (xr : List XRes) (vs : List XV), cRes P rs = some xr → resOf T H xr = some vs →
    ∃ us, (rs.mapM (fun (r : ResultVar) => match r with | .tmp t => (pure (a.tmps.getD t undef) : Sem Value) | .cell x t => do loadVar t (← asAddr (a.tmps.getD x undef)))).run P w = .ok us w ∧ relL σ vs us
  | [], xr, vs, hc, hr => by
    simp [cRes] at hc
    subst hc
    simp [resOf] at hr
    subst hr
    exact ⟨[], rfl, by simp [relL]⟩
  | .tmp t :: rs, xr, vs, hc, hr => by
    obtain ⟨l, hl, rfl⟩ := map_some hc
    obtain ⟨vs', hv, rfl⟩ := map_some hr
    obtain ⟨us, h1, h2⟩ := results_list h hT rs l vs' hl hv
    exact ⟨_ :: us, by simp only [List.mapM_cons, Sem.run_bind, Sem.run_pure, Result.andThen_ok, h1], relL_cons (relL_tmps hT t) h2⟩
  | .cell x t :: rs, xr, vs, hc, hr => by
    simp only [cRes] at hc
    split at hc
    · rename_i d s l hd hs hl
      have hcase : ∃ sz ag, xr = .c x sz ag :: l ∧ ((aggD d = true ∧ ag = true ∧ cSize P t = some sz) ∨ (aggD d = false ∧ ag = false ∧ sz = 1)) := by
        cases had : aggD d
        · simp [had] at hc; exact ⟨1, false, hc.symm, .inr ⟨rfl, rfl, rfl⟩⟩
        · simp [had] at hc; exact ⟨s, true, hc.symm, .inl ⟨rfl, rfl, hs⟩⟩
      obtain ⟨sz, ag, rfl, hsz⟩ := hcase
      simp only [resOf] at hr
      have hx := relL_tmps hT x
      split at hr
      · rename_i b off hbo
        rw [hbo] at hx
        obtain ⟨B, base, n, hb, he⟩ := hx
        split at hr
        · rename_i cs hcs
          split at hr
          · rename_i v vs' hv hvs
            cases hr
            obtain ⟨C, e, fr, hB, hn, _, hle, hrel⟩ := h.cells hcs hb
            obtain ⟨v', hrun, hv'⟩ := run_loadVar hd hsz hB (by omega) hrel hv
            obtain ⟨us, h1, h2⟩ := results_list h hT rs l vs' hl hvs
            have hasd : (asAddr (a.tmps.getD x undef)).run P w = .ok ⟨B, base + off, none⟩ w := by rw [he]; rfl
            exact ⟨v' :: us, by simp only [List.mapM_cons, Sem.run_bind, Sem.run_pure, Result.andThen_ok, h1, hasd, hrun], relL_cons hv' h2⟩
          · cases hr
        · cases hr
      · cases hr
    · cases hc

theorem results_ok {σ : Ctx} {T : List XV} {H : Heap} (h : WF σ H w) (hT : relL σ T a.tmps.toList) {fn : Func} {xr : List XRes} {vs : List XV} (hc : cRes P fn.results.toList = some xr) (hr : resOf T H xr = some vs) :
    ∃ v, (results fn a.tmps).run P w = .ok v w ∧ rel σ (tupOf vs) v := by
  obtain ⟨us, h1, h2⟩ := results_list h hT fn.results.toList xr vs hc hr
  have hm : (fn.results.mapM (fun (r : ResultVar) => match r with | .tmp t => (pure (a.tmps.getD t undef) : Sem Value) | .cell x t => do loadVar t (← asAddr (a.tmps.getD x undef)))).run P w = .ok us.toArray w := by
    rw [Array.mapM_eq_mapM_toList]
    simp only [Sem.run_map, h1, Result.andThen_ok]
  have hl := relL_length h2
  refine ⟨if hh : us.toArray.size = 1 then us.toArray[0] else .tuple us.toArray, ?_, ?_⟩
  · have key : (results fn a.tmps).run P w = ((fn.results.mapM (fun (r : ResultVar) => match r with | .tmp t => (pure (a.tmps.getD t undef) : Sem Value) | .cell x t => do loadVar t (← asAddr (a.tmps.getD x undef)))).run P w).andThen
        fun vs w' => .ok (if h : vs.size = 1 then vs[0] else .tuple vs) w' := by
      unfold results
      simp only [Sem.run_bind, Sem.run_pure]
      rfl
    rw [key, hm]
    rfl
  · unfold tupOf
    split
    · rename_i v
      simp only [relL] at h2
      obtain ⟨u, r, rfl, hv, rfl⟩ := h2
      simpa using hv
    · rename_i hne
      have : ¬ (us.toArray.size = 1) := by
        intro hh
        have : vs.length = 1 := by simp at hh; omega
        match vs, this with
        | [v], _ => exact hne v rfl
      rw [dif_neg this]
      exact ⟨_, rfl, by simpa using h2⟩

theorem frame0_rel {σ : Ctx} {xf : XF} {args : List XV} {vs : List Value} {n : Nat} (h : relL σ args vs) (hn : n = xf.ntmps) : relL σ (frame0 xf args) (vs.toArray ++ Array.replicate (n - vs.toArray.size) undef).toList := by
  subst hn
  have := relL_length h
  simp only [frame0, Array.toList_append, Array.toList_replicate, List.size_toArray, this]
  exact relL_append h (relL_replicate rel_und _)

/-- The functions are the program's, compiled. -/
def FnsOk (P : Program) (E : Env) : Prop := ∀ f xf, E.fns f = some xf → cFunc P f = some xf

theorem cFunc_parts {f : FuncId} {xf : XF} (h : cFunc P f = some xf) : ∃ fn c xr, P.funcs[f]? = some fn ∧ fn.body = some c ∧ cRes P fn.results.toList = some xr ∧ cCode P c = some xf.body ∧ xf.res = xr ∧ xf.ntmps = fn.ntmps ∧ hasBody P f := by
  unfold cFunc at h
  split at h
  · rename_i fn hf
    split at h
    · rename_i c xr hb hr
      split at h
      · cases h
      · rename_i hn
        obtain ⟨b, hb2, rfl⟩ := map_some h
        exact ⟨fn, c, xr, hf, hb, hr, hb2, rfl, rfl, fn, hf, by simp [hb], by simpa using hn⟩
    · cases h
  · cases h

/-- What the end of a body says. -/
theorem finish_ok {f : FuncId} {xf : XF} {fn : Func} {xr : List XRes} (hr : cRes P fn.results.toList = some xr) (hxr : xf.res = xr) {H0 : Heap} {w0 u : World} {τ : Ctx} {T : List XV} {H : Heap} (h0 : WF σ H0 w0) (hst : Step σ H0 w0 τ H u) (hT : relL τ T a.tmps.toList)
    {r : CR} (hf : finish E f xf T H = some r) :
    ∃ v, (results fn a.tmps).run P u = .ok v u ∧
      (E.iso f = false → post σ H0 w0 r (.returned v) u) ∧
      (E.iso f = true → H0 = [] → ∃ x K, r = .ret x K ∧ Calm w0 u ∧ (∀ B, B < w0.heap.size → u.heap[B]? = w0.heap[B]?) ∧ rel ⟨fun _ => none, roNew σ.ro w0 u⟩ x v) := by
  unfold finish at hf
  rw [hxr] at hf
  split at hf
  · cases hf
  · rename_i vs hvs
    obtain ⟨v, h1, h2⟩ := results_ok hst.wf hT hr hvs
    refine ⟨v, h1, ?_, ?_⟩
    · intro hi
      rw [if_neg (by simp [hi])] at hf
      split at hf
      · split at hf
        · rename_i x vis hfr
          cases hf
          obtain ⟨hseen, hop⟩ := frz_ok hst.wf depth h2 hfr
          have hk := Step.kill hst.wf vis (fun b hb => (hseen b hb).2)
          refine ⟨v, τ.kill H u vis, rfl, ?_, hst.trans h0 hk⟩
          have := hop (τ.kill H u vis).ro ⟨hk.le.ro, fun b hb B base n hbb => by
            simp only [Ctx.kill]
            rw [if_pos ⟨b, hb, (base, n), (hseen b hb).1, hbb⟩]⟩
          exact rel_mono (σ := ⟨fun _ => none, (τ.kill H u vis).ro⟩) (τ := τ.kill H u vis) ⟨fun _ _ hh => (by cases hh), fun _ _ hh => hh⟩ this
        · cases hf
      · cases hf
        exact ⟨v, τ, rfl, h2, hst⟩
    · intro hi hH0
      subst hH0
      rw [if_pos hi] at hf
      split at hf
      · rename_i x vis hfr
        cases hf
        obtain ⟨hseen, hop⟩ := frz_ok hst.wf depth h2 hfr
        have himg : ∀ B, ¬ img σ [] B := by rintro B ⟨b, base, n, ⟨y, hy, _⟩, _⟩; simp at hy
        refine ⟨x, [], rfl, ⟨hst.size, hst.calm⟩, fun B hB => hst.frame B hB (himg B), ?_⟩
        refine hop _ ⟨?_, ?_⟩
        · intro B o ho
          simp only [roNew]
          split
          · rename_i hB
            cases hs : σ.ro B with
            | none =>
              rcases hst.newr B o hs ho with h' | h'
              · omega
              · exact absurd h' (himg B)
            | some o' =>
              have := hst.le.ro _ _ hs
              rw [ho] at this
              exact this.symm
          · exact hst.wf.ro B o ho
        · intro b hb B base n hbb
          simp only [roNew]
          have hsb : σ.blk b = none := by
            cases hs : σ.blk b with
            | none => rfl
            | some y => have := h0.dom _ _ hs; simp at this
          rcases (hst.newb b B (base, n) hsb hbb).2 with h' | h'
          · rw [if_neg (by omega)]
          · exact absurd h' (himg B)
      · cases hf

/-- The deferred calls of a frame. -/
def DCallOk (P : Program) (E : Env) (dcall : CallF) : Prop := ∀ f args H v K, dcall f args H = some (.ret v K) → ∀ σ w vs, WF σ H w → globOk E σ → relL σ args vs →
  hasBody P f ∧ ∀ u, CallsD P f vs.toArray u w fun e u' w' => u' = u ∧ post σ H w (.ret v K) e w'

theorem defers_ok {dcall : CallF} (hd : DCallOk P E dcall) {fn : Func} {tmps : Array Value} {R : Ending → World → Prop} : ∀ (D : List (Nat × List XV)) (H H' : Heap) (σ : Ctx) (w : World) (ds : List Deferred),
    runDefers dcall D H = some H' → relD σ D ds → WF σ H w → globOk E σ → (∀ τ u, Step σ H w τ H' u → ∃ v, (results fn tmps).run P u = .ok v u ∧ R (.returned v) u) → Leaves P fn tmps R ds .returning w
  | [], H, H', σ, w, ds, hr, hD, h, hg, hR => by
    simp [runDefers] at hr
    subst hr
    have : ds = [] := hD
    subst this
    exact hR σ w (Step.refl h)
  | (f, args) :: D, H, H', σ, w, ds, hr, hD, h, hg, hR => by
    obtain ⟨first, cap, ds', rfl, hargs, hD'⟩ := hD
    simp only [runDefers] at hr
    split at hr
    · rename_i v K hdc
      obtain ⟨hb, hcd⟩ := hd f args H v K hdc σ w (first.toList ++ cap.toList) h hg hargs
      refine leaves_cons (f := f) (args := (first.toList ++ cap.toList).toArray) (by simp) ?_ ((hcd .returning).mono ?_)
      · simp only [invoke]
        rw [show (first.toList ++ cap.toList).toArray = first ++ cap by simp]
        exact run_callFunc hb _ w
      · rintro e u' w' ⟨rfl, v', τ, rfl, _, hst⟩
        exact defers_ok hd D K H' τ w' ds' hr (relD_mono hst.le hD') hst.wf (hg.mono hst.le) (fun υ u hs => hR υ u (hst.trans h hs))
    · cases hr

/-- A FUNCTION's BODY: what its run tells. -/
theorem runF_wp (hm : P.follows .mixedOrders = true) (hcall : CallOk P E call) (hora : OraOk P E) {dcall : CallF} (hd : DCallOk P E dcall) (k : Nat) {f : FuncId} {xf : XF} (hc : cFunc P f = some xf) {args : List XV} {H : Heap} {r : CR} (hr : runF E call dcall k f xf args H = some r)
    {w : World} {vs : List Value} (h : WF σ H w) (hg : globOk E σ) (hargs : relL σ args vs) {R : Ending → World → Prop}
    (hR : ∀ e u, (E.iso f = false → post σ H w r e u) → (E.iso f = true → H = [] → ∃ x K v, r = .ret x K ∧ e = .returned v ∧ Calm w u ∧ (∀ B, B < w.heap.size → u.heap[B]? = w.heap[B]?) ∧ rel ⟨fun _ => none, roNew σ.ro w u⟩ x v) → R e u) :
    Calls P f vs.toArray w R := by
  obtain ⟨fn, c, xr, hf, hb, hres, hcode, hxr, hnt, _⟩ := cFunc_parts hc
  refine calls_of_wp_defers hf hb ?_
  unfold runF at hr
  have hT0 := frame0_rel (n := fn.ntmps) hargs hnt.symm
  have hD0 : relD σ ([] : List (Nat × List XV)) ([] : List Deferred) := rfl
  have fin : ∀ (x : XE) (s : St), exec E call k xf.body ⟨frame0 xf args, H, []⟩ = some (x, s) → (x = .norm ∨ x = .ret) → (runDefers dcall s.D s.H).bind (finish E f xf s.T) = some r →
      c.wp P (bodyPostD P fn R) { tmps := vs.toArray ++ Array.replicate (fn.ntmps - vs.toArray.size) undef, defers := [] } w := by
    intro x s hex hx hfin
    cases hrd : runDefers dcall s.D s.H with
    | none => simp [hrd] at hfin
    | some H' =>
      simp [hrd] at hfin
      refine exec_ok hm hcall hora k c xf.body σ _ w _ hcode hex hT0 hD0 h hg (fun τ e a' u he haft => ?_)
      have hl : Leaves P fn a'.tmps R a'.defers .returning u := by
        refine defers_ok hd s.D s.H H' τ u a'.defers hrd haft.2.1 haft.2.2.wf (hg.mono haft.2.2.le) (fun υ u2 hst => ?_)
        obtain ⟨v, h1, h2, h3⟩ := finish_ok (a := a') hres hxr h (haft.2.2.trans h hst) (relL_mono hst.le haft.1) hfin
        refine ⟨v, h1, hR _ _ h2 (fun hi hH => ?_)⟩
        obtain ⟨x, K, e1, e2, e3, e4⟩ := h3 hi hH
        exact ⟨x, K, v, e1, rfl, e2, e3, e4⟩
      rcases hx with rfl | rfl <;> cases he <;> exact hl
  split at hr
  · rename_i s hex; exact fin _ s hex (.inl rfl) hr
  · rename_i s hex; exact fin _ s hex (.inr rfl) hr
  · rename_i v s hex
    split at hr
    · cases hr
    · rename_i hi
      split at hr
      · rename_i hD
        cases hr
        refine exec_ok hm hcall hora k c xf.body σ _ w _ hcode hex hT0 hD0 h hg (fun τ e a' u he haft => ?_)
        obtain ⟨v', rfl, hv⟩ := he
        have hds := haft.2.1
        rw [hD] at hds
        have hds' : a'.defers = [] := hds
        show Leaves P fn a'.tmps R a'.defers (.panicking _) u
        rw [hds']
        exact hR _ _ (fun _ => ⟨v', τ, rfl, hv, haft.2.2⟩) (fun hi' => absurd hi' hi)
      · cases hr
  · cases hr

/-- A run of a function that defers nothing. -/
def runF0 (E : Env) (call : CallF) (k : Nat) (f : Nat) (xf : XF) (args : List XV) (H : Heap) : Option CR :=
  match exec E call k xf.body ⟨frame0 xf args, H, []⟩ with
  | some (.norm, s) => match s.D with
    | [] => finish E f xf s.T s.H
    | _ => none
  | some (.ret, s) => match s.D with
    | [] => finish E f xf s.T s.H
    | _ => none
  | _ => none

theorem runF0_wp (hm : P.follows .mixedOrders = true) (hcall : CallOk P E call) (hora : OraOk P E) (k : Nat) {f : FuncId} {xf : XF} (hc : cFunc P f = some xf) {args : List XV} {H : Heap} {r : CR} (hr : runF0 E call k f xf args H = some r)
    {w : World} {vs : List Value} (h : WF σ H w) (hg : globOk E σ) (hargs : relL σ args vs) {R : Ending → World → Prop}
    (hR : ∀ e u, (E.iso f = false → post σ H w r e u) → (E.iso f = true → H = [] → ∃ x K v, r = .ret x K ∧ e = .returned v ∧ Calm w u ∧ (∀ B, B < w.heap.size → u.heap[B]? = w.heap[B]?) ∧ rel ⟨fun _ => none, roNew σ.ro w u⟩ x v) → R e u) (m : FrameMode) :
    CallsD P f vs.toArray m w fun e m' u => m' = m ∧ R e u := by
  obtain ⟨fn, c, xr, hf, hb, hres, hcode, hxr, hnt, _⟩ := cFunc_parts hc
  refine callsD_of_wp hf hb ?_
  unfold runF0 at hr
  have hT0 := frame0_rel (n := fn.ntmps) hargs hnt.symm
  have hD0 : relD σ ([] : List (Nat × List XV)) ([] : List Deferred) := rfl
  have fin : ∀ (x : XE) (s : St), exec E call k xf.body ⟨frame0 xf args, H, []⟩ = some (x, s) → (x = .norm ∨ x = .ret) → s.D = [] → finish E f xf s.T s.H = some r →
      c.wp P (bodyPost P fn R) { tmps := vs.toArray ++ Array.replicate (fn.ntmps - vs.toArray.size) undef, defers := [] } w := by
    intro x s hex hx hsD hfin
    refine exec_ok hm hcall hora k c xf.body σ _ w _ hcode hex hT0 hD0 h hg (fun τ e a' u he haft => ?_)
    have hds := haft.2.1
    rw [hsD] at hds
    have hds' : a'.defers = [] := hds
    obtain ⟨v, h1, h2, h3⟩ := finish_ok (a := a') hres hxr h haft.2.2 haft.1 hfin
    have hl : a'.defers = [] ∧ ∃ v, (results fn a'.tmps).run P u = .ok v u ∧ R (.returned v) u := by
      refine ⟨hds', v, h1, hR _ _ h2 (fun hi hH => ?_)⟩
      obtain ⟨x, K, e1, e2, e3, e4⟩ := h3 hi hH
      exact ⟨x, K, v, e1, rfl, e2, e3, e4⟩
    rcases hx with rfl | rfl <;> cases he <;> exact hl
  split at hr
  · rename_i s hex
    split at hr
    · rename_i hD; exact fin _ s hex (.inl rfl) hD hr
    · cases hr
  · rename_i s hex
    split at hr
    · rename_i hD; exact fin _ s hex (.inr rfl) hD hr
    · cases hr
  · cases hr

/-! ### functions that call one another -/

/-- A deferred call: of a function that is not by itself, and defers nothing. -/
def dcallOf (E : Env) (call : CallF) (n : Nat) : CallF := fun f args H =>
  match E.fns f with
  | some xf => if E.iso f then none else runF0 E call n f xf args H
  | none => none

/-- 'n': how deep calls may go, and how often a loop goes round. -/
def callN (E : Env) : Nat → CallF
  | 0 => fun _ _ _ => none
  | n + 1 => fun f args H => match E.fns f with
    | some xf => runF E (callN E n) (dcallOf E (callN E n) n) n f xf args H
    | none => none

theorem dcallOf_ok (hm : P.follows .mixedOrders = true) (hfn : FnsOk P E) (hora : OraOk P E) {call : CallF} (hcall : CallOk P E call) (n : Nat) : DCallOk P E (dcallOf E call n) := by
  intro f args H v K hd σ w vs h hg hargs
  unfold dcallOf at hd
  split at hd
  · rename_i xf hxf
    split at hd
    · cases hd
    · rename_i hi
      have hc := hfn f xf hxf
      obtain ⟨_, _, _, _, _, _, _, _, _, hb⟩ := cFunc_parts hc
      refine ⟨hb, fun m => (runF0_wp hm hcall hora n hc hd h hg hargs (R := fun e u => post σ H w (.ret v K) e u) (fun e u h1 _ => h1 (by simpa using hi)) m).mono ?_⟩
      rintro e m' u ⟨hm', hp⟩
      exact ⟨hm', hp⟩
  · cases hd

/-- WHAT A RUN TELLS IS SO. -/
theorem callN_ok (hm : P.follows .mixedOrders = true) (hfn : FnsOk P E) (hora : OraOk P E) : ∀ n, CallOk P E (callN E n)
  | 0 => fun f args H r h => by simp [callN] at h
  | n + 1 => by
    have ih := callN_ok hm hfn hora n
    have hd := dcallOf_ok hm hfn hora ih n
    intro f args H r hr
    simp only [callN] at hr
    split at hr
    · rename_i xf hxf
      have hc := hfn f xf hxf
      obtain ⟨_, _, _, _, _, _, _, _, _, hb⟩ := cFunc_parts hc
      refine ⟨hb, ?_, ?_⟩
      · intro hi σ w vs h hg hargs
        exact runF_wp hm ih hora hd n hc hr h hg hargs (fun e u h1 _ => h1 hi)
      · intro hi hH
        subst hH
        -- what comes back does not hang on where it is asked
        have hret : ∃ x K, r = .ret x K := by
          unfold runF at hr
          split at hr
          · rename_i s hex
            cases hrd : runDefers (dcallOf E (callN E n) n) s.D s.H with
            | none => simp [hrd] at hr
            | some H' =>
              simp [hrd] at hr
              unfold finish at hr
              split at hr
              · cases hr
              · rw [if_pos hi] at hr
                split at hr
                · cases hr; exact ⟨_, _, rfl⟩
                · cases hr
          · rename_i s hex
            cases hrd : runDefers (dcallOf E (callN E n) n) s.D s.H with
            | none => simp [hrd] at hr
            | some H' =>
              simp [hrd] at hr
              unfold finish at hr
              split at hr
              · cases hr
              · rw [if_pos hi] at hr
                split at hr
                · cases hr; exact ⟨_, _, rfl⟩
                · cases hr
          · rw [if_pos hi] at hr; cases hr
          · cases hr
        obtain ⟨x, K, rfl⟩ := hret
        refine ⟨x, K, rfl, fun ro w vs hro hg hargs => ?_⟩
        have hwf : WF ⟨fun _ => none, ro⟩ [] w := ⟨fun b x h => (by cases h), fun b B base n h => (by cases h), fun b x B base n h => (by simp at h), fun b b' B x x' ⟨y, hy, _⟩ => (by simp at hy), fun b B x ⟨y, hy, _⟩ => (by simp at hy), hro⟩
        refine runF_wp hm ih hora hd n hc hr hwf hg hargs (fun e u _ h2 => ?_)
        obtain ⟨x', K', v, he, e1, e2, e3, e4⟩ := h2 hi rfl
        cases he
        exact ⟨v, e1, e2, e3, e4⟩
    · cases hr

/-- A function that only reckons: by its run. -/
theorem iso_of_run (hm : P.follows .mixedOrders = true) (hfn : FnsOk P E) (hora : OraOk P E) {f : FuncId} {args : List XV} {x : XV} {K : Heap} (hi : E.iso f = true) (n : Nat) (h : callN E n f args [] = some (.ret x K)) : hasBody P f ∧ IsoOk P E f args x := by
  obtain ⟨hb, _, h2⟩ := callN_ok hm hfn hora n f args [] _ h
  obtain ⟨x', K', he, h3⟩ := h2 hi rfl
  cases he
  exact ⟨hb, h3⟩

end
end Go.X
