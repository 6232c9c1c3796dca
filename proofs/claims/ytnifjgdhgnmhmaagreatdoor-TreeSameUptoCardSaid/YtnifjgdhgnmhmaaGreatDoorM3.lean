/- What serves in every run of a function whose arguments are not known: calls, frames, values that are laid open already. From a row's reading of its arguments to abstract values, and from a call that only reckons back to what the row asks. Package-level tables: from what a row lists to abstract globals; and functions of a table of functions. -/
import Derived.Test.YtnifjgdhgnmhmaaGreatDoorMT
import Derived.ChangeSame
import Derived.ChangeArms
import Derived.DataReads
import Derived.ReadAgain
import Derived.ChangeOld
import Derived.Lib.LaidTab
import Derived.LaidSub
namespace Go.X
open Go

theorem rd_ne {T : List XV} {i j : Nat} {v d : XV} (h : i ≠ j) : (T.set i v).getD j d = T.getD j d := by
  simp [List.getD_eq_getElem?_getD, List.getElem?_set, h]
theorem rd_eq {T : List XV} {i : Nat} {v d : XV} (h : i < T.length) : (T.set i v).getD i d = v := by
  simp [List.getD_eq_getElem?_getD, h]

/-- A value that is laid open already. -/
def leaf : XV → Bool
  | .bool _ | .int _ _ | .str _ | .vp _ | .nilp | .vs _ _ | .nils | .nilf | .nili => true
  | _ => false

def leafs : List XV → Bool
  | [] => true
  | x :: r => leaf x && leafs r

/-- .. or a small heap of such. -/
def bare : XV → Bool
  | .agg cs => leafs cs && decide (cs.length ≤ 100)
  | .tup cs => leafs cs && decide (cs.length ≤ 100)
  | .fn _ [] [] => true
  | x => leaf x

def bares : List XV → Bool
  | [] => true
  | x :: r => bare x && bares r

theorem bare_leaf {x : XV} (h : leaf x = true) : bare x = true := by
  cases x <;> simp [leaf] at h <;> simp [bare, leaf]

theorem bares_one {x : XV} (h : leaf x = true) : bares [x] = true := by simp [bares, bare_leaf h]

theorem frz_leaf {x : XV} (h : leaf x = true) (d : Nat) (H : Heap) : frz (d + 1) H x = some (x, []) := by
  cases x <;> simp [leaf] at h <;> simp [frz]

theorem frzL_leafs {xs : List XV} (h : leafs xs = true) : ∀ (d : Nat) (H : Heap), frzL (xs.length + 1 + d) H xs = some (xs, []) := by
  induction xs with
  | nil => intro d H; rw [show ([] : List XV).length + 1 + d = d + 1 by simp; omega]; simp [frzL]
  | cons x xs ih =>
    intro d H
    simp only [leafs, Bool.and_eq_true] at h
    rw [show (x :: xs).length + 1 + d = (xs.length + 1 + d) + 1 by simp; omega]
    simp only [frzL]
    rw [show xs.length + 1 + d = (xs.length + d) + 1 by omega, frz_leaf h.1, show xs.length + d + 1 = xs.length + 1 + d by omega, ih h.2]
    rfl

theorem frz_bare {x : XV} (h : bare x = true) (d : Nat) (H : Heap) : frz (d + 200) H x = some (x, []) := by
  cases x with
  | agg cs =>
    simp only [bare, Bool.and_eq_true, decide_eq_true_eq] at h
    rw [show d + 200 = (cs.length + 1 + (d + 198 - cs.length)) + 1 by omega]
    simp [frz, frzL_leafs h.1]
  | tup cs =>
    simp only [bare, Bool.and_eq_true, decide_eq_true_eq] at h
    rw [show d + 200 = (cs.length + 1 + (d + 198 - cs.length)) + 1 by omega]
    simp [frz, frzL_leafs h.1]
  | fn f a b =>
    cases a with
    | nil => cases b with
      | nil => rw [show d + 200 = (d + 198) + 1 + 1 by omega]; simp [frz, frzL]
      | cons _ _ => simp [bare, leaf] at h
    | cons _ _ => simp [bare, leaf] at h
  | _ => exact frz_leaf (d := d + 199) (by simpa [bare] using h) H

theorem frzL_bares {xs : List XV} (h : bares xs = true) : ∀ (d : Nat) (H : Heap), frzL (xs.length + 1 + 200 + d) H xs = some (xs, []) := by
  induction xs with
  | nil => intro d H; rw [show ([] : List XV).length + 1 + 200 + d = (d + 200) + 1 by simp; omega]; simp [frzL]
  | cons x xs ih =>
    intro d H
    simp only [bares, Bool.and_eq_true] at h
    rw [show (x :: xs).length + 1 + 200 + d = (xs.length + 1 + 200 + d) + 1 by simp; omega]
    simp only [frzL]
    rw [show xs.length + 1 + 200 + d = (xs.length + 1 + d) + 200 by omega, frz_bare h.1, show xs.length + 1 + d + 200 = xs.length + 1 + 200 + d by omega, ih h.2]
    rfl

theorem frzL_depth {xs : List XV} (h : bares xs = true) (hl : xs.length ≤ 1000) (H : Heap) : frzL depth H xs = some (xs, []) := by
  have := frzL_bares h (depth - 201 - xs.length) H
  rwa [show xs.length + 1 + 200 + (depth - 201 - xs.length) = depth by unfold depth; omega] at this

theorem frz_depth {x : XV} (h : bare x = true) (H : Heap) : frz depth H x = some (x, []) := frz_bare h (depth - 200) H

/-- A call of a function that only reckons, with values that are laid open. -/
theorem docall_iso {E : Env} {call : CallF} {f : Nat} {args : List XV} {r : XV} {K : Heap} (hi : E.iso f = true) (ho : E.ora f args = none) (hb : bares args = true) (hl : args.length ≤ 1000) (hc : call f args [] = some (.ret r K)) (H : Heap) :
    docall E call f args H = some (.ret r H) := by
  unfold docall
  rw [if_pos hi, frzL_depth hb hl]
  simp only [ho, hc, back, killAll]
  split <;> rfl

theorem callN_eq {E : Env} {n f : Nat} {xf : XF} (h : E.fns f = some xf) (args : List XV) (H : Heap) : callN E (n + 1) f args H = runF E (callN E n) (dcallOf E (callN E n) n) n f xf args H := by
  simp [callN, h]

/-- A function that only reckons comes back. -/
theorem runF_iso {E : Env} {call dcall : CallF} {k f : Nat} {xf : XF} {args : List XV} {T : List XV} {H K : Heap} {vs : List XV} {v : XV} {vis : List Nat} (hi : E.iso f = true) (hx : exec E call k xf.body ⟨frame0 xf args, H, []⟩ = some (.ret, ⟨T, K, []⟩))
    (hr : resOf T K xf.res = some vs) (hf : frz depth K (tupOf vs) = some (v, vis)) : runF E call dcall k f xf args H = some (.ret v []) := by
  unfold runF
  rw [hx]
  simp [runDefers, finish, hr, hi, hf]

theorem exec_seq_norm {E : Env} {call : CallF} {k : Nat} {a b : XC} {s s' : St} (h : exec E call k a s = some (.norm, s')) : exec E call k (.seq a b) s = exec E call k b s' := by simp [exec, h]
theorem exec_block_norm {E : Env} {call : CallF} {k id : Nat} {a : XC} {s s' : St} (h : exec E call k a s = some (.norm, s')) : exec E call k (.block id a) s = some (.norm, s') := by simp [exec, h]

theorem exec_block_loop {E : Env} {call : CallF} {k id : Nat} {b : XC} {s s' : St} (h : loopN (exec E call k b) k s = some (.exit id, s')) : exec E call k (.block id (.loop b)) s = some (.norm, s') := by
  simp only [exec, h, if_true]

/-- A run of operations that turn no memory. -/
def xopsL (E : Env) (call : CallF) : List XOper → List XV → Heap → Option (List XV × Heap)
  | [], T, H => some (T, H)
  | o :: r, T, H =>
    if want T o.guard then (if kindO E o.op T H = 3 then none else match xop E call o.op T H with
      | some (.val v H') => xopsL E call r (putT T o.dst v) H'
      | _ => none)
    else xopsL E call r (putT T o.dst und) H

theorem traceD_of_L {E : Env} {call : CallF} : ∀ {ops : List XOper} {T T' : List XV} {H H' : Heap}, xopsL E call ops T H = some (T', H') → ∃ rs, traceD E call ops T H = some rs ∧ lastT T rs = T' ∧ lastH H rs = H' ∧ ∀ r ∈ rs, kindD E r ≠ 3
  | [], T, T', H, H', h => by
    simp [xopsL] at h
    obtain ⟨rfl, rfl⟩ := h
    exact ⟨[], rfl, rfl, rfl, by simp⟩
  | o :: ops, T, T', H, H', h => by
    simp only [xopsL] at h
    split at h
    · rename_i hw
      split at h
      · cases h
      · rename_i hk
        split at h
        · rename_i v K hx
          obtain ⟨rs, h1, h2, h3, h4⟩ := traceD_of_L h
          refine ⟨⟨o, T, H, v, K, true⟩ :: rs, by simp [traceD, hw, hx, h1], by simpa [lastT] using h2, by simpa [lastH] using h3, ?_⟩
          intro r hr
          rcases List.mem_cons.1 hr with rfl | hr
          · simpa [kindD] using hk
          · exact h4 r hr
        · cases h
    · rename_i hw
      obtain ⟨rs, h1, h2, h3, h4⟩ := traceD_of_L h
      refine ⟨⟨o, T, H, und, H, false⟩ :: rs, by simp [traceD, hw, h1], by simpa [lastT] using h2, by simpa [lastH] using h3, ?_⟩
      intro r hr
      rcases List.mem_cons.1 hr with rfl | hr
      · simp [kindD]
      · exact h4 r hr

theorem pairOk_low {E : Env} {call : CallF} {ord : Bool} {ri rj : DR} (h : kindD E rj ≠ 3) (hi : kindD E ri ≠ 3) : pairOk E call ord ri rj = true := by
  unfold pairOk
  split
  · rfl
  · split <;> first | rfl | (rename_i h1 h2; first | exact absurd h1 hi | exact absurd h2 h)

theorem runD_of_L {E : Env} {call : CallF} {ops : List XOper} {cl : List Nat} {T T' : List XV} {H H' : Heap} {D : List (Nat × List XV)} (h : xopsL E call ops T H = some (T', H')) : runD E call ops cl ⟨T, H, D⟩ = some (.norm, ⟨T', H', D⟩) := by
  obtain ⟨rs, h1, h2, h3, h4⟩ := traceD_of_L h
  have hp : pairsOk E call cl rs = true := by
    unfold pairsOk
    rw [List.all_eq_true]
    intro j _
    rw [List.all_eq_true]
    intro i _
    split
    · rename_i ri rj hi hj
      exact pairOk_low (h4 _ (List.mem_of_getElem? hj)) (h4 _ (List.mem_of_getElem? hi))
    · rfl
  simp [runD, h1, hp, h2, h3]

theorem exec_seq_ret {E : Env} {call : CallF} {k : Nat} {a b : XC} {s s' : St} (h : exec E call k a s = some (.ret, s')) : exec E call k (.seq a b) s = some (.ret, s') := by simp [exec, h]
theorem exec_block_ret {E : Env} {call : CallF} {k id : Nat} {a : XC} {s s' : St} (h : exec E call k a s = some (.ret, s')) : exec E call k (.block id a) s = some (.ret, s') := by simp [exec, h]

@[simp] theorem asNat_nat (k : IntKind) (i : Nat) : asNat (.int k (i : Int)) = some i := by simp [asNat]

@[simp] theorem oneCell_int (k : IntKind) (n : Int) : oneCell (.int k n) = true := rfl
@[simp] theorem oneCell_bool (b : Bool) : oneCell (.bool b) = true := rfl
@[simp] theorem oneCell_str (b : List UInt8) : oneCell (.str b) = true := rfl
@[simp] theorem oneCell_ptr (b o : Nat) : oneCell (.ptr b o) = true := rfl
@[simp] theorem oneCell_vs (n : Nat) (cs : List XV) : oneCell (.vs n cs) = true := rfl
@[simp] theorem oneCell_vp (cs : List XV) : oneCell (.vp cs) = true := rfl
@[simp] theorem oneCell_nils : oneCell .nils = true := rfl
@[simp] theorem oneCell_nilp : oneCell .nilp = true := rfl
@[simp] theorem oneCell_sl (b o n e : Nat) : oneCell (.sl b o n e) = true := rfl
@[simp] theorem oneCell_fn (f : Fn) (a b : List XV) : oneCell (.fn f a b) = true := rfl
@[simp] theorem oneCell_nilf : oneCell .nilf = true := rfl
@[simp] theorem oneCell_nili : oneCell .nili = true := rfl
@[simp] theorem oneCell_iface (t : TypeId) (v : XV) : oneCell (.iface t v) = true := rfl

@[simp] theorem leaf_int (k : IntKind) (n : Int) : leaf (.int k n) = true := rfl
@[simp] theorem leaf_bool (b : Bool) : leaf (.bool b) = true := rfl
@[simp] theorem leaf_str (b : List UInt8) : leaf (.str b) = true := rfl
@[simp] theorem leaf_vs (n : Nat) (cs : List XV) : leaf (.vs n cs) = true := rfl
@[simp] theorem leaf_vp (cs : List XV) : leaf (.vp cs) = true := rfl
@[simp] theorem leaf_nils : leaf .nils = true := rfl
@[simp] theorem leaf_nilp : leaf .nilp = true := rfl
@[simp] theorem leaf_nilf : leaf .nilf = true := rfl
@[simp] theorem leaf_nili : leaf .nili = true := rfl
@[simp] theorem bare_agg (cs : List XV) : bare (.agg cs) = (leafs cs && decide (cs.length ≤ 100)) := rfl
@[simp] theorem bare_fn (f : Fn) : bare (.fn f [] []) = true := rfl
@[simp] theorem bare_int (k : IntKind) (n : Int) : bare (.int k n) = true := rfl
@[simp] theorem bare_bool (b : Bool) : bare (.bool b) = true := rfl
@[simp] theorem bare_str (b : List UInt8) : bare (.str b) = true := rfl
@[simp] theorem bare_vs (n : Nat) (cs : List XV) : bare (.vs n cs) = true := rfl
@[simp] theorem bare_nils : bare .nils = true := rfl

theorem cellsAt_new (H : Heap) (cs : List XV) (t : Nat) (f : Bool) : cellsAt (H ++ [.tcells cs t f]) H.length = some cs := by simp [cellsAt]
theorem setCs_new (H : Heap) (cs cs' : List XV) (t : Nat) (f : Bool) : setCs (H ++ [.tcells cs t f]) H.length cs' = .tcells cs' t f := by simp [setCs]
theorem set_new (H : Heap) (x y : XB) : (H ++ [x]).set H.length y = H ++ [y] := by simp

theorem wrap_small {n : Int} (h0 : 0 ≤ n) (h1 : n < 2 ^ 63) : IntKind.i64.wrap n = n := by
  unfold IntKind.wrap
  simp [IntKind.bits, IntKind.signed]
  omega
end Go.X
namespace Go.X
open Go Go.ChangeShapes Go.WideShapes

section
variable {H : Type} {enc : TypeId × Value → H} {P : Program} {W : World} {sp : Nat → Bool} {held : Bool}

/-- All memory that there is, as it is. -/
def roW (W : World) : Ctx := ⟨fun _ => none, fun B => W.heap[B]?⟩

theorem roW_pure (W : World) : (roW W).pure = roW W := rfl

/-- Cells that are read lie in a row. -/
theorem cells?_row {a : Addr} {n : Nat} {cs : List Value} (h : W.cells? 0 a n = some cs) (hn : 0 < n) :
    a.spot = none ∧ ∃ C e fr, W.heap[a.block]? = some (.cells C e fr) ∧ a.off + n ≤ C.size ∧ cs = (C.toList.drop a.off).take n := by
  obtain ⟨_, hl, hi⟩ := World.cells?_some h
  have h0 := hi 0 hn
  have hsp : ∀ i, i < n → ∃ v, W.cell? (a.add i) = some v := fun i hi' => by
    rw [hi i hi']
    exact ⟨cs[i], by rw [List.getElem?_eq_getElem (by omega)]⟩
  obtain ⟨v0, hv0⟩ := hsp 0 hn
  have ha0 : a.add 0 = a := by simp [Addr.add]
  rw [ha0] at hv0
  simp only [World.cell?] at hv0
  split at hv0
  · rename_i C e fr hC
    split at hv0
    · cases hv0
    · rename_i hs
      have hspot : a.spot = none := by simpa using hs
      have hat : ∀ i, i < n → C[a.off + i]? = cs[i]? := by
        intro i hlt
        rw [← hi i hlt]
        have e1 : (a.add i).block = a.block := by unfold Addr.add; split <;> rfl
        have e2 : (a.add i).off = a.off + i := by
          unfold Addr.add
          split
          · rename_i h0; subst h0; simp
          · rfl
        have e3 : (a.add i).spot = none := by unfold Addr.add; split <;> simp [hspot]
        simp [World.cell?, e1, e2, e3, hC]
      have hsz : a.off + n ≤ C.size := by
        have h1 := hat (n - 1) (by omega)
        rw [List.getElem?_eq_getElem (by omega)] at h1
        have := Array.getElem?_eq_some_iff.1 h1
        obtain ⟨hlt, _⟩ := this
        omega
      refine ⟨hspot, C, e, fr, hC, hsz, ?_⟩
      apply List.ext_getElem?
      intro i
      by_cases hlt : i < n
      · rw [← hat i hlt]
        simp [List.getElem?_take, hlt]
      · rw [List.getElem?_eq_none (by omega), List.getElem?_eq_none (by simp; omega)]
  · cases hv0

theorem add_spot {a : Addr} {i : Nat} (h : a.spot = none) : a.add i = ⟨a.block, a.off + i, none⟩ := by
  unfold Addr.add
  split
  · rename_i h0; subst h0; cases a; simp_all
  · rfl

/-- A slice that is read: its elements' readings, each a value's cells. -/
theorem slice_rel {α : Type} {t e : TypeId} {fuel : Nat} {cs : List Value} {x : DataW H × List MemPlace} (ht : P.underlying t = some (.slice e)) (h : DataW.trod enc P W 0 sp held fuel t cs = some x) {s : Nat} (hs : P.cellsOf e = s) (hpos : 0 < s) (g : α → List XV) (Q : α → DataW H → Prop)
    (dec : ∀ n ds y, n < fuel → DataW.trod enc P W 0 sp held n e ds = some y → ∃ a, relL (roW W) (g a) ds ∧ (g a).length = s ∧ Q a y.1) :
    (cs = [.slice none 0 0] ∧ x.1 = .nil) ∨ ∃ (ys : List α) (es rest : List (DataW H)), x.1 = .slice es rest ∧ relL (roW W) [.vs ys.length (ys.flatMap g)] cs ∧ ys.length = es.length ∧ ∀ (i : Nat) a d, ys[i]? = some a → es[i]? = some d → Q a d := by
  rcases DataW.trod_slice ht h with ⟨rfl, rfl⟩ | ⟨a, len, cap, elems, rest, n, hf, rfl, rfl, _, hlc, _, hel, hi, _, _⟩
  · exact .inl ⟨rfl, rfl⟩
  · right
    rw [hs] at hi
    have key : ∀ m, m ≤ len → ∃ ys : List α, ys.length = m ∧ (m = 0 ∨ (a.spot = none ∧ ∃ C e fr, W.heap[a.block]? = some (.cells C e fr) ∧ a.off + m * s ≤ C.size ∧ relL (roW W) (ys.flatMap g) ((C.toList.drop a.off).take (m * s)))) ∧
        (ys.flatMap g).length = m * s ∧ ∀ (i : Nat) b d, ys[i]? = some b → (elems.map (·.1))[i]? = some d → Q b d := by
      intro m
      induction m with
      | zero => intro _; exact ⟨[], rfl, .inl rfl, by simp, by simp⟩
      | succ m ih =>
        intro hm
        obtain ⟨ys, hl, hr, hfl, hq⟩ := ih (by omega)
        have h1 := hi m (by omega)
        rw [List.getElem?_eq_getElem (by omega)] at h1
        obtain ⟨chunk, hc, hd⟩ := Option.bind_eq_some_iff.1 h1
        obtain ⟨b, hb, hbl, hbq⟩ := dec n chunk _ (by omega) hd
        obtain ⟨hsp, C, e', fr, hC, hsz, hch⟩ := cells?_row hc hpos
        have hblk : (a.add (m * s)).block = a.block := by unfold Addr.add; split <;> rfl
        have hoff : (a.add (m * s)).off = a.off + m * s := by
          unfold Addr.add
          split
          · rename_i h0; omega
          · rfl
        rw [hblk] at hC
        rw [hoff] at hsz hch
        have hspot : a.spot = none := by
          rcases hr with h0 | ⟨h0, _⟩
          · subst h0
            simpa [Addr.add] using hsp
          · exact h0
        refine ⟨ys ++ [b], by simp [hl], .inr ⟨hspot, C, e', fr, hC, by rw [Nat.add_mul, Nat.one_mul]; omega, ?_⟩, by simp [hfl, hbl, Nat.add_mul], ?_⟩
        · have hsplit : (C.toList.drop a.off).take ((m + 1) * s) = (C.toList.drop a.off).take (m * s) ++ chunk := by
            rw [hch, Nat.add_mul, Nat.one_mul, List.take_add, List.drop_drop]
          rw [hsplit]
          simp only [List.flatMap_append, List.flatMap_cons, List.flatMap_nil, List.append_nil]
          refine relL_append ?_ hb
          rcases hr with h0 | ⟨_, C2, e2, fr2, hC2, _, hr2⟩
          · subst h0
            simp only [Nat.zero_mul, List.take_zero]
            obtain rfl : ys = [] := by simpa using hl
            simp [relL]
          · rw [hC] at hC2
            cases hC2
            exact hr2
        · intro i b' d hb' hd'
          by_cases hlt : i < m
          · exact hq i b' d (by rw [List.getElem?_append_left (by omega)] at hb'; exact hb') hd'
          · have him : i = m := by
              have : i < (ys ++ [b]).length := by
                rcases Nat.lt_or_ge i (ys ++ [b]).length with h' | h'
                · exact h'
                · rw [List.getElem?_eq_none h'] at hb'; cases hb'
              simp at this
              omega
            subst him
            rw [List.getElem?_append_right (by omega)] at hb'
            simp [hl] at hb'
            subst hb'
            rw [List.getElem?_map, List.getElem?_eq_getElem (by omega)] at hd'
            simp at hd'
            subst hd'
            exact hbq
    obtain ⟨ys, hl, hr, hfl, hq⟩ := key len (Nat.le_refl _)
    refine ⟨ys, elems.map (·.1), rest.map (·.1), rfl, ?_, by simp [hl, hel], hq⟩
    refine relL_one ?_
    rw [hl]
    rcases hr with h0 | ⟨hsp, C, e', fr, hC, hsz, hr⟩
    · subst h0
      obtain rfl : ys = [] := by simpa using hl
      exact .inr ⟨rfl, rfl, a, cap, rfl⟩
    · left
      refine ⟨a.block, a.off, cap, by cases a; simp_all, hlc, .inr ⟨C, e', fr, hC, by omega, ?_⟩⟩
      rw [roW_pure, hfl]
      exact hr

theorem take_one {cs : List Value} {o : Nat} (h : o < cs.length) : (cs.drop o).take 1 = [cs[o]] := by
  rw [List.drop_eq_getElem_cons h]; rfl

/-- What is carried over to a world that has the old memory as it was. -/
theorem trod_old {W' : World} (hold : ∀ B, B < W.heap.size → W'.heap[B]? = W.heap[B]?) {p : MemPlace} (hp : p.block < W.heap.size) : W.sameAt W' p := by
  have h := hold p.block hp
  cases p with
  | cell b o => simp only [MemPlace.block] at h; simp [World.sameAt, World.cell?, h]
  | map b => simp only [MemPlace.block] at h; simp [World.sameAt, h]

theorem trodAll_old {W' : World} {base : Nat} (hold : ∀ B, B < W.heap.size → W'.heap[B]? = W.heap[B]?) : ∀ {ts : List TypeId} {vs : List Value} {ds : List (DataW H)} {ps : List MemPlace},
    DataW.TrodAll enc P W base sp held ts vs ds ps → DataW.TrodAll enc P W' base sp held ts vs ds ps
  | [], vs, ds, ps, h => by
    obtain ⟨rfl, rfl, rfl⟩ := trodAll_nil h
    exact trodAll_mk0
  | t :: ts, vs, ds, ps, h => by
    have hlt := h.lt
    obtain ⟨v, vs, d, ds, p, q, rfl, rfl, rfl, ⟨n, h1⟩, h2⟩ := trodAll_cons h
    exact ⟨p, q, ⟨n, DataW.trod_carry n _ _ _ h1 fun x hx => trod_old hold (hlt x (List.mem_append_left _ hx))⟩, trodAll_old hold h2, rfl⟩

/-- WHAT A LAW's ROW ASKS: it answers true, and all that there was is as it was. -/
theorem post_law (K : Kids P (· < P.types.size)) (hz : ∀ t e, t < P.types.size → P.underlying t = some (.slice e) → 0 < P.cellsOf e) {f : Func} {s : ChangeSpec} {tb : TypeId} {fresh handsOn again : Bool}
    (hvars : s.vars = []) (hts : ∀ t ∈ f.params.toList, t < P.types.size) (hres : f.resultTypes = #[tb]) (htb : P.underlying tb = some .bool) {u : World} {args : Array Value} {ds gs : List (DataW H)} {before : List MemPlace}
    (hfn : s.fn H ds = { results := [.lit (.bool true)], args := ds }) (hW : DataW.Whole enc P f.params.toList s.vars false W args.toList ds gs before) (hc : Calm W u) (hold : ∀ B, B < W.heap.size → u.heap[B]? = W.heap[B]?) :
    s.post enc P f false fresh handsOn again W args (.bool true) u := by
  have hlt := hW.lt
  have hW0 := hW
  obtain ⟨p, q, hA, hV, rfl, hfz, hnd⟩ := hW
  rw [hvars] at hV
  obtain ⟨rfl, rfl⟩ := trodVars_none hV
  simp only [List.append_nil] at hlt hfz hW0
  have hA' := trodAll_old hold hA
  have hsp : ∀ x ∈ p, (fun b => decide (b < W.heap.size)) x.block = true := fun x hx => by simpa using hlt x hx
  have hb : ∀ (w : World) (base : Nat) (sp' : Nat → Bool) (hd : Bool), DataW.Trod enc P w base sp' hd tb (.bool true) (.lit (.bool true)) [] := fun w base sp' hd => ⟨1, by simp [DataW.trod, htb, Value.cells]⟩
  have hrl : (Value.bool true).resultList f.resultTypes.size = [.bool true] := by rw [hres]; rfl
  have hfr : ∀ b off, MemPlace.cell b off ∈ p → u.frozen? ⟨b, off, none⟩ = false := by
    intro b off hp
    have h1 := hfz b off hp
    have h2 := hold b (hlt _ hp)
    unfold World.frozen? at h1 ⊢
    rwa [h2]
  refine ⟨ds, [], p, [], p, [], hW0, ?_, ?_, ?_, ?_, ?_⟩
  · rw [hrl, hres, List.append_nil, hfn]
    exact trodAll_mk1 (hb _ _ _ _)
  · rw [List.append_nil, hfn]
    exact hA'.respare K hz hts hsp
  · rw [hvars, List.append_nil, hfn]
    rfl
  · refine ⟨hc.2.1, hc.2.2, fun i hi => ?_⟩
    rw [hold i hi]
    cases W.heap[i]? with
    | none => rfl
    | some o => cases o <;> simp
  · intro _
    refine ⟨?_, [.lit (.bool true)] ++ ds, [], [] ++ p, ⟨[] ++ p, [], ?_, ?_, by simp, ?_, fun h => by cases h⟩, fun x hx _ => by simpa using hx⟩
    · intro j t r hj hr
      rw [hres] at hj
      rw [hrl] at hr
      cases j with
      | zero =>
        simp at hj hr
        subst hj hr
        simp [Value.okWide, htb, Cell.okWide, Cell.ok]
      | succ j => simp at hj
    · rw [hrl, hres]
      exact trodAll_append hA' (trodAll_mk1 (hb _ _ _ _))
    · rw [hvars]; rfl
    · intro b off hp
      exact hfr b off (by simpa using hp)

end
end Go.X
namespace Go.X
open Go Go.ChangeShapes Go.WideShapes

theorem cells_of_strs {H : Type} {enc : TypeId × Value → H} {P : Program} {w : World} {base : Nat} {sp : Nat → Bool} {held : Bool} {fuel : Nat} {t e : TypeId} {n : Nat} {cs : List Value} {zs : List (List UInt8)} {p : List MemPlace}
    (ht : P.underlying t = some (.array n e)) (he : P.underlying e = some .string) (hce : P.cellsOf e = 1) (hct : P.cellsOf t = n)
    (h : DataW.trod enc P w base sp held fuel t cs = some (.agg (zs.map fun z => .lit (.string z)), p)) : cs = zs.map fun z => Value.string ⟨z.toArray⟩ := by
  cases fuel with
  | zero => simp [DataW.trod] at h
  | succ fuel =>
    simp only [DataW.trod, ht, hce, hct, Nat.mul_one] at h
    split at h
    · rename_i hl
      obtain ⟨xs, hm, hx⟩ := Option.map_eq_some_iff.1 h
      have hxs : xs.map (·.1) = zs.map fun z => (DataW.lit (.string z) : DataW H) := by
        have := congrArg Prod.fst hx
        simpa using this
      have hxl : xs.length = n := by simpa using Lib.mapM_length hm
      have hzl : zs.length = n := by
        have := congrArg List.length hxs
        simp at this
        omega
      apply List.ext_getElem?
      intro i
      by_cases hi : i < n
      · obtain ⟨b, hb, hf⟩ := Lib.mapM_at hm i i (by simp [hi])
        obtain ⟨z, hc, rfl, _⟩ := DataW.trod_string he hf
        have h1 : cs[i]? = some (.string z) := by
          have := congrArg (·[0]?) hc
          simpa [List.getElem?_take, List.getElem?_drop] using this
        have h2 : (xs.map (·.1))[i]? = some (DataW.lit (.string z.data.toList) : DataW H) := by simp [hb]
        rw [hxs] at h2
        simp only [List.getElem?_map, Option.map_eq_some_iff, DataW.lit.injEq, Lit.string.injEq] at h2
        obtain ⟨z', hz', rfl⟩ := h2
        simp [h1, hz']
      · rw [List.getElem?_eq_none (by omega), List.getElem?_eq_none (by simp; omega)]
    · cases h

/-- Of the variables that a row lists, one. -/
theorem laid_one {P : Program} {laid : List (String × DataW Unit)} {W : World} (h : laidMetH P laid W) (name : String) (d : DataW Unit) (hf : (laid.filter fun x => x.1 == name) = [(name, d)]) (hd : d.handleName? = none) {g : Nat} {t : TypeId}
    (hg : P.globalNamed name = some g) (hty : (P.globals[g]?).map (·.type) = some t) :
    ∃ C e fr fuel p, W.heap[g]? = some (.cells C e fr) ∧ DataW.trod (fun _ => ()) P W 0 (fun _ => true) false fuel t C.toList = some (d, p) := by
  have h1 := h.filter fun x => x.1 == name
  rw [hf] at h1
  have h1 : laidMet P [(name, d)] W := by
    unfold laidMetH at h1
    simpa [hd] using h1
  obtain ⟨ps, ⟨g', t', cs, fuel, p, q, hg', ht', hvar, hdd, _, _⟩, _⟩ := h1
  obtain rfl := Option.some.inj (hg.symm.trans hg')
  obtain rfl := Option.some.inj (hty.symm.trans ht')
  simp only [World.var?, hg, Option.bind_some] at hvar
  split at hvar
  · rename_i C e fr hC
    cases hvar
    exact ⟨_, e, fr, fuel, p, hC, hdd⟩
  · cases hvar

theorem glob_strs {P : Program} {laid : List (String × DataW Unit)} {W : World} (h : laidMetH P laid W) (name : String) (zs : List (List UInt8)) (hf : (laid.filter fun x => x.1 == name) = [(name, .agg (zs.map fun z => .lit (.string z)))]) {g : Nat} {t e : TypeId} {n : Nat}
    (hg : P.globalNamed name = some g) (hty : (P.globals[g]?).map (·.type) = some t) (ht : P.underlying t = some (.array n e)) (he : P.underlying e = some .string) (hce : P.cellsOf e = 1) (hct : P.cellsOf t = n) :
    ∃ C e fr, (roW W).ro g = some (.cells C e fr) ∧ (zs.map XV.str).length ≤ C.size ∧ relL (roW W).pure (zs.map XV.str) (C.toList.take (zs.map XV.str).length) := by
  obtain ⟨C, e', fr, fuel, p, hC, hd⟩ := laid_one h name _ hf rfl hg hty
  have hcs := cells_of_strs ht he hce hct hd
  have hlen : C.size = zs.length := by have := congrArg List.length hcs; simpa using this
  refine ⟨C, e', fr, hC, by simp [hlen], ?_⟩
  rw [hcs, List.length_map, ← List.length_map (f := fun z : List UInt8 => Value.string ⟨z.toArray⟩), List.take_length]
  exact relL_map (f := XV.str) (g := fun z : List UInt8 => Value.string ⟨z.toArray⟩) (fun a => rfl) zs

theorem glob_ints {P : Program} {laid : List (String × DataW Unit)} {W : World} (h : laidMetH P laid W) (name : String) (k : IntKind) (zs : List Int) (hf : (laid.filter fun x => x.1 == name) = [(name, Lib.tabData k zs)]) {g : Nat} {t e : TypeId} {n : Nat}
    (hg : P.globalNamed name = some g) (hty : (P.globals[g]?).map (·.type) = some t) (ht : P.underlying t = some (.array n e)) (he : P.underlying e = some (.int k)) (hce : P.cellsOf e = 1) (hct : P.cellsOf t = n) :
    ∃ C e fr, (roW W).ro g = some (.cells C e fr) ∧ (zs.map (XV.int k)).length ≤ C.size ∧ relL (roW W).pure (zs.map (XV.int k)) (C.toList.take (zs.map (XV.int k)).length) := by
  obtain ⟨C, e', fr, fuel, p, hC, hd⟩ := laid_one h name _ hf rfl hg hty
  have hcs := Lib.cells_of_tab ht he hce hct hd
  have hlen : C.size = zs.length := by have := congrArg List.length hcs; simpa using this
  refine ⟨C, e', fr, hC, by simp [hlen], ?_⟩
  rw [hcs, List.length_map, ← List.length_map (f := fun z : Int => Value.int k z), List.take_length]
  exact relL_map (f := XV.int k) (g := fun z : Int => Value.int k z) (fun a => rfl) zs

mutual
/-- Cells of a datum without memory of its own. -/
def litCells {H : Type} : DataW H → List Value
  | .lit l => [l.value]
  | .agg ps => litCellsL ps
  | _ => []
def litCellsL {H : Type} : List (DataW H) → List Value
  | [] => []
  | d :: r => litCells d ++ litCellsL r
end

/-- A world for the witness: listed variables hold what is listed. -/
noncomputable def layAt (w : World) (g : Nat) (cs : List Value) : World :=
  { w with heap := w.heap.modify g fun
      | .cells _ t frozen => .cells cs.toArray t frozen
      | o => o }

end Go.X
