/- Each operation of X that has no call does what the program's operation does: cuts, conversions, comparisons. Each operation of X that has no call does what the program's operation does: appends, rows made, iterators, maps. Each operation of X that has no call does what the program's operation does: the rest. The library's unsafe operations, as far as a strings.Builder needs them. Every compiled operation that has no call does what the program's operation does. Runs of compiled code; what a call says; values laid open at a call. Every compiled operation, in the program's text order: what it does to the frame and the world. -/
import Derived.Test.YtnifjgdhgnmhmaaGreatDoorM1
import Derived.Deep.Upon
import Derived.Lib.UnsafeStr
import Derived.Lib.Builder
import Derived.KernelRfl
import Derived.Laws.Externs
import Derived.LaidEql
import Derived.Orders
namespace Go.X
open Go

section
variable {P : Program} {E : Env} {σ : Ctx} {T : List XV} {H : Heap} {a : Act} {w : World} {o : Oper}

theorem run_sliceBound (k : IntKind) (n y : Nat) (c : BoundsCode) (h : n ≤ y) : (Instr.sliceBound (.int k (n : Int)) y c).run P w = .ok n w := by
  have h2 : (n : Int) ≤ (y : Int) := by omega
  simp [Instr.sliceBound, asIntOf, h]

theorem bound_val {x : Option Operand} {y : Option XO} {d n : Nat} (hg : globOk E σ) (hT : relL σ T a.tmps.toList) (hx : cOo x = some y) (hb : bound (y.map (ev E T)) d = some n) :
    (x = none ∧ n = d) ∨ ∃ p k, x = some p ∧ a.eval p = .int k (n : Int) := by
  cases x with
  | none => simp [cOo] at hx; subst hx; simp [bound] at hb; exact .inl ⟨rfl, hb.symm⟩
  | some p =>
    right
    simp only [cOo] at hx
    cases hp : cO p with
    | none => simp [hp] at hx
    | some q =>
      simp [hp] at hx
      subst hx
      simp [bound] at hb
      obtain ⟨k, hk⟩ := asNat_eq hb
      have := rel_ev hg hT hp
      rw [hk] at this
      exact ⟨p, k, rfl, rel_int this⟩

theorem run_sliceBounds {lo hi : Option Operand} {lo' hi' : Option XO} {len cap l h' : Nat} (sl : Bool) (hg : globOk E σ) (hT : relL σ T a.tmps.toList) (hl : cOo lo = some lo') (hh : cOo hi = some hi')
    (hbh : bound (hi'.map (ev E T)) len = some h') (hbl : bound (lo'.map (ev E T)) 0 = some l) (hlc : h' ≤ cap) (hle : l ≤ h') :
    (Instr.sliceBounds sl len cap (lo.map a.eval) (hi.map a.eval) none).run P w = .ok (l, h', cap) w := by
  rcases bound_val hg hT hl hbl with ⟨rfl, rfl⟩ | ⟨p, k, rfl, hp⟩ <;> rcases bound_val hg hT hh hbh with ⟨rfl, rfl⟩ | ⟨q, k', rfl, hq⟩ <;>
    simp [Instr.sliceBounds, *, run_sliceBound]

theorem op_slice_str (h : WF σ H w) (hg : globOk E σ) (hT : relL σ T a.tmps.toList) {t : TypeId} {x : Operand} {lo hi : Option Operand} {y : XO} {lo' hi' : Option XO} (ho : o.op = .slice t x lo hi none) (hx : cO x = some y)
    (hlo : cOo lo = some lo') (hhi : cOo hi = some hi') (hd : P.underlying t = some .string) {z : Nat}
    {v : XV} {K : Heap} {call : CallF} (hv : xop E call (.slice true z y lo' hi') T H = some (.val v K)) : OpRes P o a σ H w v K := by
  have hr := rel_ev hg hT hx
  simp only [xop] at hv
  generalize ev E T y = p at hv hr
  cases p <;> simp only [reduceCtorEq] at hv
  rename_i s
  split at hv
  · rename_i h' l h1 h2
    split at hv
    · rename_i hk
      cases hv
      exact .still h (v' := .string ⟨((s.take h').drop l).toArray⟩) (by
        simp [execOp, ho, Instr.sliceAt, run_underlying hd, Instr.slice, rel_strv hr, ba_size, run_sliceBounds (P := P) (w := w) false hg hT hlo hhi h1 h2 hk.1 hk.2, ba_extract]) rfl
    · cases hv
  · cases hv

theorem op_slice (h : WF σ H w) (hg : globOk E σ) (hT : relL σ T a.tmps.toList) {t e : TypeId} {x : Operand} {lo hi : Option Operand} {y : XO} {lo' hi' : Option XO} (ho : o.op = .slice t x lo hi none) (hx : cO x = some y)
    (hlo : cOo lo = some lo') (hhi : cOo hi = some hi') (hd : P.underlying t = some (.slice e)) {s : Nat} (hs : cSize P e = some s)
    {v : XV} {K : Heap} {call : CallF} (hv : xop E call (.slice false s y lo' hi') T H = some (.val v K)) : OpRes P o a σ H w v K := by
  have hr := rel_ev hg hT hx
  simp only [xop] at hv
  generalize ev E T y = p at hv hr
  cases p <;> simp only [reduceCtorEq] at hv
  · rename_i b off len e2
    obtain ⟨B, base, n, hb, o', cap, he, hlc, hoo⟩ := hr
    split at hv
    · rename_i h' l h1 h2
      split at hv
      · rename_i hk
        obtain ⟨hk1, hk2, rfl⟩ := hk
        cases hv
        refine .still h (v' := .slice (if cap = l then some ⟨B, o', none⟩ else some ⟨B, o' + l * e2, none⟩) (h' - l) (cap - l)) ?_ ?_
        · simp [execOp, ho, Instr.sliceAt, run_underlying hd, Instr.slice, he, run_sliceBounds (P := P) (w := w) true hg hT hlo hhi h1 h2 (Nat.le_trans hk1 hlc) hk2, run_size hs, add_none]
        · refine ⟨B, base, n, hb, if cap = l then o' else o' + l * e2, cap - l, by split <;> rfl, by omega, ?_⟩
          by_cases hc : cap = l
          · right; omega
          · rcases hoo with ⟨rfl, h3⟩ | rfl
            · left
              simp only [if_neg hc]
              refine ⟨by omega, ?_⟩
              have : l * e2 + (cap - l) * e2 = cap * e2 := by rw [← Nat.add_mul]; congr 1; omega
              omega
            · right; omega
      · cases hv
    · cases hv
  · rename_i len cs
    rcases hr with ⟨B, off, cap, he, hlc, hc⟩ | ⟨rfl, rfl, ad, cap, he⟩
    rotate_left
    · split at hv
      · rename_i h' l h1 h2
        split at hv
        · rename_i hk
          obtain ⟨hk1, hk2, _⟩ := hk
          obtain rfl : h' = 0 := by omega
          obtain rfl : l = 0 := by omega
          cases hv
          refine .still h (v' := .slice (some ad) 0 cap) ?_ ?_
          · simp [execOp, ho, Instr.sliceAt, run_underlying hd, Instr.slice, he, run_sliceBounds (P := P) (w := w) true hg hT hlo hhi h1 h2 (Nat.zero_le cap) (Nat.le_refl 0), run_size hs, Addr.add]
          · exact .inr ⟨rfl, by simp, ad, cap, rfl⟩
        · cases hv
      · cases hv
    split at hv
    · rename_i h' l h1 h2
      split at hv
      · rename_i hk
        cases hv
        refine .still h (v' := .slice (if cap = l then some ⟨B, off, none⟩ else some ⟨B, off + l * s, none⟩) (h' - l) (cap - l)) ?_ ?_
        · simp [execOp, ho, Instr.sliceAt, run_underlying hd, Instr.slice, he, run_sliceBounds (P := P) (w := w) true hg hT hlo hhi h1 h2 (Nat.le_trans hk.1 hlc) hk.2.1, run_size hs, add_none]
        · refine .inl ⟨B, if cap = l then off else off + l * s, cap - l, by split <;> rfl, by omega, ?_⟩
          by_cases hcl : cap = l
          · left
            have : h' = l := by omega
            subst this
            simp
          · rcases hc with rfl | ⟨C, e', fr, hro, hle2, hrel⟩
            · left; simp
            · right
              refine ⟨C, e', fr, hro, ?_, ?_⟩
              · simp only [if_neg hcl, List.length_drop, List.length_take]
                have : l * s ≤ h' * s := Nat.mul_le_mul_right _ hk.2.1
                omega
              · simp only [if_neg hcl]
                have hd2 := relL_drop (l * s) (relL_take (h' * s) hrel)
                have e : List.drop (l * s) (List.take (h' * s) (List.take cs.length (List.drop off C.toList))) = List.take (List.drop (l * s) (List.take (h' * s) cs)).length (List.drop (off + l * s) C.toList) := by
                  rw [List.take_take, List.drop_take, List.drop_drop, List.length_drop, List.length_take]
                rw [e] at hd2
                exact hd2
      · cases hv
    · cases hv
  · have he : a.eval x = .slice none 0 0 := hr
    split at hv
    · rename_i h1 h2
      cases hv
      exact .still h (v' := .slice none 0 0) (by
        simp [execOp, ho, Instr.sliceAt, run_underlying hd, Instr.slice, he, run_sliceBounds (P := P) (w := w) true hg hT hlo hhi h1 h2 (Nat.le_refl _) (Nat.le_refl _), run_size hs]) rfl
    · cases hv

theorem op_sliceA (h : WF σ H w) (hg : globOk E σ) (hT : relL σ T a.tmps.toList) {t e : TypeId} {len : Nat} {x : Operand} {lo hi : Option Operand} {y : XO} {lo' hi' : Option XO} (ho : o.op = .slice t x lo hi none) (hx : cO x = some y)
    (hlo : cOo lo = some lo') (hhi : cOo hi = some hi') (hd : P.underlying t = some (.array len e)) {s : Nat} (hs : cSize P e = some s)
    {v : XV} {K : Heap} {call : CallF} (hv : xop E call (.sliceA len s y lo' hi') T H = some (.val v K)) : OpRes P o a σ H w v K := by
  have hr := rel_ev hg hT hx
  simp only [xop] at hv
  generalize ev E T y = p at hv hr
  cases p <;> simp only [reduceCtorEq] at hv
  rename_i b off
  obtain ⟨B, base, n, hb, he⟩ := hr
  split at hv
  · rename_i h' l cs h1 h2 hcs
    split at hv
    · rename_i hk
      obtain ⟨hk1, hk2, hk3⟩ := hk
      cases hv
      obtain ⟨C, e', fr, hB, hn, _, hle, _⟩ := h.cells hcs hb
      refine .still h (v' := .slice (some (if len = l then ⟨B, base + off, none⟩ else ⟨B, base + off + l * s, none⟩)) (h' - l) (len - l)) ?_ ?_
      · simp [execOp, ho, Instr.sliceAt, run_underlying hd, he, Instr.sureAddr, run_sliceBounds (P := P) (w := w) false hg hT hlo hhi h1 h2 hk1 hk2, run_size hs, add_none]
      · refine ⟨B, base, n, hb, if len = l then base + off else base + off + l * s, len - l, by split <;> rfl, by omega, ?_⟩
        by_cases hc : len = l
        · right; omega
        · left
          simp only [if_neg hc]
          refine ⟨by omega, ?_⟩
          have : l * s + (len - l) * s = len * s := by rw [← Nat.add_mul]; congr 1; omega
          omega
    · cases hv
  · cases hv


theorem loadBytes_str : ∀ {cs : List XV} {l : List UInt8} {vs : List Value}, bytesOf cs = some l → relL σ cs vs → ∃ ns : List Int, vs = ns.map (Value.int .u8) ∧ l = ns.map fun n => UInt8.ofNat n.toNat
  | [], l, vs, h, hr => by simp [bytesOf] at h; subst h; simp only [relL] at hr; subst hr; exact ⟨[], rfl, rfl⟩
  | x :: r, l, vs, h, hr => by
    simp only [relL] at hr
    obtain ⟨v, vs', rfl, hv, hr'⟩ := hr
    cases x <;> (try (simp [bytesOf] at h; done))
    rename_i k n
    cases k <;> (try (simp [bytesOf] at h; done))
    simp only [bytesOf] at h
    cases hb : bytesOf r with
    | none => simp [hb] at h
    | some l' =>
      simp [hb] at h
      subst h
      obtain ⟨ns, h1, h2⟩ := loadBytes_str hb hr'
      exact ⟨n :: ns, by rw [rel_int hv, h1]; rfl, by rw [h2]; rfl⟩

theorem run_bytes {f : Value → ByteArray → Sem (ForInStep ByteArray)} (hf : ∀ n s, f (.int .u8 n) s = pure (.yield (s.push (UInt8.ofNat n.toNat)))) (w : World) : ∀ (ns : List Int) (s : ByteArray),
    (forIn (m := Sem) (ns.map (Value.int .u8)) s f).run P w = .ok ⟨(s.data.toList ++ ns.map fun n => UInt8.ofNat n.toNat).toArray⟩ w
  | [], s => by simp
  | n :: ns, s => by
    simp only [List.map_cons, List.forIn_cons, Sem.run_bind, Sem.run_pure, Result.andThen_ok, hf]
    rw [run_bytes hf w ns]
    congr 2
    simp [ByteArray.push]

theorem op_convB (h : WF σ H w) (hg : globOk E σ) (hT : relL σ T a.tmps.toList) {t u e : TypeId} {x : Operand} {y : XO} (ho : o.op = .convert t u x) (hx : cO x = some y)
    (ht : P.underlying t = some (.slice e)) (hu : P.underlying u = some .string) (he : P.underlying e = some (.int .u8))
    {v : XV} {K : Heap} {call : CallF} (hv : xop E call (.convB y) T H = some (.val v K)) : OpRes P o a σ H w v K := by
  have hr := rel_ev hg hT hx
  simp only [xop] at hv
  generalize ev E T y = p at hv hr
  have conv : ∀ {B off len cap : Nat} {C : Array Value} {e' : TypeId} {fr : Nat × Nat} {l : List UInt8} {cs : List XV}, a.eval x = .slice (some ⟨B, off, none⟩) len cap → w.heap[B]? = some (.cells C e' fr) → off + len ≤ C.size →
      bytesOf cs = some l → relL σ cs ((C.toList.drop off).take len) → (execOp a.eval o).run P w = .ok (.value (.string ⟨l.toArray⟩)) w := by
    intro B off len cap C e' fr l cs hce hB hle hb hrel
    obtain ⟨ns, h1, h2⟩ := loadBytes_str hb hrel
    have hl := run_loadCells_at (P := P) (w := w) hB hle
    rw [h1] at hl
    simp only [execOp, ho, convert, run_underlying ht, run_underlying hu, run_underlying he, hce, Conv.bytesToString, Sem.run_bind, Result.andThen_ok, hl, Sem.run_pure]
    rw [← Array.forIn_toList]
    rw [run_bytes (P := P) (fun _ _ => rfl) w ns, h2]
    simp
  cases p <;> simp only [reduceCtorEq] at hv
  · rename_i b off len esz
    obtain ⟨B, base, n, hb, o', cap, hce, hlc, hoo⟩ := hr
    split at hv
    · rename_i h1
      subst h1
      split at hv
      · rename_i cs hcs
        obtain ⟨hb2, rfl⟩ := okv_eq hv
        obtain ⟨C, e', fr, hB, hn, _, hle, hrel⟩ := h.cells hcs hb
        cases ht2 : takeAt cs off len with
        | none => simp [ht2] at hb2
        | some r =>
          obtain ⟨h3, rfl⟩ := takeAt_eq ht2
          cases hbo : bytesOf ((cs.drop off).take len) with
          | none => simp [ht2, hbo] at hb2
          | some l =>
            simp [ht2, hbo] at hb2
            subst hb2
            rcases hoo with ⟨rfl, _⟩ | rfl
            · exact .still h (conv hce hB (by omega) hbo (relL_at hrel h3)) rfl
            · have : len = 0 := by omega
              subst this
              simp [bytesOf] at hbo
              subst hbo
              exact .still h (v' := .string ⟨#[]⟩) (by
                simp only [execOp, ho, convert, run_underlying ht, run_underlying hu, run_underlying he, hce, Conv.bytesToString, Sem.run_bind, Result.andThen_ok, loadCells, loadCellsFrom, Sem.run_pure]
                rfl) rfl
      · cases hv
    · cases hv
  · rename_i len cs
    rcases hr with ⟨B, off, cap, hce, hlc, hc⟩ | ⟨rfl, rfl, ad, cap, hce⟩
    rotate_left
    · obtain ⟨hb2, rfl⟩ := okv_eq hv
      simp [takeAt, bytesOf] at hb2
      subst hb2
      exact .still h (v' := .string ⟨#[]⟩) (by
        simp only [execOp, ho, convert, run_underlying ht, run_underlying hu, run_underlying he, hce, Conv.bytesToString, Sem.run_bind, Result.andThen_ok, loadCells, loadCellsFrom, Sem.run_pure]
        rfl) rfl
    obtain ⟨hb2, rfl⟩ := okv_eq hv
    cases ht2 : takeAt cs 0 len with
    | none => simp [ht2] at hb2
    | some r =>
      obtain ⟨h3, rfl⟩ := takeAt_eq ht2
      rw [List.drop_zero] at ht2
      cases hbo : bytesOf (cs.take len) with
      | none => simp [ht2, hbo] at hb2
      | some l =>
        simp [ht2, hbo] at hb2
        subst hb2
        rcases hc with rfl | ⟨C, e', fr, hro, hle2, hrel⟩
        · have : len = 0 := by simpa using h3
          subst this
          simp [bytesOf] at hbo
          subst hbo
          exact .still h (v' := .string ⟨#[]⟩) (by
            simp only [execOp, ho, convert, run_underlying ht, run_underlying hu, run_underlying he, hce, Conv.bytesToString, Sem.run_bind, Result.andThen_ok, loadCells, loadCellsFrom, Sem.run_pure]
            rfl) rfl
        · refine .still h (conv hce (h.ro _ _ hro) (by omega) hbo ?_) rfl
          have := relL_take len (relL_mono σ.pure_le hrel)
          rw [List.take_take] at this
          rwa [Nat.min_eq_left (by omega)] at this
  · have hce : a.eval x = .slice none 0 0 := hr
    cases hv
    exact .still h (v' := .string ⟨#[]⟩) (by
      simp only [execOp, ho, convert, run_underlying ht, run_underlying hu, run_underlying he, hce, Conv.bytesToString, Sem.run_bind, Result.andThen_ok, Sem.run_pure]
      rfl) rfl


theorem op_convBs (h : WF σ H w) (hg : globOk E σ) (hT : relL σ T a.tmps.toList) {t u e : TypeId} {x : Operand} {y : XO} (ho : o.op = .convert t u x) (hx : cO x = some y)
    (ht : P.underlying t = some .string) (hu : P.underlying u = some (.slice e)) (he : P.underlying e = some (.int .u8))
    {v : XV} {K : Heap} {call : CallF} (hv : xop E call (.convBs y) T H = some (.val v K)) : OpRes P o a σ H w v K := by
  have hr := rel_ev hg hT hx
  simp only [xop] at hv
  generalize ev E T y = p at hv hr
  cases p <;> simp only [reduceCtorEq] at hv
  rename_i s
  cases hv
  have hs := rel_strv hr
  have hq : ∃ cap, ((s.length : Nat) ≤ cap) ∧ (choose (.appendCap s.length 0 e)).run P w = .ok cap w.drew := by
    refine ⟨_, ?_, by simp only [run_choose, Question.forced]; rfl⟩
    simp only [Question.cut]; omega
  obtain ⟨cap, hc1, hc2⟩ := hq
  let C : Array Value := (s.toArray.map fun b => Value.int .u8 (b.toNat : Int)) ++ Array.replicate (cap - s.length) (.int .u8 0)
  have hCs : C.size = cap := by simp [C]; omega
  let u2 : World := (w.drew.alloc (.cells C e (0, 0))).freeze ⟨w.heap.size, cap, none⟩ 1
  have hu2 : u2.heap = w.heap.push (.cells C e (cap, cap + 1)) := by
    simp only [u2, World.freeze, World.alloc, World.drew]
    simp
    apply Array.ext
    · simp
    · intro i h1 h2
      simp only [Array.getElem_modify, Array.getElem_push]
      simp at h2
      by_cases e2 : i = w.heap.size
      · subst e2; simp
      · have : i < w.heap.size := by omega
        simp [this, Ne.symm e2]
  have hnone : σ.blk H.length = none := by
    cases hb : σ.blk H.length with
    | none => rfl
    | some y => have := h.dom _ _ hb; omega
  have hrel : ∀ σ' : Ctx, relL σ' (cellsOfStr s) (C.toList.take (cellsOfStr s).length) := by
    intro σ'
    simp only [C, cellsOfStr, List.length_map, Array.toList_append, Array.toList_map]
    rw [List.take_left' (by simp)]
    exact relL_map (f := fun b : UInt8 => XV.int .u8 (b.toNat : Int)) (g := fun b : UInt8 => Value.int .u8 (b.toNat : Int)) (fun b => rfl) s
  obtain ⟨h1, h2⟩ := Step.alloc (n := C.size) (o := .cells C e (cap, cap + 1)) (x := .cells (cellsOfStr s)) h (fun u' hu' => ⟨C, e, (cap, cap + 1), hu', rfl, .inr (by simp [hCs]), by simp [cellsOfStr, hCs]; exact hc1, by simpa using hrel _⟩) u2 hu2
  refine ⟨.slice (some ⟨w.heap.size, 0, none⟩) s.length cap, u2, _, .inl ?_, ⟨_, _, _, h2, 0, cap, rfl, hc1, .inl ⟨by simp, by rw [hCs]; omega⟩⟩, h1⟩
  have hsz : (w.drew.alloc (.cells C e (0, 0))).shape? w.heap.size = some (e, cap) := by
    have e3 : (w.drew.alloc (.cells C e (0, 0))).heap = w.heap.push (.cells C e (0, 0)) := rfl
    simp only [World.shape?, e3]
    simp [hCs]
  simp only [execOp, ho, convert, run_underlying ht, run_underlying hu, run_underlying he, hs, Conv.stringToBytes, Sem.run_bind, Result.andThen_ok, ba_size, hc2, Sem.run_pure, newRow, run_newObj, markStringish, run_shape]
  rw [show ({ w.drew with heap := w.drew.heap.push (Obj.cells ((s.toArray.map fun b => Value.int .u8 (b.toNat : Int)) ++ Array.replicate (cap - s.length) (.int .u8 0)) e) } : World) = w.drew.alloc (.cells C e (0, 0)) from rfl]
  rw [show w.drew.heap.size = w.heap.size from rfl, hsz]
  simp only [run_freeze, Result.andThen_ok]
  rfl

/-! ### comparisons -/

theorem run_equal_nil {t : TypeId} {d : TypeDesc} (hd : P.underlying t = some d) {k : EqK} (hk : (k = .nilS ∧ ∃ e, d = .slice e) ∨ (k = .nilP ∧ ∃ e, d = .pointer e) ∨ (k = .nilF ∧ ∃ p r v, d = .func p r v) ∨ (k = .nilI ∧ ∃ ms, d = .interface ms))
    {x y : XV} {p q : Value} (hx : rel σ x p) (hy : rel σ y q) {b : Bool} (hb : nilEq k x y = some b) (w : World) (dd : Nat) : (Op.equalIn (dd + 1) t p q).run P w = .ok b w := by
  have hu := run_underlying hd w
  rcases hk with ⟨rfl, e, rfl⟩ | ⟨rfl, e, rfl⟩ | ⟨rfl, pp, r, v, rfl⟩ | ⟨rfl, ms, rfl⟩
  · cases x <;> cases y <;> simp [nilEq, isNil] at hb <;> subst hb
    · obtain ⟨B, base, n, _, o', cap, rfl, _⟩ := hx
      obtain rfl : q = .slice none 0 0 := hy
      simp [Op.equalIn, hu]
    · obtain rfl : q = .slice none 0 0 := hy
      rcases hx with ⟨B, off, cap, rfl, _⟩ | ⟨rfl, _, ad, cap, rfl⟩ <;> simp [Op.equalIn, hu]
    · obtain ⟨B, base, n, _, o', cap, rfl, _⟩ := hy
      obtain rfl : p = .slice none 0 0 := hx
      simp [Op.equalIn, hu]
    · obtain rfl : p = .slice none 0 0 := hx
      rcases hy with ⟨B, off, cap, rfl, _⟩ | ⟨rfl, _, ad, cap, rfl⟩ <;> simp [Op.equalIn, hu]
    · obtain rfl : q = .slice none 0 0 := hy
      obtain rfl : p = .slice none 0 0 := hx
      simp [Op.equalIn, hu]
  · cases x <;> cases y <;> simp [nilEq, isNil] at hb <;> subst hb
    · obtain ⟨B, base, n, _, rfl⟩ := hx
      obtain rfl : q = .pointer none := hy
      simp [Op.equalIn, hu]
    · obtain ⟨B, off, rfl, _⟩ := hx
      obtain rfl : q = .pointer none := hy
      simp [Op.equalIn, hu]
    · obtain ⟨B, base, n, _, rfl⟩ := hy
      obtain rfl : p = .pointer none := hx
      simp [Op.equalIn, hu]
    · obtain ⟨B, off, rfl, _⟩ := hy
      obtain rfl : p = .pointer none := hx
      simp [Op.equalIn, hu]
    · obtain rfl : q = .pointer none := hy
      obtain rfl : p = .pointer none := hx
      simp [Op.equalIn, hu]
  · cases x <;> cases y <;> simp [nilEq, isNil] at hb <;> subst hb
    · obtain ⟨_, _, rfl, _⟩ := hx
      obtain rfl : q = .nilFunc := hy
      simp [Op.equalIn, hu]
    · obtain ⟨_, _, rfl, _⟩ := hy
      obtain rfl : p = .nilFunc := hx
      simp [Op.equalIn, hu]
    · obtain rfl : q = .nilFunc := hy
      obtain rfl : p = .nilFunc := hx
      simp [Op.equalIn, hu]
  · cases x <;> cases y <;> simp [nilEq, isNil] at hb <;> subst hb
    · obtain ⟨_, rfl, _⟩ := hx
      obtain rfl : q = .nilIface := hy
      simp [Op.equalIn, hu]
    · obtain ⟨_, rfl, _⟩ := hy
      obtain rfl : p = .nilIface := hx
      simp [Op.equalIn, hu]
    · obtain rfl : q = .nilIface := hy
      obtain rfl : p = .nilIface := hx
      simp [Op.equalIn, hu]

theorem flatFields_some {P : Program} {f : Field} {r : List Field} {n : Nat} {ks : List FK} (h : flatFields P (f :: r) n = some ks) : f.name ≠ "_" ∧ f.offset = n ∧ ∃ k l, ks = k :: l ∧ flatFields P r (n + 1) = some l ∧
    ((k = .b ∧ P.underlying f.type = some .bool) ∨ (k = .i ∧ ∃ k, P.underlying f.type = some (.int k)) ∨ (k = .s ∧ P.underlying f.type = some .string)) := by
  simp only [flatFields] at h
  split at h
  · rename_i h1
    refine ⟨h1.1, h1.2, ?_⟩
    split at h <;> cases h
    · rename_i l hu hl; exact ⟨_, l, rfl, hl, .inl ⟨rfl, hu⟩⟩
    · rename_i l k hu hl; exact ⟨_, k, rfl, hl, .inr (.inl ⟨rfl, _, hu⟩)⟩
    · rename_i l hu hl; exact ⟨_, l, rfl, hl, .inr (.inr ⟨rfl, hu⟩)⟩
  · cases h

/-- Two structs of whole numbers, bools and strings. -/
theorem run_eqFields (d : Nat) (X Y : Array Value) : ∀ (fs : List Field) (n : Nat) (ks : List FK) (xs ys : List XV) {b : Bool}, flatFields P fs n = some ks → flatEq ks xs ys = some b →
    relL σ xs (X.toList.drop n) → relL σ ys (Y.toList.drop n) → (Op.eqFields (d + 1) X Y fs).run P w = .ok b w
  | [], n, ks, xs, ys, b, hf, hb, _, _ => by
    simp [flatFields] at hf
    subst hf
    cases xs <;> cases ys <;> simp [flatEq] at hb
    subst hb
    simp [Op.eqFields]
  | f :: r, n, ks, xs, ys, b, hf, hb, hx, hy => by
    obtain ⟨h1, h2, k, l, rfl, h4, h3⟩ := flatFields_some hf
    cases xs with
    | nil => cases k <;> simp [flatEq] at hb
    | cons x xs =>
      cases ys with
      | nil => cases k <;> cases x <;> simp [flatEq] at hb
      | cons y ys =>
        simp only [relL] at hx hy
        obtain ⟨p, X', hX, hp, hX'⟩ := hx
        obtain ⟨q, Y', hY, hq, hY'⟩ := hy
        have hXn : X[n]? = some p := by
          have : (X.toList.drop n)[0]? = some p := by rw [hX]; rfl
          simpa using this
        have hYn : Y[n]? = some q := by
          have : (Y.toList.drop n)[0]? = some q := by rw [hY]; rfl
          simpa using this
        have hX2 : X.toList.drop (n + 1) = X' := by rw [← List.drop_drop, hX]; rfl
        have hY2 : Y.toList.drop (n + 1) = Y' := by rw [← List.drop_drop, hY]; rfl
        have hag : ∃ dd, P.underlying f.type = some dd ∧ aggD dd = false := by
          rcases h3 with ⟨_, h⟩ | ⟨_, k, h⟩ | ⟨_, h⟩ <;> exact ⟨_, h, rfl⟩
        obtain ⟨dd, hdd, hagd⟩ := hag
        have hpx : (part f.type X f.offset).run P w = .ok p w := by simp [part, run_isAgg hdd, hagd, h2, hXn]
        have hpy : (part f.type Y f.offset).run P w = .ok q w := by simp [part, run_isAgg hdd, hagd, h2, hYn]
        have key : ∃ e : Bool, (Op.equalIn (d + 1) f.type p q).run P w = .ok e w ∧ (if e then flatEq l xs ys = some b else b = false) := by
          rcases h3 with ⟨rfl, hu⟩ | ⟨rfl, kk, hu⟩ | ⟨rfl, hu⟩
          · cases x <;> cases y <;> simp only [flatEq, reduceCtorEq] at hb
            rename_i a1 a2
            obtain rfl := rel_bool hp
            obtain rfl := rel_bool hq
            refine ⟨a1 == a2, run_equalIn_bool' w d _ _ _ hu, ?_⟩
            by_cases e : a1 = a2
            · simp [e] at hb ⊢; exact hb
            · simp [e] at hb ⊢; exact hb
          · cases x <;> cases y <;> simp only [flatEq, reduceCtorEq] at hb
            rename_i k1 a1 k2 a2
            obtain rfl := rel_int hp
            obtain rfl := rel_int hq
            split at hb
            · rename_i hk
              subst hk
              refine ⟨a1 == a2, run_equalIn_int w d _ _ _ _ _ hu, ?_⟩
              by_cases e : a1 = a2
              · simp [e] at hb ⊢; exact hb
              · simp [e] at hb ⊢; exact hb
            · cases hb
          · cases x <;> cases y <;> simp only [flatEq, reduceCtorEq] at hb
            rename_i a1 a2
            obtain rfl := rel_strv hp
            obtain rfl := rel_strv hq
            refine ⟨a1 == a2, ?_, ?_⟩
            · rw [run_equalIn_string w d _ _ _ hu]; simp
            · by_cases e : a1 = a2
              · simp [e] at hb ⊢; exact hb
              · simp [e] at hb ⊢; exact hb
        obtain ⟨e, he1, he2⟩ := key
        simp only [Op.eqFields]
        rw [if_pos h1]
        simp only [Sem.run_bind, hpx, hpy, Result.andThen_ok, he1]
        cases e
        · simp at he2 ⊢; rw [he2]
        · simp at he2 ⊢
          exact run_eqFields d X Y r (n + 1) l xs ys h4 he2 (hX2 ▸ hX') (hY2 ▸ hY')

theorem run_binOp_eql {t : TypeId} {p q : Value} (h1 : ∀ k n, p ≠ .int k n) (h2 : ∀ k n, p ≠ .float k n) (h3 : ∀ k m n, p ≠ .complex k m n) (h4 : ∀ s, p ≠ .string s) (neg : Bool) {b : Bool}
    (hb : (Op.equal t p q).run P w = .ok b w) : (binOp (if neg then .neq else .eql) t p q).run P w = .ok (.bool (if neg then !b else b)) w := by
  cases neg <;> cases p <;> first
    | exact absurd rfl (h1 _ _)
    | exact absurd rfl (h2 _ _)
    | exact absurd rfl (h3 _ _ _)
    | exact absurd rfl (h4 _)
    | (simp [binOp, hb]; done)

theorem aggD_k {k : EqK} {t : TypeId} (hk : cEqK P t = some k) : (k = .bool ∧ P.underlying t = some .bool) ∨
    (∃ d, P.underlying t = some d ∧ ((k = .nilS ∧ ∃ e, d = .slice e) ∨ (k = .nilP ∧ ∃ e, d = .pointer e) ∨ (k = .nilF ∧ ∃ p r v, d = .func p r v) ∨ (k = .nilI ∧ ∃ ms, d = .interface ms))) ∨
    (∃ fs ks, k = .flat ks ∧ P.underlying t = some (.struct fs) ∧ flatFields P fs.toList 0 = some ks ∧ P.stoodInHeld t = false ∧ P.eqGuardType P.depth t = false) := by
  unfold cEqK at hk
  split at hk
  · rename_i h; cases hk; exact .inl ⟨rfl, h⟩
  · rename_i e h; cases hk; exact .inr (.inl ⟨_, h, .inl ⟨rfl, e, rfl⟩⟩)
  · rename_i e h; cases hk; exact .inr (.inl ⟨_, h, .inr (.inl ⟨rfl, e, rfl⟩)⟩)
  · rename_i p r v h; cases hk; exact .inr (.inl ⟨_, h, .inr (.inr (.inl ⟨rfl, p, r, v, rfl⟩))⟩)
  · rename_i ms h; cases hk; exact .inr (.inl ⟨_, h, .inr (.inr (.inr ⟨rfl, ms, rfl⟩))⟩)
  · rename_i fs h
    split at hk
    · rename_i hh
      simp at hh
      cases hf : flatFields P fs.toList 0 with
      | none => simp [hf] at hk
      | some ks => simp [hf] at hk; exact .inr (.inr ⟨fs, ks, hk.symm, h, hf, hh.1, hh.2⟩)
    · cases hk
  · cases hk

theorem nil_vals {k : EqK} {p q : XV} {e : Bool} (h : nilEq k p q = some e) {v : Value} (hr : rel σ p v) : (∀ k n, v ≠ .int k n) ∧ (∀ k n, v ≠ .float k n) ∧ (∀ k m n, v ≠ .complex k m n) ∧ (∀ s, v ≠ .string s) ∧ (∀ cs, v ≠ .agg cs) ∧ (k ≠ .nilI → v ≠ .nilIface) := by
  cases k <;> cases p <;> simp [nilEq, isNil] at h <;> first
    | (obtain rfl := hr; simp; done)
    | (obtain ⟨_, _, _, _, rfl⟩ := hr; simp; done)
    | (obtain ⟨_, _, rfl, _⟩ := hr; simp; done)
    | (obtain ⟨_, _, _, _, _, _, rfl, _⟩ := hr; simp; done)
    | (rcases hr with ⟨_, _, _, rfl, _⟩ | ⟨rfl, _, _, _, rfl⟩ <;> simp; done)
    | (obtain ⟨_, _, _, rfl, _⟩ := hr; simp; done)
    | (obtain ⟨_, rfl, _⟩ := hr; simp; done)

theorem xeq_nil {k : EqK} {p q : XV} (h1 : k ≠ .bool) (h2 : ∀ ks, k ≠ .flat ks) : xeq k p q = nilEq k p q := by
  cases k <;> first
    | exact absurd rfl h1
    | exact absurd rfl (h2 _)
    | (simp [xeq]; done)

theorem run_eqGuard_nil (op : BinOp) (t : TypeId) (x y : Operand) (p q : Value) (hc : isConstO x = true ∨ isConstO y = true) (h : ∀ cs, p ≠ .agg cs) : (eqGuard op t x y p q).run P w = .ok () w := by
  by_cases hp : p = .nilIface
  · subst hp
    cases q <;> cases op <;> first
      | (simp [eqGuard]; done)
      | (simp only [eqGuard]
         rcases hc with hc | hc
         · cases x <;> simp [isConstO] at hc
           simp
         · cases y <;> simp [isConstO] at hc
           simp)
  · exact run_eqGuard_other op t x y p q h hp w

/-- '==' and '!='. -/
theorem op_eq (h : WF σ H w) (hg : globOk E σ) (hT : relL σ T a.tmps.toList) {op : BinOp} {neg : Bool} {t u : TypeId} {x y : Operand} {x' y' : XO} {k : EqK} (ho : o.op = .binOp op t x y u) (hop : (op = .eql ∧ neg = false) ∨ (op = .neq ∧ neg = true))
    (hx : cO x = some x') (hy : cO y = some y') (hk : cEqK P t = some k) (hc : ¬ (k = .nilI ∧ isConstO x = false ∧ isConstO y = false))
    {v : XV} {K : Heap} {call : CallF} (hv : xop E call (.eq neg k x' y') T H = some (.val v K)) : OpRes P o a σ H w v K := by
  have hrx := rel_ev hg hT hx
  have hry := rel_ev hg hT hy
  simp only [xop] at hv
  obtain ⟨hb, rfl⟩ := okv_eq hv
  generalize ev E T x' = p at hb hrx
  generalize ev E T y' = q at hb hry
  cases hq : xeq k p q with
  | none => simp [hq] at hb
  | some e =>
    simp [hq] at hb
    have main : (do eqGuard op t x y (a.eval x) (a.eval y); binOp op t (a.eval x) (a.eval y) : Sem Value).run P w = .ok (.bool (if neg then !e else e)) w := by
      have hop' : op = if neg then .neq else .eql := by rcases hop with ⟨rfl, rfl⟩ | ⟨rfl, rfl⟩ <;> rfl
      rcases aggD_k hk with ⟨rfl, hu⟩ | ⟨d, hd, hkk⟩ | ⟨fs, ks, rfl, hu, hf, hs, he⟩
      · cases p <;> (try (simp [xeq, nilEq, isNil] at hq; done)) <;> cases q <;> (try (simp [xeq, nilEq, isNil] at hq; done))
        rename_i b1 b2
        simp [xeq] at hq
        rw [rel_bool hrx, rel_bool hry, Sem.run_bind, run_eqGuard_other op t x y _ _ (by simp) (by simp) w, hop']
        exact run_binOp_eql (by simp) (by simp) (by simp) (by simp) neg (by rw [← hq]; exact run_equalIn_bool' w 9999 t b1 b2 hu)
      · have hnb : k ≠ .bool := by rintro rfl; rcases hkk with ⟨h', _⟩ | ⟨h', _⟩ | ⟨h', _⟩ | ⟨h', _⟩ <;> cases h'
        have hnf : ∀ ks, k ≠ .flat ks := by rintro ks rfl; rcases hkk with ⟨h', _⟩ | ⟨h', _⟩ | ⟨h', _⟩ | ⟨h', _⟩ <;> cases h'
        rw [xeq_nil hnb hnf] at hq
        obtain ⟨n1, n2, n3, n4, n5, n6⟩ := nil_vals hq hrx
        have hgd : (eqGuard op t x y (a.eval x) (a.eval y)).run P w = .ok () w := by
          by_cases hki : k = .nilI
          · refine run_eqGuard_nil op t x y _ _ ?_ n5
            by_cases h1 : isConstO x = true
            · exact .inl h1
            · by_cases h2 : isConstO y = true
              · exact .inr h2
              · exact absurd ⟨hki, by simpa using h1, by simpa using h2⟩ hc
          · exact run_eqGuard_other op t x y _ _ n5 (n6 hki) w
        rw [Sem.run_bind, hgd, hop']
        exact run_binOp_eql n1 n2 n3 n4 neg (run_equal_nil hd hkk hrx hry hq w 9999)
      · cases p <;> (try (simp [xeq, nilEq, isNil] at hq; done)) <;> cases q <;> (try (simp [xeq, nilEq, isNil] at hq; done))
        simp only [xeq] at hq
        obtain ⟨X, hX, hrX⟩ := hrx
        obtain ⟨Y, hY, hrY⟩ := hry
        rw [hX, hY, Sem.run_bind, run_eqGuard_agg w op t x y X Y he, hop']
        refine run_binOp_eql (by simp) (by simp) (by simp) (by simp) neg ?_
        have hfs : P.fieldsOf t = fs := by simp [Program.fieldsOf, hu]
        have := run_equalIn_agg (P := P) w 9999 t X Y (by rw [hfs]; exact hu) hs
        show (Op.equalIn (9999 + 1) t (.agg X) (.agg Y)).run P w = _
        rw [this, hfs]
        exact run_eqFields 9998 X Y fs.toList 0 ks _ _ hf hq (by simpa using hrX) (by simpa using hrY)
    refine .still h (v' := .bool (if neg then !e else e)) ?_ (by rw [← hb]; rfl)
    simp only [execOp, ho, Sem.run_bind] at main ⊢
    rw [main]; rfl

end
end Go.X
namespace Go.X
open Go

section
variable {P : Program} {E : Env} {σ : Ctx} {T : List XV} {H : Heap} {a : Act} {w : World} {o : Oper}

theorem all_one {cs : List XV} {vs : List Value} (hr : relL σ cs vs) (ho : cs.all oneCell = true) : ∀ u ∈ vs, u.oneCell' = true := by
  intro u hu
  obtain ⟨i, hi⟩ := List.getElem?_of_mem hu
  have hlt : i < cs.length := by
    rcases Nat.lt_or_ge i cs.length with h' | h'
    · exact h'
    · have := relL_length hr; rw [List.getElem?_eq_none (by omega)] at hi; cases hi
  obtain ⟨u', hu', hru⟩ := relL_get i hr (List.getElem?_eq_getElem hlt)
  rw [hi] at hu'
  cases hu'
  exact rel_oneCell hru (List.all_eq_true.1 ho _ (List.getElem_mem hlt))

theorem src_of (h : WF σ H w) {x : XV} {v : Value} (hr : rel σ x v) {esz n : Nat} {nw : List XV} {st : Bool} (hn : newOf H st esz x = some (nw, n)) (h1 : nw.all oneCell = true) {u : TypeId}
    (hu : if st then P.underlying u = some .string else ∃ e, P.underlying u = some (.slice e)) :
    ∃ news, Src P esz u v n news w ∧ relL σ nw news := by
  cases st
  · obtain ⟨e, hu⟩ := hu
    cases x <;> simp only [newOf, reduceCtorEq] at hn
    · rename_i b off m e2
      split at hn
      · rename_i cs hcs
        cases ht : takeAt cs off (m * esz) with
        | none => simp [ht] at hn
        | some r =>
          simp [ht] at hn
          obtain ⟨rfl, rfl⟩ := hn
          obtain ⟨h3, rfl⟩ := takeAt_eq ht
          obtain ⟨B, base, N, hb, o', cap, rfl, hlc, hoo⟩ := hr
          obtain ⟨C, e', fr, hB, hN, _, hle, hrel⟩ := h.cells hcs hb
          rcases hoo with ⟨rfl, _⟩ | rfl
          · have hrr := relL_at hrel h3
            refine ⟨_, Src.ofSlice w hu _ _ _ _ ?_ ?_ (all_one hrr h1), hrr⟩
            · rw [relL_length hrr]; simp; omega
            · intro j v hj
              rw [add_none]
              simp only [World.cell?, hB]
              rw [List.getElem?_take] at hj
              split at hj
              · simpa using hj
              · cases hj
          · have hm0 : m = 0 := by omega
            subst hm0
            refine ⟨[], Src.ofSlice w hu _ _ _ _ (by simp) (by simp) (by simp), by simp [relL]⟩
      · cases hn
    · rename_i m cs
      split at hn
      · rename_i hl
        cases hn
        rcases hr with ⟨B, off, cap, rfl, hlc, hc⟩ | ⟨rfl, rfl, ad, cap, rfl⟩
        rotate_left
        · exact ⟨[], Src.ofSlice w hu _ _ _ _ (by simp) (by simp) (by simp), by simp [relL]⟩
        rcases hc with rfl | ⟨C, e', fr, hro, hle, hrel⟩
        · exact ⟨[], Src.ofSlice w hu _ _ _ _ (by simpa using hl) (by simp) (by simp), by simp [relL]⟩
        · have hrel := relL_mono σ.pure_le hrel
          refine ⟨_, Src.ofSlice w hu _ _ _ _ ?_ ?_ (all_one hrel h1), hrel⟩
          · rw [relL_length hrel, hl]
          · intro j v hj
            rw [add_none]
            simp only [World.cell?, h.ro _ _ hro]
            rw [List.getElem?_take] at hj
            split at hj
            · simpa using hj
            · cases hj
      · cases hn
    · cases hn
      have hv : v = .slice none 0 0 := hr
      subst hv
      exact ⟨[], Src.ofNil w hu 0, by simp [relL]⟩
  · have hu' : P.underlying u = some .string := hu
    cases x <;> simp only [newOf, reduceCtorEq] at hn
    rename_i s
    split at hn
    · rename_i he
      subst he
      cases hn
      refine ⟨byteCells ⟨s.toArray⟩, ?_, ?_⟩
      · have := Src.ofString (P := P) w hu' ⟨s.toArray⟩
        rwa [ba_size, ← rel_strv hr] at this
      · exact relL_map (f := fun b : UInt8 => XV.int .u8 (b.toNat : Int)) (g := fun b : UInt8 => Value.int .u8 (b.toNat : Int)) (fun b => rfl) s
    · cases hn

theorem info_of {t : TypeId} {s b : Nat} {z : List XV} (hs : cSize P t = some s) (hb : cBytes P t = some b) (hz : cZero P t = some z) : ∃ i zv, P.info? t = some i ∧ i.zero = some zv ∧ i.size = s ∧ i.bytes = b ∧ zv.cells.size = z.length := by
  unfold cZero at hz
  split at hz
  · rename_i i hi
    split at hz
    · rename_i zv hzv
      refine ⟨i, zv, hi, hzv, ?_, ?_, by simpa using relL_length (rel_cVs (σ := ⟨fun _ => none, fun _ => none⟩) hz)⟩
      · simpa [cSize, hi] using hs
      · simpa [cBytes, hi] using hb
    · cases hz
  · cases hz

theorem op_append (h : WF σ H w) (hg : globOk E σ) (hT : relL σ T a.tmps.toList) {t u e : TypeId} {x y : Operand} {x' y' : XO} {c : Call} (ho : o.op = .call c) (hc : c.callee = .builtin .append) (hxs : c.args.toList = [x, y]) (hts : c.argTypes.toList = [t, u])
    (hx : cO x = some x') (hy : cO y = some y') (ht : P.underlying t = some (.slice e)) {s b : Nat} {z : List XV} (hs : cSize P e = some s) (hb : cBytes P e = some b) (hz : cZero P e = some z) (hzs : z.length = s)
    {st : Bool} (hu : if st then P.underlying u = some .string else ∃ e, P.underlying u = some (.slice e))
    {v : XV} {K : Heap} {call : CallF} (hv : xop E call (.append st s b e x' y') T H = some (.val v K)) : OpRes P o a σ H w v K := by
  have hrx := rel_ev hg hT hx
  have hry := rel_ev hg hT hy
  have e1 : c.args = #[x, y] := by simpa using congrArg List.toArray hxs
  have e2 : c.argTypes = #[t, u] := by simpa using congrArg List.toArray hts
  have hop : ∀ (v' : Value) (u' : World), (Builtin.append_ #[t, u] o.type #[a.eval x, a.eval y]).run P w = .ok v' u' → (execOp a.eval o).run P w = .ok (.value v') u' := by
    intro v' u' hh
    simp [execOp, ho, resolve, hc, e1, e2, invoke, builtin, hh]
  simp only [xop] at hv
  generalize ev E T x' = p at hv hrx
  generalize ev E T y' = q at hv hry
  cases hn : newOf H st s q with
  | none => simp [hn] at hv
  | some r =>
    obtain ⟨nw, n⟩ := r
    simp only [hn] at hv
    split at hv
    · rename_i hone
      obtain ⟨news, hsrc, hnr⟩ := src_of h hry hn hone hu
      obtain ⟨i, zv, hi, hzv, his, hib, hzc⟩ := info_of hs hb hz
      rw [hzs] at hzc
      have hnl : nw.length = n * s := by rw [← relL_length hnr, hsrc.newsLen]
      cases p <;> simp only [reduceCtorEq] at hv
      · -- onto a slice of the own
        rename_i bb off len e'
        obtain ⟨B, base, N, hbk, o', cap, he, hlc, hoo⟩ := hrx
        split at hv
        · rename_i hk
          obtain ⟨rfl, hk1, hk2⟩ := hk
          split at hv
          · rename_i cs hcs
            split at hv
            · rename_i od hod
              cases hv
              obtain ⟨hle, rfl⟩ := takeAt_eq hod
              obtain ⟨C, ee, fr, hB, hN, hfree, hbl, hrel⟩ := h.cells hcs hbk
              have hlive := cellsAt_live hcs
              have hodl : ((cs.drop off).take (len * e')).length = len * e' := by simp; omega
              by_cases hroom : len + n ≤ cap
              · -- in place
                by_cases hc0 : cap = 0
                · subst hc0
                  have hl0 : len = 0 := by omega
                  have hn0 : n = 0 := by omega
                  subst hl0 hn0
                  have hnw : nw = [] := by simpa using hnl
                  subst hnw
                  have hnews : news = [] := by have := hsrc.newsLen; simpa using this
                  subst hnews
                  have hrun := run_append_nothing (P := P) w t u o.type e i ht hi (some ⟨B, o', none⟩) 0 0 (Nat.le_refl _) (a.eval y) (by rw [his]; exact hsrc)
                  obtain ⟨h1, h2⟩ := Step.renew (u := w) (base' := 0) (x := retag H bb e []) h hbk hlive (blkOk_retag h hbk (fun C0 e0 fr0 h0 => ⟨C0, fr0, h0⟩) ⟨C, ee, fr, hB, hN, hfree, by simp, by simp [relL]⟩) (fun _ _ => rfl) rfl
                  refine ⟨_, w, _, .inl (hop _ _ (by rw [he]; exact hrun)), ⟨B, 0, N, h2, o', 0, rfl, Nat.le_refl _, .inr rfl⟩, by simpa using h1⟩
                · rcases hoo with ⟨rfl, hcapN⟩ | h'
                  · have hmul : (len + n) * e' ≤ cap * e' := Nat.mul_le_mul_right _ hroom
                    rw [Nat.add_mul] at hmul
                    have hnewsl : news.length = n * e' := hsrc.newsLen
                    have hrun := run_append_room_src (P := P) w t u o.type e i ht hi B (base + off) len cap (a.eval y) n news (by rw [his]; exact hsrc) hroom (fun j hj => by
                        simp only [World.cell?, hB, his]
                        have : base + off + len * e' + j < C.size := by omega
                        simp [this]) (fun j hj => by
                        simp only [World.frozen?, hB, his]
                        rcases hfree with h' | h' <;> simp <;> omega)
                    rw [his] at hrun
                    obtain ⟨C', hC1, hC2, hC3, hC4⟩ := setCells_heap B news (base + off + len * e') w C ee fr hB (by omega)
                    have hCs : C'.size = N := by
                      have := congrArg List.length hC2
                      simp at this
                      omega
                    obtain ⟨h1, h2⟩ := Step.renew (u := w.setCells B (base + off + len * e') news) (base' := base + off) (x := retag H bb e ((cs.drop off).take (len * e') ++ nw)) h hbk hlive
                      (blkOk_retag h hbk (fun C0 e0 fr0 h0 => by rw [hB] at h0; cases h0; exact ⟨C', fr, hC1⟩) ⟨C', ee, fr, hC1, hCs, hfree, by simp [hnl]; omega, by
                        have hnone : σ.blk H.length = none := by
                          cases hs' : σ.blk H.length with
                          | none => rfl
                          | some y => have := h.dom _ _ hs'; omega
                        refine relL_mono (Ctx.le_add hnone) ?_
                        rw [hC2]
                        have e3 : ((C.toList.take (base + off + len * e') ++ news ++ C.toList.drop (base + off + len * e' + news.length)).drop (base + off)).take ((cs.drop off).take (len * e') ++ nw).length =
                            ((C.toList.drop (base + off)).take (len * e')) ++ news := by
                          rw [List.append_assoc, List.drop_append, List.length_take, List.drop_take]
                          rw [show base + off + len * e' - (base + off) = len * e' by omega]
                          rw [show base + off - min (base + off + len * e') C.toList.length = 0 by simp; omega, List.drop_zero]
                          rw [List.length_append, hodl, hnl, ← hnewsl]
                          rw [List.take_append, List.take_take, List.length_take]
                          rw [show min (len * e' + news.length) (len * e') = len * e' by omega]
                          rw [show min (len * e') (C.toList.drop (base + off)).length = len * e' by simp; omega]
                          rw [show len * e' + news.length - len * e' = news.length by omega, List.take_left]
                        rw [e3]
                        exact relL_append (relL_at hrel hle) hnr⟩) hC4 hC3 (setCells_calm _ _ _ _)
                    refine ⟨_, _, _, .inl (hop _ _ (by rw [he]; exact hrun)), ⟨B, base + off, N, h2, base + off, cap, rfl, hroom, .inl ⟨by simp, by omega⟩⟩, h1⟩
                  · exact absurd h' hc0
              · -- a new row
                have hold : (Builtin.firstCells i.size len (.slice (some ⟨B, o', none⟩) len cap)).run P w.drew = .ok ((C.toList.drop (base + off)).take (len * e')).toArray w.drew := by
                  rcases hoo with ⟨rfl, _⟩ | rfl
                  · refine run_firstCells_some w.drew _ _ _ _ _ _ (by rw [his]; simp; omega) (fun j v hj => ?_)
                    rw [add_none]
                    show w.cell? _ = some v
                    simp only [World.cell?, hB]
                    rw [List.getElem?_take] at hj
                    split at hj
                    · simpa using hj
                    · cases hj
                  · have hl0 : len = 0 := by omega
                    subst hl0
                    refine run_firstCells_some w.drew _ _ _ _ _ _ (by simp) (fun j v hj => by simp at hj)
                have hrun := run_append_grow_src (P := P) w t u o.type e i zv ht hi hzv (some ⟨B, o', none⟩) len cap _ hold (a.eval y) n news (by rw [his]; exact hsrc) (by omega) (by omega) (by rw [hib]; exact growslice_fits (by omega) (by omega))
                have hb1 := Step.turn (u := w) (x := .dead) h hbk hlive trivial (fun _ _ => rfl) rfl
                have hlen : (H.set bb .dead).length = H.length := by simp
                have hcap : len + n ≤ grownCap w (len + n) cap e := by simp only [grownCap, Question.cut]; omega
                obtain ⟨h1, h2, _⟩ := newResT (x := retag H bb e ((cs.drop off).take (len * e') ++ nw)) (xs := (cs.drop off).take (len * e') ++ nw) (C := ((((C.toList.drop (base + off)).take (len * e')) ++ news).toArray ++ Builtin.zeroCells zv.cells (grownCap w (len + n) cap e - (len + n)))) (e := e) (u := w.drew.alloc (.cells ((((C.toList.drop (base + off)).take (len * e')) ++ news).toArray ++ Builtin.zeroCells zv.cells (grownCap w (len + n) cap e - (len + n))) e (0, 0))) hb1.wf rfl (by
                    simp [hnl, ← hsrc.newsLen]; omega) (by
                    have hrr := relL_append (relL_at hrel hle) hnr
                    have hll := relL_length hrr
                    rw [Array.toList_append, List.toList_toArray, ← hll, List.take_left]
                    exact hrr) (by
                    rcases retag_cases H bb e ((cs.drop off).take (len * e') ++ nw) with h' | ⟨h', _⟩
                    · exact .inl h'
                    · exact .inr ⟨false, h', fun hf => by cases hf⟩)
                rw [hlen] at h1 h2
                refine ⟨_, _, _, .inl (hop _ _ (by rw [he]; exact hrun)), ⟨w.heap.size, 0, _, h2, 0, _, rfl, hcap, .inl ⟨by simp, ?_⟩⟩, Step.trans h hb1 h1⟩
                have hz3 : (Builtin.zeroCells zv.cells (grownCap w (len + n) cap e - (len + n))).size = (grownCap w (len + n) cap e - (len + n)) * e' := by simp [Builtin.zeroCells, hzc]
                have hold2 : (List.take (len * e') (List.drop (base + off) C.toList)).length = len * e' := by simp; omega
                rw [Array.size_append, hz3, List.size_toArray, List.length_append, hold2, hsrc.newsLen, ← Nat.add_mul, ← Nat.add_mul]
                rw [show len + n + (grownCap w (len + n) cap e - (len + n)) = grownCap w (len + n) cap e by omega]
                omega
            · cases hv
          · cases hv
        · cases hv
      · -- onto nothing
        have he : a.eval x = .slice none 0 0 := hrx
        split at hv
        · rename_i hk
          by_cases hn0 : n = 0
          · subst hn0
            simp at hv
            obtain ⟨rfl, rfl⟩ := hv
            have hnews : news = [] := by have := hsrc.newsLen; simpa using this
            subst hnews
            exact .still h (hop _ _ (by rw [he]; exact run_append_nothing (P := P) w t u o.type e i ht hi none 0 0 (Nat.le_refl _) (a.eval y) (by rw [his]; exact hsrc))) rfl
          · rw [if_neg hn0] at hv
            cases hv
            have hrun := run_append_grow_src (P := P) w t u o.type e i zv ht hi hzv none 0 0 [] (run_firstCells_none w.drew _ _ _ _) (a.eval y) n news (by rw [his]; exact hsrc) (by omega) (by omega) (by rw [hib]; exact growslice_fits (by omega) (by rw [Nat.zero_add]; omega))
            have hcap : 0 + n ≤ grownCap w (0 + n) 0 e := by simp only [grownCap, Question.cut]; omega
            obtain ⟨G, hG⟩ : ∃ G, G = grownCap w (0 + n) 0 e := ⟨_, rfl⟩
            rw [← hG] at hrun hcap
            obtain ⟨h1, h2, _⟩ := newResT (x := .tcells nw e false) (xs := nw) (C := (([] ++ news).toArray ++ Builtin.zeroCells zv.cells (G - (0 + n)))) (e := e) (u := w.drew.alloc (.cells (([] ++ news).toArray ++ Builtin.zeroCells zv.cells (G - (0 + n))) e (0, 0))) h rfl (by
                simp [hnl, ← hsrc.newsLen]) (by
                have hll := relL_length hnr
                rw [Array.toList_append, List.toList_toArray, List.nil_append, ← hll, List.take_left]
                exact hnr) (.inr ⟨false, rfl, fun hf => by cases hf⟩)
            refine ⟨_, _, _, .inl (hop _ _ (by rw [he]; exact hrun)), ⟨w.heap.size, 0, _, h2, 0, _, by rw [Nat.zero_add], by omega, .inl ⟨by simp, ?_⟩⟩, h1⟩
            have hz3 : (Builtin.zeroCells zv.cells (G - (0 + n))).size = (G - (0 + n)) * s := by simp [Builtin.zeroCells, hzc]
            rw [Array.size_append, hz3, List.size_toArray, List.nil_append, hsrc.newsLen, ← Nat.add_mul]
            rw [show n + (G - (0 + n)) = G by omega]
            omega
        · cases hv
    · cases hv

end
end Go.X
namespace Go.X
open Go

section
variable {P : Program} {E : Env} {σ : Ctx} {T : List XV} {H : Heap} {a : Act} {w : World} {o : Oper}

theorem run_fold2 {f : XV → XV → Option XV} {g : Value → Value → Sem Value} (hf : ∀ x y z p q, f x y = some z → rel σ x p → rel σ y q → ∃ r, (g p q).run P w = .ok r w ∧ rel σ z r) :
    ∀ (xs : List XV) (x z : XV) (vs : List Value) (v : Value), fold2 f x xs = some z → rel σ x v → relL σ xs vs → ∃ r, (vs.foldlM g v : Sem Value).run P w = .ok r w ∧ rel σ z r
  | [], x, z, vs, v, h, hx, hr => by
    simp only [relL] at hr
    subst hr
    simp [fold2] at h
    subst h
    exact ⟨v, rfl, hx⟩
  | y :: ys, x, z, vs, v, h, hx, hr => by
    simp only [relL] at hr
    obtain ⟨q, r, rfl, hq, hr'⟩ := hr
    simp only [fold2] at h
    cases hxy : f x y with
    | none => simp [hxy] at h
    | some z' =>
      simp [hxy] at h
      obtain ⟨p', h1, h2⟩ := hf x y z' v q hxy hx hq
      obtain ⟨r', h3, h4⟩ := run_fold2 hf ys z' z r p' h h2 hr'
      exact ⟨r', by simp [List.foldlM_cons, h1, h3], h4⟩

theorem op_max (h : WF σ H w) (hg : globOk E σ) (hT : relL σ T a.tmps.toList) {xs : List XO} {c : Call} (ho : o.op = .call c) (hc : c.callee = .builtin .max) (hxs : cOs c.args.toList = some xs)
    {v : XV} {K : Heap} {call : CallF} (hv : xop E call (.max xs) T H = some (.val v K)) : OpRes P o a σ H w v K := by
  have hr := relL_evs hg hT hxs
  simp only [xop] at hv
  generalize xs.map (ev E T) = l at hv hr
  cases l with
  | nil => simp at hv
  | cons x r =>
    simp only at hv
    obtain ⟨hb, rfl⟩ := okv_eq hv
    simp only [relL] at hr
    obtain ⟨p, vs, hpv, hp, hvs⟩ := hr
    obtain ⟨q, h1, h2⟩ := run_fold2 (P := P) (w := w) (g := Builtin.max2) (fun x y z p q hz hx hy => by
      cases x <;> cases y <;> simp only [max2, reduceCtorEq] at hz
      split at hz
      · cases hz
        obtain rfl := rel_int hx
        obtain rfl := rel_int hy
        exact ⟨_, by simp [Builtin.max2], rfl⟩
      · cases hz) r x v vs p hb hp hvs
    refine .still h (v' := q) ?_ h2
    have hargs : (c.args.map a.eval).toList = p :: vs := by simpa using hpv
    simp [execOp, ho, resolve, hc, invoke, builtin, Builtin.max_]
    rw [show List.map a.eval c.args.toList = p :: vs from by simpa using hpv]
    simp [h1]

theorem op_min (h : WF σ H w) (hg : globOk E σ) (hT : relL σ T a.tmps.toList) {xs : List XO} {c : Call} (ho : o.op = .call c) (hc : c.callee = .builtin .min) (hxs : cOs c.args.toList = some xs)
    {v : XV} {K : Heap} {call : CallF} (hv : xop E call (.min xs) T H = some (.val v K)) : OpRes P o a σ H w v K := by
  have hr := relL_evs hg hT hxs
  simp only [xop] at hv
  generalize xs.map (ev E T) = l at hv hr
  cases l with
  | nil => simp at hv
  | cons x r =>
    simp only at hv
    obtain ⟨hb, rfl⟩ := okv_eq hv
    simp only [relL] at hr
    obtain ⟨p, vs, hpv, hp, hvs⟩ := hr
    obtain ⟨q, h1, h2⟩ := run_fold2 (P := P) (w := w) (g := Builtin.min2) (fun x y z p q hz hx hy => by
      cases x <;> cases y <;> simp only [min2, reduceCtorEq] at hz
      split at hz
      · cases hz
        obtain rfl := rel_int hx
        obtain rfl := rel_int hy
        exact ⟨_, by simp [Builtin.min2], rfl⟩
      · cases hz) r x v vs p hb hp hvs
    refine .still h (v' := q) ?_ h2
    simp [execOp, ho, resolve, hc, invoke, builtin, Builtin.min_]
    rw [show List.map a.eval c.args.toList = p :: vs from by simpa using hpv]
    simp [h1]

theorem wrap_i64 {n : Int} (h0 : 0 ≤ n) (h : n ≤ 2 ^ 47) : IntKind.i64.wrap n = n := by
  have e : n % 18446744073709551616 = n := Int.emod_eq_of_lt h0 (by omega)
  simp [IntKind.wrap, IntKind.bits, IntKind.signed, e]
  omega

theorem op_makeS (h : WF σ H w) (hg : globOk E σ) (hT : relL σ T a.tmps.toList) {t e : TypeId} {x y : Operand} {x' y' : XO} (ho : o.op = .makeSlice t x y) (hx : cO x = some x') (hy : cO y = some y')
    (ht : P.underlying t = some (.slice e)) {s b : Nat} {z : List XV} (hs : cSize P e = some s) (hb : cBytes P e = some b) (hz : cZero P e = some z) (hzs : z.length = s)
    {v : XV} {K : Heap} {call : CallF} (hv : xop E call (.makeS s b z x' y') T H = some (.val v K)) : OpRes P o a σ H w v K := by
  have hrx := rel_ev hg hT hx
  have hry := rel_ev hg hT hy
  simp only [xop] at hv
  generalize ev E T x' = p at hv hrx
  generalize ev E T y' = q at hv hry
  split at hv
  · rename_i n m
    split at hv
    · rename_i hk
      obtain ⟨h0, h1, h2, h3⟩ := hk
      cases hv
      have hxn := rel_int hrx
      have hym := rel_int hry
      obtain ⟨i, zv, hi, hzv, his, hib, hzc⟩ := info_of hs hb hz
      have hzs' : zv.cells.size = s := by omega
      let C : Array Value := (Array.range (m.toNat * s)).map (zv.cells[· % zv.cells.size]!)
      have hCs : C.size = m.toNat * s := by simp [C]
      have hzr : relL σ z zv.cells.toList := by
        unfold cZero at hz
        rw [hi] at hz
        simp only [hzv] at hz
        exact rel_cVs hz
      have hnm : n.toNat ≤ m.toNat := by omega
      have hnms : n.toNat * s ≤ m.toNat * s := Nat.mul_le_mul_right _ hnm
      have hrel : relL σ (repCells z n.toNat) (C.toList.take (repCells z n.toNat).length) := by
        have h4 := relL_rep hzr m.toNat
        rw [hzs] at h4
        have h5 := relL_take (n.toNat * s) h4
        have h6 : (repCells z m.toNat).take (n.toNat * s) = repCells z n.toNat := by
          have : ∀ n m, n ≤ m → (repCells z m).take (n * s) = repCells z n := by
            intro n
            induction n with
            | zero => intro m _; simp [repCells]
            | succ n ih =>
              intro m hm
              cases m with
              | zero => omega
              | succ m =>
                simp only [repCells]
                rw [Nat.succ_mul, Nat.add_comm, List.take_append, List.take_of_length_le (by omega)]
                rw [hzs, Nat.add_sub_cancel_left, ih m (by omega)]
          exact this _ _ hnm
        rw [h6] at h5
        rw [repCells_length, hzs]
        exact h5
      obtain ⟨r1, r2, _⟩ := newRes (xs := repCells z n.toNat) (C := C) (e := e) (u := w.alloc (.cells C e (0, 0))) h rfl (by rw [repCells_length, hzs, hCs]; exact hnms) hrel
      refine ⟨.slice (some ⟨w.heap.size, 0, none⟩) n.toNat m.toNat, w.alloc (.cells C e (0, 0)), _, .inl ?_, ⟨w.heap.size, 0, _, r2, 0, m.toNat, rfl, hnm, .inl ⟨by simp, by rw [hCs]; omega⟩⟩, r1⟩
      have hm0 : 0 ≤ m := by omega
      have hw1 : IntKind.i64.wrap n = n := wrap_i64 h0 (by omega)
      have hw2 : IntKind.i64.wrap m = m := wrap_i64 hm0 h3
      have hrun : (Instr.makeSlice t (a.eval x) (a.eval y)).run P w = .ok (.slice (some ⟨w.heap.size, 0, none⟩) n.toNat m.toNat) (w.alloc (.cells C e (0, 0))) := by
        simp only [Instr.makeSlice, hxn, hym, asInt, asIntOf, Sem.run_bind, run_underlying ht, Result.andThen_ok, Sem.run_pure, typeInfo, run_program, hi, hw1, hw2, hib]
        have c1 : ¬ ((decide (m < 0) || decide ((b : Int) * m > 2 ^ 48)) = true ∨ n < 0 ∨ n > m) := by
          simp
          refine ⟨⟨by omega, ?_⟩, by omega, by omega⟩
          rw [Int.mul_comm]; omega
        have c1' : ((decide (m < 0) || decide ((b : Int) * m > 2 ^ 48)) || decide (n < 0) || decide (n > m)) = false := by
          simp
          refine ⟨⟨⟨by omega, ?_⟩, by omega⟩, by omega⟩
          rw [Int.mul_comm]; omega
        simp only [c1', Bool.false_eq_true, if_false, run_askRoom, Result.andThen_ok, sizeOf, typeInfo, Sem.run_bind, run_program, hi, Sem.run_pure, his]
        by_cases hz0 : m.toNat * s = 0
        · have e1 : C = #[] := by simp only [C, hz0]; simp
          simp only [hz0, if_true, Sem.run_pure, Result.andThen_ok, newRow, Sem.run_bind, run_newObj]
          rw [e1]
          have e0 : ∀ g : Nat → Value, (Array.range 0).map g = #[] := by intro g; simp
          simp only [e0]
          rfl
        · simp only [if_neg hz0, Sem.run_bind, zeroValue, typeInfo, run_program, Result.andThen_ok, hi, hzv, Sem.run_pure, newRow, run_newObj]
          rfl
      simp only [execOp, ho, Sem.run_bind, hrun, Result.andThen_ok, Sem.run_pure]
    · cases hv
  · cases hv

theorem op_range (h : WF σ H w) (hg : globOk E σ) (hT : relL σ T a.tmps.toList) {t : TypeId} {x : Operand} {y : XO} (ho : o.op = .range t x) (hx : cO x = some y) (ht : P.underlying t = some .string)
    {v : XV} {K : Heap} {call : CallF} (hv : xop E call (.range y) T H = some (.val v K)) : OpRes P o a σ H w v K := by
  have hr := rel_ev hg hT hx
  simp only [xop] at hv
  generalize ev E T y = p at hv hr
  cases p <;> (try simp only [reduceCtorEq] at hv)
  rename_i s
  cases hv
  obtain ⟨h1, h2⟩ := Step.alloc (n := 0) (o := .stringIter ⟨s.toArray⟩ 0) (x := .siter s 0) h (fun u' hu' => ⟨rfl, hu'⟩) (w.alloc (.stringIter ⟨s.toArray⟩ 0)) rfl
  exact ⟨.pointer (some ⟨w.heap.size, 0, none⟩), _, _, .inl (by simp [execOp, ho, rel_strv hr, Instr.range, run_underlying ht]), ⟨_, _, _, h2, rfl⟩, h1⟩

theorem run_getObj {r : Nat} {ob : Obj} (h : w.heap[r]? = some ob) (hn : ∀ c e f, ob ≠ .cells c e f) : (getObj r).run P w = .ok ob w := by
  cases ob <;> first
    | exact absurd rfl (hn _ _ _)
    | simp [getObj, Sem.run, h]

theorem run_setObj {r : Nat} {ob ob' : Obj} (h : w.heap[r]? = some ob) (hn : ∀ c e f, ob ≠ .cells c e f) : (setObj r ob').run P w = .ok () { w with heap := w.heap.setIfInBounds r ob' } := by
  cases ob <;> first
    | exact absurd rfl (hn _ _ _)
    | simp [setObj, Sem.run, h]

theorem op_next (h : WF σ H w) (hg : globOk E σ) (hT : relL σ T a.tmps.toList) {x : Operand} {y : XO} (ho : o.op = .next x true) (hx : cO x = some y)
    {v : XV} {K : Heap} {call : CallF} (hv : xop E call (.next y) T H = some (.val v K)) : OpRes P o a σ H w v K := by
  have hr := rel_ev hg hT hx
  simp only [xop] at hv
  generalize ev E T y = p at hv hr
  cases p <;> (try simp only [reduceCtorEq] at hv)
  rename_i b off
  cases off <;> (try simp only [reduceCtorEq] at hv)
  obtain ⟨B, base, n, hb, he⟩ := hr
  split at hv
  · rename_i s pos hs
    obtain ⟨rfl, hB⟩ := h.ok b _ B base n hs hb
    have hlt := h.lt _ _ _ _ hb
    split at hv
    · rename_i hp
      cases hv
      let u : World := { w with heap := w.heap.setIfInBounds B (.stringIter ⟨s.toArray⟩ (pos + (Utf8.decode ⟨s.toArray⟩ pos).2)) }
      refine ⟨.tuple #[.bool true, .int .i64 (pos : Int), .int .i32 (Utf8.decode ⟨s.toArray⟩ pos).1], u, σ, .inl ?_, ⟨_, rfl, relL_cons rfl (relL_cons rfl (relL_one rfl))⟩, ?_⟩
      · simp [execOp, ho, he, Instr.next, run_getObj hB (by simp), ba_size, hp, run_setObj hB (by simp), goInt, u]
      · refine Step.turn h hb (live_of hs (by simp)) ⟨rfl, by simp [u, hlt]⟩ (fun B' hB' => by simp [u, Ne.symm hB']) (by simp [u])
    · rename_i hp
      cases hv
      exact .still h (v' := .tuple #[.bool false]) (by simp [execOp, ho, he, Instr.next, run_getObj hB (by simp), ba_size, hp]) ⟨_, rfl, relL_one rfl⟩
  · cases hv

theorem op_makeM (h : WF σ H w) {t kt et : TypeId} {r : Option Operand} (ho : o.op = .makeMap t r) (hr : r = none ∨ ∃ k n, r = some (.const (.int k n))) (ht : P.underlying t = some (.map kt et))
    : OpRes P o a σ H w (.mp H.length) (H ++ [.mapc []]) := by
  obtain ⟨h1, h2⟩ := Step.alloc (n := 0) (o := .map #[] 0) (x := .mapc []) h (fun u' hu' => ⟨#[], 0, hu', by simp [relL], by simp [relL]⟩) (w.alloc (.map #[] 0)) rfl
  refine ⟨.map (some w.heap.size), _, _, .inl ?_, ⟨_, _, _, h2, rfl⟩, h1⟩
  rcases hr with rfl | ⟨k, n, rfl⟩
  · simp [execOp, ho, Instr.makeMap]
  · simp [execOp, ho, Instr.makeMap, run_underlying ht, asInt, asIntOf, Act.eval]

/-- Looking for a key among strings. -/
theorem findNow_ok {k : XV} {kv : Value} (hk : rel σ k kv) : ∀ (es : List (XV × XV)) (es' : List MapEntry) (i : Nat) {r : Option XV}, findKey k es = some r → (∃ s, k = .str s) →
    relL σ (es.map (·.1)) (es'.map (·.key)) → relL σ (es.map (·.2)) (es'.map (·.val)) →
    match r with
    | none => Instr.findNow .string kv es' i = some none
    | some x => ∃ j v, Instr.findNow .string kv es' i = some (some (j, v)) ∧ rel σ x v
  | [], es', i, r, h, _, h1, _ => by
    simp [findKey] at h
    subst h
    simp only [List.map_nil, relL, List.map_eq_nil_iff] at h1
    subst h1
    rfl
  | (q, x) :: es, es', i, r, h, hs, h1, h2 => by
    obtain ⟨s, rfl⟩ := hs
    obtain rfl := rel_strv hk
    cases es' with
    | nil => simp [relL] at h1
    | cons e es' =>
      simp only [List.map_cons, relL] at h1 h2
      obtain ⟨v1, r1, he1, hq, hr1⟩ := h1
      obtain ⟨v2, r2, he2, hx, hr2⟩ := h2
      cases he1
      cases he2
      simp only [findKey] at h
      cases q <;> (try (simp [keyEq] at h; done))
      rename_i s2
      simp only [keyEq] at h
      have hq' := rel_strv hq
      simp only [Instr.findNow, hq', Instr.sameNow]
      by_cases e2 : s = s2
      · subst e2
        simp at h
        subst h
        refine ⟨i, e.val, ?_, hx⟩
        simp [beq_toListBytes]
      · have h3 : ((⟨s.toArray⟩ : ByteArray) == ⟨s2.toArray⟩) = false := by rw [beq_toListBytes]; simp [e2]
        have h4 : (s == s2) = false := by simp [e2]
        rw [h4] at h
        rw [h3]
        exact findNow_ok (k := .str s) (kv := .string ⟨s.toArray⟩) rfl es es' (i + 1) h ⟨s, rfl⟩ hr1 hr2

theorem run_checkKey {kt : TypeId} (hk : P.underlying kt = some .string) (b : Bool) (s : ByteArray) (n : Nat) : (Instr.checkKey b (n + 1) kt (.string s)).run P w = .ok () w := by
  simp [Instr.checkKey, run_underlying hk]

theorem run_z1 {t : TypeId} {z : XV} (hz : cZ1 P t = some z) (w : World) : ∃ zv, (zeroValue t).run P w = .ok zv w ∧ ∀ σ, rel σ z zv := by
  unfold cZ1 at hz
  split at hz
  · rename_i i hi
    split at hz
    · rename_i zv hzv
      exact ⟨zv, by simp [zeroValue, typeInfo, hi, hzv], fun σ => rel_cV hz⟩
    · cases hz
  · cases hz

theorem op_lookup (h : WF σ H w) (hg : globOk E σ) (hT : relL σ T a.tmps.toList) {t kt et : TypeId} {m k : Operand} {m' k' : XO} {ok : Bool} (ho : o.op = .lookup t m k ok) (hm : cO m = some m') (hk : cO k = some k')
    (ht : P.underlying t = some (.map kt et)) (hkt : P.underlying kt = some .string) {z1 : XV} (hzk : ∃ zv, (zeroValue et).run P w = .ok zv w ∧ ∀ σ, rel σ z1 zv)
    {v : XV} {K : Heap} {call : CallF} (hv : xop E call (.lookup z1 ok m' k') T H = some (.val v K)) : OpRes P o a σ H w v K := by
  have hrm := rel_ev hg hT hm
  have hrk := rel_ev hg hT hk
  simp only [xop] at hv
  generalize ev E T m' = p at hv hrm
  generalize ev E T k' = q at hv hrk
  split at hv
  · rename_i b s
    obtain ⟨B, base, n, hb, he⟩ := hrm
    have hks := rel_strv hrk
    split at hv
    · rename_i es hes
      obtain ⟨es', clock, hB, hr1, hr2⟩ := h.ok b _ B base n hes hb
      have hget := run_getObj (P := P) hB (by simp)
      have hck := run_checkKey (P := P) (w := w) hkt es'.isEmpty ⟨s.toArray⟩ 9999
      simp only [Nat.reduceAdd] at hck
      split at hv
      · rename_i x hf
        cases hv
        obtain ⟨j, u, hfn, hru⟩ := findNow_ok hrk es es'.toList 0 hf ⟨s, rfl⟩ hr1 hr2
        rw [hks] at hfn
        have hrun : (execOp a.eval o).run P w = .ok (.value (if ok then .tuple #[u, .bool true] else u)) w := by
          simp only [execOp, ho, Instr.lookup, Sem.run_bind, run_underlying ht, he, hks, hget, Result.andThen_ok, Sem.run_pure, hck, Instr.findKey, run_underlying hkt, hfn]
        refine .still h hrun ?_
        cases ok
        · exact hru
        · exact ⟨_, rfl, relL_cons hru (relL_one rfl)⟩
      · rename_i hf
        cases hv
        have hfn := findNow_ok hrk es es'.toList 0 hf ⟨s, rfl⟩ hr1 hr2
        simp only [hks] at hfn
        obtain ⟨zv, hz1, hz2⟩ := hzk
        have hrun : (execOp a.eval o).run P w = .ok (.value (if ok then .tuple #[zv, .bool false] else zv)) w := by
          simp only [execOp, ho, Instr.lookup, Sem.run_bind, run_underlying ht, he, hks, hget, Result.andThen_ok, Sem.run_pure, hck, Instr.findKey, run_underlying hkt, hfn, hz1]
        refine .still h hrun ?_
        cases ok
        · exact hz2 σ
        · exact ⟨_, rfl, relL_cons (hz2 σ) (relL_one rfl)⟩
      · cases hv
    · cases hv
  · cases hv

theorem op_insert (h : WF σ H w) (hg : globOk E σ) (hT : relL σ T a.tmps.toList) {t kt et : TypeId} {m k x : Operand} {m' k' x' : XO} (ho : o.op = .insert t m k x) (hm : cO m = some m') (hk : cO k = some k') (hx : cO x = some x')
    (ht : P.underlying t = some (.map kt et)) (hkt : P.underlying kt = some .string)
    {v : XV} {K : Heap} {call : CallF} (hv : xop E call (.insert m' k' x') T H = some (.val v K)) : OpRes P o a σ H w v K := by
  have hrm := rel_ev hg hT hm
  have hrk := rel_ev hg hT hk
  have hrx := rel_ev hg hT hx
  simp only [xop] at hv
  generalize ev E T m' = p at hv hrm
  generalize ev E T k' = q at hv hrk
  generalize ev E T x' = r at hv hrx
  split at hv
  · rename_i b s
    obtain ⟨B, base, n, hb, he⟩ := hrm
    have hks := rel_strv hrk
    have hlt := h.lt _ _ _ _ hb
    split at hv
    · rename_i es hes
      obtain ⟨es', clock, hB, hr1, hr2⟩ := h.ok b _ B base n hes hb
      have hget := run_getObj (P := P) hB (by simp)
      have hck := run_checkKey (P := P) (w := w) hkt false ⟨s.toArray⟩ 9999
      simp only [Nat.reduceAdd] at hck
      split at hv
      · rename_i hf
        cases hv
        have hfn := findNow_ok hrk es es'.toList 0 hf ⟨s, rfl⟩ hr1 hr2
        simp only [hks] at hfn
        let u : World := { w with heap := w.heap.setIfInBounds B (.map (es'.push { key := a.eval k, val := a.eval x, born := clock }) (clock + 1)) }
        have hset := run_setObj (P := P) (ob' := .map (es'.push { key := a.eval k, val := a.eval x, born := clock }) (clock + 1)) hB (by simp)
        refine ⟨undef, u, σ, .inr ⟨?_, rfl⟩, ⟨#[], rfl, by simp [relL]⟩, ?_⟩
        · rw [hks] at hset
          simp only [execOp, ho, Instr.mapUpdate, Sem.run_bind, run_underlying ht, he, hks, hget, Result.andThen_ok, Sem.run_pure, hck, Instr.findKey, run_underlying hkt, hfn, hset]
          rw [← hks]
        · refine Step.turn h hb (live_of hes (by simp)) ⟨es'.push { key := a.eval k, val := a.eval x, born := clock }, clock + 1, by simp [u, hlt], ?_, ?_⟩ (fun B' hB' => by simp [u, Ne.symm hB']) (by simp [u])
          · simp
            exact relL_append hr1 (relL_one hrk)
          · simp
            exact relL_append hr2 (relL_one hrx)
      · cases hv
    · cases hv
  · cases hv

theorem op_tassert (h : WF σ H w) (hg : globOk E σ) (hT : relL σ T a.tmps.toList) {t t2 : TypeId} {d : TypeDesc} {x : Operand} {x' : XO} {ok : Bool} (ho : o.op = .typeAssert x t2 t ok) (hx : cO x = some x')
    (ht : P.underlying t = some d) (hn : ∀ ms, d ≠ .interface ms) {z1 : XV} (hzk : ∃ zv, (zeroValue t).run P w = .ok zv w ∧ ∀ σ, rel σ z1 zv)
    {v : XV} {K : Heap} {call : CallF} (hv : xop E call (.tassert t z1 ok x') T H = some (.val v K)) : OpRes P o a σ H w v K := by
  have hrx := rel_ev hg hT hx
  simp only [xop] at hv
  generalize ev E T x' = p at hv hrx
  obtain ⟨zv, hz1, hz2⟩ := hzk
  split at hv
  · rename_i t3 u
    obtain ⟨u', he, hru⟩ := hrx
    split at hv
    · rename_i htt
      subst htt
      cases hv
      have hrun : (execOp a.eval o).run P w = .ok (.value (if ok then .tuple #[u', .bool true] else u')) w := by
        cases d <;> first
          | exact absurd rfl (hn _)
          | simp [execOp, ho, Instr.typeAssert, run_underlying ht, he]
      refine .still h hrun ?_
      cases ok
      · exact hru
      · exact ⟨_, rfl, relL_cons hru (relL_one rfl)⟩
    · rename_i htt
      split at hv
      · rename_i hok
        subst hok
        cases hv
        have hrun : (execOp a.eval o).run P w = .ok (.value (.tuple #[zv, .bool false])) w := by
          cases d <;> first
            | exact absurd rfl (hn _)
            | simp [execOp, ho, Instr.typeAssert, run_underlying ht, he, htt, hz1]
        exact .still h hrun ⟨_, rfl, relL_cons (hz2 σ) (relL_one rfl)⟩
      · cases hv
  · have he : a.eval x = .nilIface := hrx
    split at hv
    · rename_i hok
      subst hok
      cases hv
      have hrun : (execOp a.eval o).run P w = .ok (.value (.tuple #[zv, .bool false])) w := by
        cases d <;> first
          | exact absurd rfl (hn _)
          | simp [execOp, ho, Instr.typeAssert, run_underlying ht, he, hz1]
      exact .still h hrun ⟨_, rfl, relL_cons (hz2 σ) (relL_one rfl)⟩
    · cases hv
  · cases hv

end
end Go.X
namespace Go.X
open Go

section
variable {P : Program} {E : Env} {σ : Ctx} {T : List XV} {H : Heap} {a : Act} {w : World} {o : Oper}

theorem op_toU (h : WF σ H w) (hg : globOk E σ) (hT : relL σ T a.tmps.toList) {s d t : TypeId} {x : Operand} {y : XO} {j : TypeInfo} (ho : o.op = .convert s d x) (hx : cO x = some y) (hs : P.underlying s = some (.pointer t)) (hd : P.underlying d = some .unsafePointer)
    (ht : P.info? t = some j) (hj : j.size ≠ 0) {v : XV} {K : Heap} {call : CallF} (hv : xop E call (.toU y) T H = some (.val v K)) : OpRes P o a σ H w v K := by
  have hr := rel_ev hg hT hx
  simp only [xop] at hv
  generalize ev E T y = p at hv hr
  cases p <;> simp only [reduceCtorEq] at hv
  rename_i b off
  split at hv
  · rename_i cs hcs
    split at hv
    · rename_i hlt
      cases hv
      have hr' := hr
      obtain ⟨B, base, n, hb, he⟩ := hr
      obtain ⟨C, e, fr, hB, hn, _, hle, _⟩ := h.cells hcs hb
      refine .still h ?_ hr'
      simp only [execOp, ho, he, Sem.run_bind]
      rw [Lib.run_to_unsafe w ⟨B, base + off, none⟩ hs hd ht hj (e := e) (cells := C.size) (by simp [World.shape?, hB]) (by simp; omega)]
      rfl
    · cases hv
  · cases hv

theorem op_fromU (h : WF σ H w) (hg : globOk E σ) (hT : relL σ T a.tmps.toList) {s d u : TypeId} {x : Operand} {y : XO} (ho : o.op = .convert s d x) (hx : cO x = some y) (hs : P.underlying s = some .unsafePointer) (hd : P.underlying d = some (.pointer u))
    {v : XV} {K : Heap} {call : CallF} (hv : xop E call (.fromU (liesL P u) y) T H = some (.val v K)) : OpRes P o a σ H w v K := by
  have hr := rel_ev hg hT hx
  simp only [xop] at hv
  generalize ev E T y = p at hv hr
  cases p <;> (try (cases hv; done))
  rename_i b off
  have key : off = 0 ∧ ∃ cs ty, H[b]? = some (.tcells cs ty true) ∧ (liesL P u).contains (ty, cs.length) = true ∧ v = .ptr b 0 ∧ K = H := by
    split at hv
    · rename_i heq
      cases heq
      split at hv
      · split at hv
        · cases hv
          exact ⟨rfl, _, _, by assumption, by assumption, rfl, rfl⟩
        · cases hv
      · cases hv
    · cases hv
  obtain ⟨rfl, cs, ty, hcs, hl, rfl, rfl⟩ := key
  have hr' := hr
  obtain ⟨B, base, n, hb, he⟩ := hr
  obtain ⟨⟨C, e, fr, hB, hn, _, hle, _⟩, ⟨C', fr', hB'⟩, hf⟩ := h.ok b _ B base n hcs hb
  obtain ⟨rfl, hcl⟩ := hf rfl
  rw [hB] at hB'
  cases hB'
  have hmem : (ty, cs.length) ∈ liesL P u := by simpa using hl
  obtain ⟨t, _, ht⟩ := List.mem_filterMap.1 hmem
  split at ht
  · rename_i hk
    simp only [Option.some.injEq, Prod.mk.injEq] at ht
    obtain ⟨rfl, hlen⟩ := ht
    simp only [Bool.and_eq_true] at hk
    obtain ⟨j, hj⟩ := Option.isSome_iff_exists.1 hk.1
    refine .still h ?_ hr'
    simp only [execOp, ho, he, Sem.run_bind]
    have hcs2 : C.size = P.cellsOf t := by omega
    rw [Lib.run_from_unsafe w ⟨B, 0 + 0, none⟩ hs hd hj (e := t) (cells := C.size) (by simp [World.shape?, hB]) (by rw [hcs2]; exact hk.2)]
    rfl
  · cases ht

theorem noEsc_ok {f : Operand} {args : List Operand} {y : XO} (h : noEsc P f args = some y) : ∃ g x fn, f = .func g ∧ args = [x] ∧ cO x = some y ∧ P.funcs[g]? = some fn ∧ fn.name = "internal/abi.NoEscape" ∧ fn.body.isNone = true ∧ Extern.findNext fn = none := by
  unfold noEsc at h
  split at h
  · rename_i g x
    split at h
    · rename_i fn hfn
      split at h
      · rename_i hk
        exact ⟨g, x, fn, rfl, rfl, h, hfn, hk.1, hk.2.1, by simpa using hk.2.2⟩
      · cases h
    · cases h
  · cases h

theorem find_noEsc {fn : Func} (h : fn.name = "internal/abi.NoEscape") : Extern.find fn = some Extern.AbiNoEscape.same := by
  have h1 : Extern.allGenericRows.lookup "internal/abi.NoEscape" = none := by kernel_rfl
  have h2 : Extern.allTypedRows.lookup "internal/abi.NoEscape" = none := by kernel_rfl
  have h3 : Extern.allRows.lookup "internal/abi.NoEscape" = some Extern.AbiNoEscape.same := by kernel_rfl
  simp [Extern.find, h, h1, h2, h3]

theorem op_noEsc (h : WF σ H w) (hg : globOk E σ) (hT : relL σ T a.tmps.toList) {c : Call} {f : Operand} {y : XO} (ho : o.op = .call c) (hc : c.callee = .value f) (hy : noEsc P f c.args.toList = some y) : OpRes P o a σ H w (ev E T y) H := by
  obtain ⟨g, x, fn, rfl, hx, hcx, hfn, hname, hb, hn⟩ := noEsc_ok hy
  have e1 : c.args = #[x] := by simpa using congrArg List.toArray hx
  refine .still h ?_ (rel_ev hg hT hcx)
  have hrun := run_callFunc_extern (P := P) hfn (by simp [hname]) hb hn (find_noEsc hname) #[a.eval x] w
  rw [Lib.run_noEscape] at hrun
  simp [execOp, ho, resolve, hc, e1, Act.eval, Deferred.ofValue, invoke] at hrun ⊢
  rw [hrun]

theorem op_sdata (h : WF σ H w) (hg : globOk E σ) (hT : relL σ T a.tmps.toList) {c : Call} {x : Operand} {y : XO} (ho : o.op = .call c) (hc : c.callee = .builtin .unsafeSliceData) (hxs : c.args.toList = [x]) (hx : cO x = some y)
    {v : XV} {K : Heap} {call : CallF} (hv : xop E call (.sdata y) T H = some (.val v K)) : OpRes P o a σ H w v K := by
  have hr := rel_ev hg hT hx
  have e1 : c.args = #[x] := by simpa using congrArg List.toArray hxs
  simp only [xop] at hv
  generalize ev E T y = p at hv hr
  cases p <;> simp only [reduceCtorEq] at hv
  · rename_i b off len esz
    split at hv
    · cases hv
    · rename_i hl
      cases hv
      obtain ⟨B, base, n, hb, o', cap, he, hlc, hoo⟩ := hr
      rcases hoo with ⟨rfl, _⟩ | rfl
      · refine .still h (v' := .pointer (some ⟨B, base + off, none⟩)) ?_ ⟨B, base, n, hb, rfl⟩
        have hrun := Lib.run_unsafeSliceData_row (P := P) w c.argTypes o.type ⟨B, base + off, none⟩ len cap (by omega)
        simp [execOp, ho, resolve, hc, e1, invoke, builtin, he, hrun]
      · omega
  · cases hv
    refine .still h (v' := .pointer none) ?_ rfl
    have he : a.eval x = .slice none 0 0 := hr
    have hrun := Lib.run_unsafeSliceData_nil (P := P) w c.argTypes o.type 0 0
    simp [execOp, ho, resolve, hc, e1, invoke, builtin, he, hrun]

theorem liesAt_bytes_at {e : TypeId} (hc : P.cellsOf e = 1) (count off n : Nat) (hn : off + n ≤ count) : liesAt P P.depth e count off e n = true := by
  have hd : P.depth = (2 * (P.types.size + Made.depth) + 1) + 1 := rfl
  rw [hd]
  simp only [liesAt, Bool.or_eq_true]
  left
  rw [hd]
  simp [rowAt, hc, hn, sameLayout, Nat.mod_one]

theorem run_loadBytes_int : ∀ (ns : List Int) (a : Addr) (acc : ByteArray), (∀ j x, ns[j]? = some x → w.cell? (a.add j) = some (.int .u8 x)) →
    (loadBytes a acc ns.length).run P w = .ok ⟨acc.data ++ (ns.map fun n => UInt8.ofNat n.toNat).toArray⟩ w
  | [], a, acc, _ => by simp [loadBytes]
  | x :: l, a, acc, h => by
    have h0 : w.cell? a = some (.int .u8 x) := by
      have := h 0 x rfl
      simpa [Addr.add] using this
    have ih := run_loadBytes_int l (a.add 1) (acc.push (UInt8.ofNat x.toNat)) (fun j y hy => by
      have := h (j + 1) y (by simpa using hy)
      have e : (a.add 1).add j = a.add (j + 1) := by
        unfold Addr.add
        by_cases hj : j = 0
        · subst hj; simp
        · simp [hj]; omega
      rw [e]; exact this)
    simp only [List.length_cons, loadBytes, Sem.run_bind, run_load, h0, Result.andThen]
    show (loadBytes (a.add 1) (acc.push (UInt8.ofNat x.toNat)) l.length).run P w = _
    rw [ih]
    congr 1
    apply ByteArray.ext
    simp [ByteArray.push]

theorem op_ustr (h : WF σ H w) (hg : globOk E σ) (hT : relL σ T a.tmps.toList) {c : Call} {x n : Operand} {y m : XO} {t it e : TypeId} (ho : o.op = .call c) (hc : c.callee = .builtin .unsafeString) (hxs : c.args.toList = [x, n]) (hts : c.argTypes.toList = [t, it]) (hx : cO x = some y) (hn : cO n = some m)
    (ht : P.underlying t = some (.pointer e)) (hce : P.cellsOf e = 1) {v : XV} {K : Heap} {call : CallF} (hv : xop E call (.ustr e y m) T H = some (.val v K)) : OpRes P o a σ H w v K := by
  have hrx := rel_ev hg hT hx
  have hrn := rel_ev hg hT hn
  have e1 : c.args = #[x, n] := by simpa using congrArg List.toArray hxs
  have e2 : c.argTypes = #[t, it] := by simpa using congrArg List.toArray hts
  have hop : ∀ (v' : Value) (u' : World), (Builtin.unsafeString_ #[t, it] o.type #[a.eval x, a.eval n]).run P w = .ok v' u' → (execOp a.eval o).run P w = .ok (.value v') u' := by
    intro v' u' hh
    simp [execOp, ho, resolve, hc, e1, e2, invoke, builtin, hh]
  simp only [xop] at hv
  generalize ev E T y = p at hv hrx
  generalize ev E T m = q at hv hrn
  split at hv
  · cases hv
    have hex : a.eval x = .pointer none := hrx
    have hen := rel_int hrn
    exact .still h (hop _ _ (by rw [hex, hen]; exact Lib.run_unsafeString_none (P := P) w t it o.type none)) rfl
  · rename_i b off nn
    obtain ⟨B, base, N, hb, he⟩ := hrx
    have hen := rel_int hrn
    split at hv
    · rename_i cs ty f hcs
      split at hv
      · rename_i hk
        obtain ⟨rfl, hpos, hmx⟩ := hk
        split at hv
        · rename_i l hl
          cases hv
          obtain ⟨⟨C, e', fr, hB, hN, _, hle, hrel⟩, ⟨C', fr', hB'⟩, _⟩ := h.ok b _ B base N hcs hb
          have hBo := hB'
          rw [hB] at hBo
          cases hBo
          cases htk : takeAt cs off nn.toNat with
          | none => simp [htk] at hl
          | some r =>
            obtain ⟨h3, rfl⟩ := takeAt_eq htk
            simp [htk] at hl
            obtain ⟨ns, hn1, hn2⟩ := loadBytes_str hl (relL_at hrel h3)
            have hnl : ns.length = nn.toNat := by
              have := congrArg List.length hn1
              simp at this
              omega
            have hcell : ∀ j z, ns[j]? = some z → w.cell? ((⟨B, base + off, none⟩ : Addr).add j) = some (.int .u8 z) := by
              intro j z hj
              rw [add_none]
              have hjl := (List.getElem?_eq_some_iff.1 hj).1
              have : ((C.toList.drop (base + off)).take nn.toNat)[j]? = some (.int .u8 z) := by rw [hn1]; simp [hj]
              rw [List.getElem?_take, if_pos (by omega), List.getElem?_drop] at this
              simpa [World.cell?, hB] using this
            have hlb := run_loadBytes_int (P := P) ns ⟨B, base + off, none⟩ .empty hcell
            have hlies := liesAt_bytes_at (P := P) hce (C.size / P.cellsOf ty) (base + off) nn.toNat (by rw [hce, Nat.div_one]; omega)
            have hnn : nn = (nn.toNat : Int) := by omega
            have hrun : (Builtin.unsafeString_ #[t, it] o.type #[.pointer (some ⟨B, base + off, none⟩), .int .i64 nn]).run P w = .ok (.string ⟨l.toArray⟩) (w.freeze ⟨B, base + off, none⟩ nn.toNat) := by
              have hdef : Builtin.unsafeString_ #[t, it] o.type #[.pointer (some ⟨B, base + off, none⟩), .int .i64 nn] =
                  (do
                    let n ← asInt (.int .i64 nn)
                    if n < 0 then runtimePanic (.error "unsafe.String: len out of range")
                    if n > IntKind.i64.max then unsupported (.unsafePointer "String: a length above the largest int")
                    if n = 0 then pure (.string .empty)
                    else if ← variablesAt ⟨B, base + off, none⟩ (← elemOf t) n.toNat then do
                      let s ← loadBytes ⟨B, base + off, none⟩ .empty n.toNat
                      freeze ⟨B, base + off, none⟩ n.toNat
                      pure (.string s)
                    else unsupported (.unsafePointer "String: not so many bytes at ptr")) := rfl
              rw [hdef]
              have hmax : IntKind.i64.max = 9223372036854775807 := rfl
              have hneg : ¬ nn < 0 := by omega
              have hz : ¬ nn = 0 := by omega
              have h63 : ¬ (9223372036854775807 : Int) < nn := by omega
              have hsh : w.shape? B = some (ty, C.size) := by simp [World.shape?, hB]
              rw [hnl] at hlb
              simp [asInt, asIntOf, hmax, h63, hneg, hz, variablesAt, hsh, elemOf, run_underlying ht, hlies, hlb, hn2]
            refine ⟨.string ⟨l.toArray⟩, _, σ, .inl (hop _ _ (by rw [he, hen]; exact hrun)), rfl, ?_⟩
            refine Step.turn h hb ⟨_, hcs, by simp⟩ trivial (fun B' hB'' => ?_) ?_ (by unfold World.freeze; split <;> exact ⟨rfl, rfl⟩)
            · unfold World.freeze
              split
              · rfl
              · simp [Array.getElem?_modify, Ne.symm hB'']
            · unfold World.freeze
              split <;> simp
        · cases hv
      · cases hv
    · cases hv
  · cases hv

theorem op_eqP (h : WF σ H w) (hg : globOk E σ) (hT : relL σ T a.tmps.toList) {op : BinOp} {neg : Bool} {t u : TypeId} {x y : Operand} {x' y' : XO} (ho : o.op = .binOp op t x y u) (hop : (op = .eql ∧ neg = false) ∨ (op = .neq ∧ neg = true))
    (hx : cO x = some x') (hy : cO y = some y') (hp : isPtr P t = true) {v : XV} {K : Heap} {call : CallF} (hv : xop E call (.eqP neg x' y') T H = some (.val v K)) : OpRes P o a σ H w v K := by
  have hrx := rel_ev hg hT hx
  have hry := rel_ev hg hT hy
  simp only [xop] at hv
  generalize ev E T x' = p at hv hrx
  generalize ev E T y' = q at hv hry
  unfold isPtr at hp
  split at hp
  · rename_i e ht
    obtain ⟨j, hj⟩ := Option.isSome_iff_exists.1 hp
    split at hv
    · rename_i b o1 c o2
      split at hv
      · rename_i hk
        obtain ⟨rfl, rfl⟩ := hk
        cases hv
        obtain ⟨B, base, n, hb, hex⟩ := hrx
        obtain ⟨B', base', n', hb', hey⟩ := hry
        rw [hb] at hb'
        cases hb'
        refine .still h (v' := .bool (!neg)) ?_ rfl
        have hop' : op = if neg then .neq else .eql := by rcases hop with ⟨rfl, rfl⟩ | ⟨rfl, rfl⟩ <;> rfl
        have heq : ∀ d : Nat, (Op.equalIn (d + 1) t (.pointer (some ⟨B, base + o1, none⟩)) (.pointer (some ⟨B, base + o1, none⟩))).run P w = .ok true w := fun d => by
          simp [Op.equalIn, run_underlying ht, sizeOf, typeInfo, hj, run_sameAddr_same]
        have main : (do eqGuard op t x y (a.eval x) (a.eval y); binOp op t (a.eval x) (a.eval y) : Sem Value).run P w = .ok (.bool (!neg)) w := by
          rw [hex, hey, Sem.run_bind, run_eqGuard_other op t x y _ _ (by simp) (by simp) w, hop']
          have := run_binOp_eql (P := P) (w := w) (t := t) (p := .pointer (some ⟨B, base + o1, none⟩)) (q := .pointer (some ⟨B, base + o1, none⟩)) (by simp) (by simp) (by simp) (by simp) neg (heq 9999)
          cases neg <;> simpa using this
        simp only [execOp, ho, Sem.run_bind] at main ⊢
        rw [main]; rfl
      · cases hv
    · cases hv
  · cases hp
end
end Go.X
namespace Go.X
open Go

/-- Calls, deferred calls and panics: told apart. -/
def callish : XOp → Bool
  | .call _ _ => true
  | .defer _ _ => true
  | .panic _ => true
  | _ => false

section
variable {P : Program} {E : Env} {σ : Ctx} {T : List XV} {H : Heap} {a : Act} {w : World} {o : Oper}

theorem map_some {α β : Type} {f : α → β} {x : Option α} {y : β} (h : x.map f = some y) : ∃ z, x = some z ∧ f z = y := by
  cases x with
  | none => simp at h
  | some z => exact ⟨z, rfl, by simpa using h⟩

theorem op_sound (h : WF σ H w) (hg : globOk E σ) (hT : relL σ T a.tmps.toList) {xo : XOp} (hc : cOp P o.op = some xo) (hn : callish xo = false) {v : XV} {K : Heap} {call : CallF} (hv : xop E call xo T H = some (.val v K)) :
    OpRes P o a σ H w v K := by
  generalize hop : o.op = op at hc
  cases op with
  | move x =>
    obtain ⟨y, hx, rfl⟩ := map_some hc
    simp only [xop] at hv; cases hv
    exact op_move h hg hT (.inl hop) hx
  | assign x =>
    obtain ⟨y, hx, rfl⟩ := map_some hc
    simp only [xop] at hv; cases hv
    exact op_move h hg hT (.inr hop) hx
  | pick c x y =>
    simp only [cOp] at hc
    split at hc
    · rename_i h1 h2 h3; cases hc; exact op_pick h hg hT hop h1 h2 h3 hv
    · cases hc
  | alloc t =>
    obtain ⟨z, hz, rfl⟩ := map_some hc
    simp only [xop] at hv; cases hv
    exact op_alloc h hop hz
  | box t x =>
    obtain ⟨y, hx, rfl⟩ := map_some hc
    simp only [xop] at hv; cases hv
    exact op_box h hg hT hop hx
  | build t parts =>
    simp only [cOp] at hc
    split at hc
    · rename_i fs z h1 h2
      split at hc
      · rename_i l hl
        obtain ⟨xs, hxs, rfl⟩ := map_some hc
        exact op_build_struct h hg hT hop h1 h2 hl hxs hv
      · cases hc
    · rename_i n e z h1 h2
      split at hc
      · rename_i s hs
        obtain ⟨xs, hxs, rfl⟩ := map_some hc
        exact op_build_array h hg hT hop h1 h2 hs hxs hv
      · cases hc
    · cases hc
  | buildSlice t n parts =>
    simp only [cOp] at hc
    split at hc
    · rename_i e h1
      split at hc
      · rename_i s z h2 h3
        split at hc
        · rename_i hk
          obtain ⟨xs, hxs, rfl⟩ := map_some hc
          exact op_bslice h hg hT hop h1 h3 h2 hk.1 hk.2 hxs hv
        · cases hc
      · cases hc
    · cases hc
  | load t x =>
    simp only [cOp] at hc
    split at hc
    · rename_i d y h1 h2
      split at hc
      · rename_i hd
        obtain ⟨s, hs, rfl⟩ := map_some hc
        exact op_load h hg hT hop h2 h1 (.inl ⟨hd, rfl, hs⟩) hv
      · rename_i hd
        cases hc
        exact op_load h hg hT hop h2 h1 (.inr ⟨by simpa using hd, rfl, rfl⟩) hv
    · cases hc
  | store t x y =>
    simp only [cOp] at hc
    split at hc
    · rename_i h1 h2 h3; cases hc; exact op_store h hg hT hop h2 h3 h1 hv
    · cases hc
  | nilCheck x =>
    obtain ⟨y, hx, rfl⟩ := map_some hc
    exact op_nilc h hg hT hop hx hv
  | binOp op t x y u =>
    simp only [cOp] at hc
    split at hc
    · rename_i x' y' h1 h2
      split at hc
      · cases hc; exact op_bin h hg hT hop h1 h2 hv
      split at hc
      · rename_i hp
        split at hc
        · cases hc; exact op_eqP h hg hT hop (.inl ⟨rfl, rfl⟩) h1 h2 (by simp at hp; exact hp.1.1) hv
        · cases hc; exact op_eqP h hg hT hop (.inr ⟨rfl, rfl⟩) h1 h2 (by simp at hp; exact hp.1.1) hv
        · cases hc
      · split at hc
        · rename_i k hk
          split at hc
          · cases hc
          · rename_i hnn
            cases hc
            exact op_eq h hg hT hop (.inl ⟨rfl, rfl⟩) h1 h2 hk (by simpa using hnn) hv
        · rename_i k hk
          split at hc
          · cases hc
          · rename_i hnn
            cases hc
            exact op_eq h hg hT hop (.inr ⟨rfl, rfl⟩) h1 h2 hk (by simpa using hnn) hv
        · cases hc
    · cases hc
  | unOp op t x =>
    obtain ⟨y, hx, rfl⟩ := map_some hc
    exact op_un h hg hT hop hx hv
  | convert s t x =>
    simp only [cOp] at hc
    split at hc
    · rename_i h1 h2 h3; cases hc; exact op_convI h hg hT hop h3 h1 h2 hv
    · rename_i h1 h2 h3; cases hc; exact op_convS h hg hT hop h3 h1 h2 hv
    · rename_i e y h1 h2 h3
      split at hc
      · rename_i he; cases hc; exact op_convB h hg hT hop h3 h1 h2 he hv
      · cases hc
    · rename_i e y h1 h2 h3
      split at hc
      · rename_i he; cases hc; exact op_convBs h hg hT hop h3 h1 h2 he hv
      · cases hc
    · rename_i t' y h1 h2 h3
      split at hc
      · rename_i j hj
        split at hc
        · cases hc
        · rename_i hj0
          cases hc
          exact op_toU h hg hT hop h3 h1 h2 hj hj0 hv
      · cases hc
    · rename_i u y h1 h2 h3
      cases hc
      exact op_fromU h hg hT hop h3 h1 h2 hv
    · cases hc
  | makeInterface t x =>
    simp only [cOp] at hc
    split at hc
    · cases hc
    · rename_i d y hni h1 h2
      cases hc
      simp only [xop] at hv; cases hv
      exact op_mkif h hg hT hop h2 h1 (fun ms hd => hni ms hd)
    · cases hc
  | makeFunc f x y =>
    simp only [cOp] at hc
    split at hc
    · rename_i h1 h2
      cases hc
      simp only [xop] at hv; cases hv
      exact op_mkfn h hg hT hop h1 h2
    · cases hc
  | slice t x lo hi mx =>
    cases mx with
    | some m => simp [cOp] at hc
    | none =>
      simp only [cOp] at hc
      split at hc
      · rename_i h1 h2 h3 h4; cases hc; exact op_slice_str h hg hT hop h2 h3 h4 h1 hv
      · rename_i e y lo' hi' h1 h2 h3 h4
        obtain ⟨s, hs, rfl⟩ := map_some hc
        exact op_slice h hg hT hop h2 h3 h4 h1 hs hv
      · rename_i n e y lo' hi' h1 h2 h3 h4
        obtain ⟨s, hs, rfl⟩ := map_some hc
        exact op_sliceA h hg hT hop h2 h3 h4 h1 hs hv
      · cases hc
  | fieldAddr t x f =>
    simp only [cOp] at hc
    split at hc
    · rename_i fs y h1 h2
      split at hc
      · rename_i fd hf
        split at hc
        · rename_i s hs
          split at hc
          · cases hc
          · rename_i hs0
            cases hc
            exact op_faddr h hg hT hop h2 h1 hf hs hs0 hv
        · cases hc
      · cases hc
    · cases hc
  | field t x f =>
    simp only [cOp] at hc
    split at hc
    · rename_i fs y h1 h2
      split at hc
      · rename_i fd hf
        split at hc
        · rename_i d s hd hs
          cases had : aggD d
          · simp [had] at hc
            subst hc
            exact op_field h hg hT hop h2 h1 hf hd (.inr ⟨had, rfl, rfl⟩) hv
          · simp [had] at hc
            subst hc
            exact op_field h hg hT hop h2 h1 hf hd (.inl ⟨had, rfl, hs⟩) hv
        · cases hc
      · cases hc
    · cases hc
  | indexAddr t x i =>
    simp only [cOp] at hc
    split at hc
    · rename_i e y j h1 h2 h3
      obtain ⟨s, hs, rfl⟩ := map_some hc
      exact op_iaddr h hg hT hop h2 h3 h1 hs hv
    · rename_i n e y j h1 h2 h3
      obtain ⟨s, hs, rfl⟩ := map_some hc
      exact op_iaddrA h hg hT hop h2 h3 h1 hs hv
    · cases hc
  | index t x i =>
    simp only [cOp] at hc
    split at hc
    · rename_i h1 h2 h3; cases hc; exact op_idxS h hg hT hop h2 h3 h1 hv
    · rename_i n e y j h1 h2 h3
      split at hc
      · rename_i d s hd hs
        split at hc
        · rename_i had
          cases hc
          exact op_idxA h hg hT hop h2 h3 h1 hd hs (.inl ⟨had, rfl⟩) hv
        · rename_i had
          split at hc
          · rename_i hs1
            subst hs1
            cases hc
            exact op_idxA h hg hT hop h2 h3 h1 hd hs (.inr ⟨by simpa using had, rfl, rfl⟩) hv
          · cases hc
      · cases hc
    · cases hc
  | extract x i =>
    obtain ⟨y, hx, rfl⟩ := map_some hc
    exact op_extract h hg hT hop hx hv
  | makeSlice t x y =>
    simp only [cOp] at hc
    split at hc
    · rename_i e x' y' h1 h2 h3
      split at hc
      · rename_i s b z h4 h5 h6
        split at hc
        · rename_i hzs
          cases hc
          exact op_makeS h hg hT hop h2 h3 h1 h4 h5 h6 hzs hv
        · cases hc
      · cases hc
    · cases hc
  | makeMap t r =>
    simp only [cOp] at hc
    split at hc
    · split at hc
      · rename_i k e h1
        split at hc
        · cases hc
          simp only [xop] at hv; cases hv
          exact op_makeM h hop (.inl rfl) h1
        · cases hc
      · cases hc
    · rename_i kk n
      split at hc
      · rename_i k e h1
        split at hc
        · cases hc
          simp only [xop] at hv; cases hv
          exact op_makeM h hop (.inr ⟨_, _, rfl⟩) h1
        · cases hc
      · cases hc
    · cases hc
  | insert t m k x =>
    simp only [cOp] at hc
    split at hc
    · rename_i kt e m' k' x' h1 h2 h3 h4
      split at hc
      · rename_i hkt
        cases hc
        exact op_insert h hg hT hop h2 h3 h4 h1 hkt hv
      · cases hc
    · cases hc
  | lookup t m k ok =>
    simp only [cOp] at hc
    split at hc
    · rename_i kt e m' k' h1 h2 h3
      split at hc
      · rename_i z hkt hz
        cases hc
        exact op_lookup h hg hT hop h2 h3 h1 hkt (run_z1 hz w) hv
      · cases hc
    · cases hc
  | range t x =>
    simp only [cOp] at hc
    split at hc
    · rename_i y h1 h2; cases hc; exact op_range h hg hT hop h2 h1 hv
    · cases hc
  | next x st =>
    cases st
    · simp [cOp] at hc
    · obtain ⟨y, hx, rfl⟩ := map_some hc
      exact op_next h hg hT hop hx hv
  | typeAssert x t2 t ok =>
    simp only [cOp] at hc
    split at hc
    · cases hc
    · rename_i d y hni h1 h2
      obtain ⟨z, hz, rfl⟩ := map_some hc
      exact op_tassert h hg hT hop h2 h1 (fun ms hd => hni ms hd) (run_z1 hz w) hv
    · cases hc
  | panic x =>
    obtain ⟨y, hx, rfl⟩ := map_some hc
    simp [callish] at hn
  | call c =>
    simp only [cOp] at hc
    split at hc
    · rename_i f hcf
      split at hc
      · rename_i y hy
        cases hc
        simp only [xop] at hv; cases hv
        exact op_noEsc h hg hT hop hcf hy
      · split at hc
        · cases hc; simp [callish] at hn
        · cases hc
    · rename_i b hcb
      unfold cBuiltin at hc
      split at hc
      · rename_i x t h1 h2
        split at hc
        · rename_i y h3 h4; cases hc; exact op_len h hg hT hop hcb h1 h2 h4 true h3 hv
        · rename_i e y h3 h4; cases hc; exact op_len h hg hT hop hcb h1 h2 h4 false ⟨e, h3⟩ hv
        · rename_i n e y h3 h4
          cases hc
          simp only [xop] at hv; cases hv
          exact op_lenC h hop hcb h1 h2 h3
        · cases hc
      · rename_i x y t u h1 h2
        split at hc
        · rename_i e e2 x' y' h3 h4 h5 h6
          split at hc
          · rename_i s b z h7 h8 h9
            split at hc
            · rename_i hzs
              cases hc
              exact op_append h hg hT hop hcb h1 h2 h5 h6 h3 h7 h8 h9 hzs (st := false) ⟨e2, h4⟩ hv
            · cases hc
          · cases hc
        · rename_i e x' y' h3 h4 h5 h6
          split at hc
          · rename_i s b z h7 h8 h9
            split at hc
            · rename_i hzs
              cases hc
              exact op_append h hg hT hop hcb h1 h2 h5 h6 h3 h7 h8 h9 hzs.2 (st := true) h4 hv
            · cases hc
          · cases hc
        · cases hc
      · rename_i x h1
        obtain ⟨y, hx, rfl⟩ := map_some hc
        exact op_sdata h hg hT hop hcb h1 hx hv
      · rename_i x n t it h1 h2
        split at hc
        · rename_i e y m h3 h4 h5
          split at hc
          · rename_i hk
            cases hc
            exact op_ustr h hg hT hop hcb h1 h2 h4 h5 h3 hk hv
          · cases hc
        · cases hc
      · obtain ⟨y, hx, rfl⟩ := map_some hc
        exact op_max h hg hT hop hcb hx hv
      · obtain ⟨y, hx, rfl⟩ := map_some hc
        exact op_min h hg hT hop hcb hx hv
      · cases hc
    · cases hc
  | defer c =>
    simp only [cOp] at hc
    split at hc
    · split at hc
      · cases hc; simp [callish] at hn
      · cases hc
    · cases hc
  | _ => simp [cOp] at hc

end
end Go.X
namespace Go.X
open Go

/-! ### calls -/

/-- What stays as it is behind a call that has made memory: all that it made. -/
def roNew (ro : Nat → Option Obj) (w u : World) : Nat → Option Obj := fun B => if B < w.heap.size then ro B else u.heap[B]?

/-- Memory may have been made; of the outer world nothing has moved. -/
def Calm (w u : World) : Prop := w.heap.size ≤ u.heap.size ∧ u.os = w.os ∧ u.output = w.output

/-- A CALL THAT ONLY RECKONS: of these arguments it returns this, and nothing that there was has moved. -/
def IsoOk (P : Program) (E : Env) (f : FuncId) (args : List XV) (r : XV) : Prop :=
  ∀ (ro : Nat → Option Obj) (w : World) (vs : List Value), (∀ B o, ro B = some o → w.heap[B]? = some o) → globOk E ⟨fun _ => none, ro⟩ → relL ⟨fun _ => none, ro⟩ args vs →
    Calls P f vs.toArray w fun e u => ∃ v, e = .returned v ∧ Calm w u ∧ (∀ B, B < w.heap.size → u.heap[B]? = w.heap[B]?) ∧ rel ⟨fun _ => none, roNew ro w u⟩ r v

def post (σ : Ctx) (H : Heap) (w : World) : CR → Ending → World → Prop
  | .ret v K, e, u => ∃ v' τ, e = .returned v' ∧ rel τ v v' ∧ Step σ H w τ K u
  | .pan v K, e, u => ∃ v' τ, e = .panicked [{ v := v', recovered := false }] ∧ rel τ v v' ∧ Step σ H w τ K u

/-- A function that is entered. -/
def hasBody (P : Program) (f : FuncId) : Prop := ∃ fn, P.funcs[f]? = some fn ∧ fn.body.isSome = true ∧ (fn.name == "runtime.NumGoroutine") = false

def CallOk (P : Program) (E : Env) (call : CallF) : Prop := ∀ f args H r, call f args H = some r → hasBody P f ∧
  (E.iso f = false → ∀ σ w vs, WF σ H w → globOk E σ → relL σ args vs → Calls P f vs.toArray w (post σ H w r)) ∧
  (E.iso f = true → H = [] → ∃ v K, r = .ret v K ∧ IsoOk P E f args v)

def OraOk (P : Program) (E : Env) : Prop := ∀ f args r, E.iso f = true → E.ora f args = some r → hasBody P f ∧ IsoOk P E f args r

mutual
theorem rel_flat : ∀ {σ τ : Ctx} {x : XV} {v : Value}, flat x = true → rel σ x v → rel τ x v
  | _, _, .bool _, _, _, h => h
  | _, _, .int _ _, _, _, h => h
  | _, _, .str _, _, _, h => h
  | _, _, .nilp, _, _, h => h
  | _, _, .nils, _, _, h => h
  | _, _, .nilf, _, _, h => h
  | _, _, .nili, _, _, h => h
  | _, _, .fn _ _ _, _, hf, ⟨a', b', he, ha, hb⟩ => by
    simp only [flat, Bool.and_eq_true] at hf
    exact ⟨a', b', he, relL_flat hf.1 ha, relL_flat hf.2 hb⟩
  | _, _, .iface _ _, _, hf, ⟨x', he, hx⟩ => ⟨x', he, rel_flat (by simpa [flat] using hf) hx⟩
  | _, _, .agg _, _, hf, ⟨x', he, hx⟩ => ⟨x', he, relL_flat (by simpa [flat] using hf) hx⟩
  | _, _, .tup _, _, hf, ⟨x', he, hx⟩ => ⟨x', he, relL_flat (by simpa [flat] using hf) hx⟩
  | _, _, .ptr _ _, _, hf, _ => by simp [flat] at hf
  | _, _, .vp _, _, hf, _ => by simp [flat] at hf
  | _, _, .sl _ _ _ _, _, hf, _ => by simp [flat] at hf
  | _, _, .vs _ _, _, hf, _ => by simp [flat] at hf
  | _, _, .mp _, _, hf, _ => by simp [flat] at hf
  | _, _, .bad, _, hf, _ => by simp [flat] at hf
theorem relL_flat : ∀ {σ τ : Ctx} {xs : List XV} {vs : List Value}, flatL xs = true → relL σ xs vs → relL τ xs vs
  | _, _, [], _, _, h => by simpa [relL] using h
  | _, _, x :: xs, vs, hf, h => by
    simp only [flatL, Bool.and_eq_true] at hf
    simp only [relL] at h
    obtain ⟨v, r, rfl, hv, hr⟩ := h
    exact relL_cons (rel_flat hf.1 hv) (relL_flat hf.2 hr)
end

def Seen (σ : Ctx) (H : Heap) (vis : List Nat) : Prop := ∀ b ∈ vis, live H b ∧ σ.blk b ≠ none

def Opened (σ : Ctx) (w : World) (vis : List Nat) (ro : Nat → Option Obj) : Prop :=
  (∀ B o, σ.ro B = some o → ro B = some o) ∧ ∀ b ∈ vis, ∀ B base n, σ.blk b = some (B, base, n) → ro B = w.heap[B]?

theorem Opened.sub {σ : Ctx} {w : World} {vis vis' : List Nat} {ro : Nat → Option Obj} (h : Opened σ w vis ro) (hs : ∀ b ∈ vis', b ∈ vis) : Opened σ w vis' ro :=
  ⟨h.1, fun b hb => h.2 b (hs b hb)⟩

mutual
theorem frz_ok {σ : Ctx} {H : Heap} {w : World} (h : WF σ H w) : ∀ (d : Nat) {x x' : XV} {v : Value} {vis : List Nat}, rel σ x v → frz d H x = some (x', vis) →
    Seen σ H vis ∧ ∀ ro, Opened σ w vis ro → rel ⟨fun _ => none, ro⟩ x' v
  | 0, _, _, _, _, _, hf => by simp [frz] at hf
  | d + 1, x, x', v, vis, hr, hf => by
    cases x with
    | ptr b off =>
      simp only [frz] at hf
      obtain ⟨B, base, n, hb, rfl⟩ := hr
      split at hf
      · rename_i cs hcs
        split at hf
        · rename_i hle
          obtain ⟨⟨r, vis'⟩, hr', he⟩ := map_some hf
          cases he
          obtain ⟨C, e, fr, hB, hn, _, hbl, hrel⟩ := h.cells hcs hb
          have hd := relL_drop off hrel
          rw [List.drop_take, List.drop_drop] at hd
          obtain ⟨h1, h2⟩ := frzL_ok h d hd hr'
          refine ⟨?_, fun ro ho => ⟨B, base + off, rfl, .inr ⟨C, e, fr, ?_, ?_, ?_⟩⟩⟩
          · intro c hc
            rcases List.mem_cons.1 hc with rfl | hc
            · exact ⟨cellsAt_live hcs, by simp [hb]⟩
            · exact h1 c hc
          · show ro B = _
            rw [ho.2 b (List.mem_cons_self) B base n hb, hB]
          · have hl := relL_length (h2 ro (ho.sub fun c hc => List.mem_cons_of_mem _ hc))
            simp at hl
            show base + off + r.length ≤ C.size
            omega
          · have h3 := h2 ro (ho.sub fun c hc => List.mem_cons_of_mem _ hc)
            have hl := relL_length h3
            have : r.length = cs.length - off := by simp at hl; omega
            rw [this]
            exact h3
        · cases hf
      · cases hf
    | sl b off len esz =>
      simp only [frz] at hf
      obtain ⟨B, base, n, hb, o', cap, rfl, hlc, hoo⟩ := hr
      split at hf
      · rename_i cs hcs
        split at hf
        · rename_i hle
          obtain ⟨⟨r, vis'⟩, hr', he⟩ := map_some hf
          cases he
          obtain ⟨C, e, fr, hB, hn, _, hbl, hrel⟩ := h.cells hcs hb
          have hd := relL_at hrel hle
          obtain ⟨h1, h2⟩ := frzL_ok h d hd hr'
          refine ⟨?_, fun ro ho => .inl ⟨B, o', cap, rfl, hlc, ?_⟩⟩
          · intro c hc
            rcases List.mem_cons.1 hc with rfl | hc
            · exact ⟨cellsAt_live hcs, by simp [hb]⟩
            · exact h1 c hc
          · have h3 := h2 ro (ho.sub fun c hc => List.mem_cons_of_mem _ hc)
            have hl := relL_length h3
            have hrl : r.length = len * esz := by simp at hl; omega
            rcases hoo with ⟨rfl, hcap⟩ | rfl
            · right
              have hmul : len * esz ≤ cap * esz := Nat.mul_le_mul_right _ hlc
              refine ⟨C, e, fr, ?_, (show base + off + r.length ≤ C.size by omega), ?_⟩
              · show ro B = _
                rw [ho.2 b (List.mem_cons_self) B base n hb, hB]
              · rw [hrl]; exact h3
            · left
              have : len = 0 := by omega
              subst this
              simpa using hrl
        · cases hf
      · cases hf
    | fn f fa fb =>
      simp only [frz] at hf
      obtain ⟨a', b', rfl, ha, hb⟩ := hr
      cases h1 : frzL d H fa with
      | none => simp [h1] at hf
      | some p =>
        obtain ⟨pa, v1⟩ := p
        cases h2 : frzL d H fb with
        | none => simp [h1, h2] at hf
        | some q =>
          obtain ⟨pb, v2⟩ := q
          simp [h1, h2] at hf
          obtain ⟨rfl, rfl⟩ := hf
          obtain ⟨s1, r1⟩ := frzL_ok h d ha h1
          obtain ⟨s2, r2⟩ := frzL_ok h d hb h2
          exact ⟨fun c hc => (List.mem_append.1 hc).elim (s1 c) (s2 c), fun ro ho => ⟨a', b', rfl, r1 ro (ho.sub fun c hc => List.mem_append_left _ hc), r2 ro (ho.sub fun c hc => List.mem_append_right _ hc)⟩⟩
    | iface t y =>
      simp only [frz] at hf
      obtain ⟨y', rfl, hy⟩ := hr
      obtain ⟨⟨r, vis'⟩, hr', he⟩ := map_some hf
      cases he
      obtain ⟨s1, r1⟩ := frz_ok h d hy hr'
      exact ⟨s1, fun ro ho => ⟨y', rfl, r1 ro ho⟩⟩
    | agg cs =>
      simp only [frz] at hf
      obtain ⟨y', rfl, hy⟩ := hr
      obtain ⟨⟨r, vis'⟩, hr', he⟩ := map_some hf
      cases he
      obtain ⟨s1, r1⟩ := frzL_ok h d hy hr'
      exact ⟨s1, fun ro ho => ⟨y', rfl, r1 ro ho⟩⟩
    | tup cs =>
      simp only [frz] at hf
      obtain ⟨y', rfl, hy⟩ := hr
      obtain ⟨⟨r, vis'⟩, hr', he⟩ := map_some hf
      cases he
      obtain ⟨s1, r1⟩ := frzL_ok h d hy hr'
      exact ⟨s1, fun ro ho => ⟨y', rfl, r1 ro ho⟩⟩
    | mp b => simp [frz] at hf
    | bad => simp [frz] at hf
    | vp cells =>
      simp only [frz] at hf; cases hf
      refine ⟨fun c hc => (by cases hc), fun ro ho => ?_⟩
      have := rel_mono (σ := σ.pure) (τ := ⟨fun _ => none, ro⟩) ⟨fun _ _ hh => by simp [Ctx.pure] at hh, ho.1⟩ (x := .vp cells) (v := v) (by
        obtain ⟨B, off, he, hc⟩ := hr
        exact ⟨B, off, he, hc⟩)
      exact this
    | vs len cells =>
      simp only [frz] at hf; cases hf
      refine ⟨fun c hc => (by cases hc), fun ro ho => ?_⟩
      have := rel_mono (σ := σ.pure) (τ := ⟨fun _ => none, ro⟩) ⟨fun _ _ hh => by simp [Ctx.pure] at hh, ho.1⟩ (x := .vs len cells) (v := v) (by
        rcases hr with ⟨B, off, cap, he, hc⟩ | hr
        · exact .inl ⟨B, off, cap, he, hc⟩
        · exact .inr hr)
      exact this
    | _ => simp only [frz] at hf; cases hf; exact ⟨fun c hc => (by cases hc), fun ro ho => hr⟩
theorem frzL_ok {σ : Ctx} {H : Heap} {w : World} (h : WF σ H w) : ∀ (d : Nat) {xs xs' : List XV} {vs : List Value} {vis : List Nat}, relL σ xs vs → frzL d H xs = some (xs', vis) →
    Seen σ H vis ∧ ∀ ro, Opened σ w vis ro → relL ⟨fun _ => none, ro⟩ xs' vs
  | 0, _, _, _, _, _, hf => by simp [frzL] at hf
  | d + 1, [], xs', vs, vis, hr, hf => by
    simp only [frzL] at hf
    cases hf
    exact ⟨fun c hc => (by cases hc), fun ro ho => by simpa [relL] using hr⟩
  | d + 1, x :: xs, xs', vs, vis, hr, hf => by
    simp only [relL] at hr
    obtain ⟨v, r, rfl, hv, hr⟩ := hr
    simp only [frzL] at hf
    cases h1 : frz d H x with
    | none => simp [h1] at hf
    | some p =>
      obtain ⟨pa, v1⟩ := p
      cases h2 : frzL d H xs with
      | none => simp [h1, h2] at hf
      | some q =>
        obtain ⟨pb, v2⟩ := q
        simp [h1, h2] at hf
        obtain ⟨rfl, rfl⟩ := hf
        obtain ⟨s1, r1⟩ := frz_ok h d hv h1
        obtain ⟨s2, r2⟩ := frzL_ok h d hr h2
        exact ⟨fun c hc => (List.mem_append.1 hc).elim (s1 c) (s2 c), fun ro ho => relL_cons (r1 ro (ho.sub fun c hc => List.mem_append_left _ hc)) (r2 ro (ho.sub fun c hc => List.mem_append_right _ hc))⟩
end

/-- Memory was made; nothing else has moved. -/
theorem Step.grow {σ : Ctx} {H : Heap} {w u : World} (h : WF σ H w) (hcm : Calm w u) (hold : ∀ B, B < w.heap.size → u.heap[B]? = w.heap[B]?) :
    Step σ H w ⟨σ.blk, roNew σ.ro w u⟩ H u := by
  have hs := hcm.1
  have hrolt : ∀ B o, σ.ro B = some o → B < w.heap.size := by
    intro B o ho
    have := h.ro B o ho
    rcases Nat.lt_or_ge B w.heap.size with h' | h'
    · exact h'
    · simp [Array.getElem?_eq_none h'] at this
  have hle : σ.Le ⟨σ.blk, roNew σ.ro w u⟩ := ⟨fun _ _ h => h, fun B o ho => by simp [roNew, hrolt B o ho, ho]⟩
  refine ⟨hle, ⟨h.dom, ?_, ?_, h.inj, ?_, ?_⟩, fun B hB _ => hold B hB, hs, fun b B x h1 h2 => by simp [h1] at h2, ?_, Nat.le_refl _, fun _ _ _ => rfl, fun _ h => h, hcm.2⟩
  · intro b B base n hb; have := h.lt _ _ _ _ hb; omega
  · intro b x B base n hx hb
    exact blkOk_mono hle (hold B (h.lt _ _ _ _ hb)) (h.ok _ _ _ _ _ hx hb)
  · intro b B x hl hb
    have hB := h.lt _ _ x.1 x.2 hb
    show roNew σ.ro w u B = none
    simp [roNew, hB, h.sep b B x hl hb]
  · intro B o ho
    have ho' : roNew σ.ro w u B = some o := ho
    simp only [roNew] at ho'
    split at ho'
    · rename_i hB
      rw [hold B hB, h.ro B o ho']
    · exact ho'
  · intro B o h1 h2
    left
    have h2' : roNew σ.ro w u B = some o := h2
    simp only [roNew] at h2'
    split at h2'
    · simp [h1] at h2'
    · omega

theorem globOk_pure {E : Env} {σ τ : Ctx} (h : globOk E σ) (hr : ∀ B o, σ.ro B = some o → τ.ro B = some o) : globOk E τ := fun g cs hg =>
  let ⟨C, e, fr, h1, h2, h3⟩ := h g cs hg
  ⟨C, e, fr, hr _ _ h1, h2, relL_mono (σ := σ.pure) (τ := τ.pure) ⟨fun _ _ hh => by simp [Ctx.pure] at hh, hr⟩ h3⟩

theorem docall_ok {P : Program} {E : Env} {call : CallF} (hcall : CallOk P E call) (hora : OraOk P E) {σ : Ctx} {H : Heap} {w : World} {f : Nat} {args : List XV} {vs : List Value} {r : CR}
    (h : WF σ H w) (hg : globOk E σ) (hr : relL σ args vs) (hc : docall E call f args H = some r) : hasBody P f ∧ Calls P f vs.toArray w (post σ H w r) := by
  unfold docall at hc
  split at hc
  · rename_i hi
    split at hc
    · cases hc
    · rename_i args' vis hf
      obtain ⟨hseen, hop⟩ := frzL_ok h depth hr hf
      have hk := Step.kill h vis (fun b hb => (hseen b hb).2)
      have hro : Opened σ w vis (σ.kill H w vis).ro := by
        refine ⟨hk.le.ro, fun b hb B base n hbb => ?_⟩
        simp only [Ctx.kill]
        rw [if_pos ⟨b, hb, (base, n), (hseen b hb).1, hbb⟩]
      have hrel := hop _ hro
      have hgl : globOk E ⟨fun _ => none, (σ.kill H w vis).ro⟩ := globOk_pure hg hk.le.ro
      have done : ∀ rv, IsoOk P E f args' rv → Calls P f vs.toArray w (post σ H w (back H rv vis)) := by
        intro rv hiso
        refine (hiso (σ.kill H w vis).ro w vs hk.wf.ro hgl hrel).mono ?_
        rintro e u ⟨v, rfl, hs, hold, hv⟩
        unfold back
        split
        · rename_i hfl
          exact ⟨v, _, rfl, rel_flat hfl hv, Step.grow h hs hold⟩
        · refine ⟨v, ⟨σ.blk, roNew (σ.kill H w vis).ro w u⟩, rfl, rel_mono (σ := ⟨fun _ => none, roNew (σ.kill H w vis).ro w u⟩) (τ := ⟨σ.blk, roNew (σ.kill H w vis).ro w u⟩) ⟨fun _ _ hh => (by cases hh), fun _ _ hh => hh⟩ hv, Step.trans h hk (Step.grow hk.wf hs hold)⟩
      split at hc
      · rename_i rv hrv
        cases hc
        exact ⟨(hora f args' rv hi hrv).1, done rv (hora f args' rv hi hrv).2⟩
      · split at hc
        · rename_i rv K hrv
          cases hc
          obtain ⟨v2, K2, he, hiso⟩ := (hcall f args' [] _ hrv).2.2 hi rfl
          cases he
          exact ⟨(hcall f args' [] _ hrv).1, done rv hiso⟩
        · rename_i v K hrv
          obtain ⟨v2, K2, he, _⟩ := (hcall f args' [] _ hrv).2.2 hi rfl
          cases he
        · cases hc
  · rename_i hi
    exact ⟨(hcall f args H r hc).1, (hcall f args H r hc).2.1 (by simpa using hi) σ w vs h hg hr⟩

end Go.X
namespace Go.X
open Go

/-- The deferred calls. -/
def relD (σ : Ctx) : List (Nat × List XV) → List Deferred → Prop
  | [], ds => ds = []
  | (f, args) :: r, ds => ∃ first cap ds', ds = { target := .fn (.func f) cap, args := first } :: ds' ∧ relL σ args (first.toList ++ cap.toList) ∧ relD σ r ds'

theorem relD_mono {σ τ : Ctx} (h : σ.Le τ) : ∀ {D : List (Nat × List XV)} {ds : List Deferred}, relD σ D ds → relD τ D ds
  | [], _, hr => hr
  | (f, args) :: r, ds, hr => by
    obtain ⟨first, cap, ds', rfl, h1, h2⟩ := hr
    exact ⟨first, cap, ds', rfl, relL_mono h h1, relD_mono h h2⟩

/-- What holds behind a piece of code. -/
def After (σ : Ctx) (H : Heap) (w : World) (s : St) (τ : Ctx) (a : Act) (u : World) : Prop :=
  relL τ s.T a.tmps.toList ∧ relD τ s.D a.defers ∧ Step σ H w τ s.H u

def exitOk (τ : Ctx) : XE → Exit → Prop
  | .norm, e => e = .normal
  | .exit id, e => e = .exit id
  | .ret, e => e = .ret
  | .pan v, e => ∃ v', e = .panic [{ v := v', recovered := false }] ∧ rel τ v v'

section
variable {P : Program} {E : Env} {σ : Ctx} {a : Act} {w : World} {o : Oper} {s s' : St} {call : CallF}

theorem put_rel {σ : Ctx} {T : List XV} {a : Act} {v : XV} {v' : Value} (hT : relL σ T a.tmps.toList) (hv : rel σ v v') (d : Option Nat) : relL σ (putT T d v) (a.put d v').tmps.toList := by
  cases d with
  | none => exact hT
  | some n => simpa [putT, Act.put] using relL_set n hT hv

theorem put_defers (a : Act) (d : Option Nat) (v : Value) : (a.put d v).defers = a.defers := by cases d <;> rfl

theorem rel_und {σ : Ctx} : rel σ und undef := ⟨#[], rfl, by simp [relL]⟩

theorem want_eq {ops : Array Oper} {xo : XOper} (hc : cOper P ops o = some xo) (hT : relL σ s.T a.tmps.toList) : want s.T xo.guard = Region.wanted o (yielded ops a.tmps) := by
  unfold cOper at hc
  split at hc
  · rename_i x hx
    split at hc
    · rename_i hg
      cases hc
      simp [want, Region.wanted, hg]
    · rename_i j b hg
      split at hc
      · rename_i t ht
        cases hc
        simp only [want, Region.wanted, hg, yielded, ht, Option.bind_some]
        cases hx : s.T[t]? with
        | none =>
          have := relL_none hT hx
          have h1 : a.tmps[t]? = none := by simpa using this
          simp [h1]
        | some y =>
          obtain ⟨v, hv, hr⟩ := relL_get t hT hx
          have h1 : a.tmps[t]? = some v := by simpa using hv
          rw [h1]
          cases y <;> first
            | (obtain rfl := hr; simp; done)
            | (obtain ⟨_, _, _, _, rfl⟩ := hr; simp; done)
            | (obtain ⟨_, _, rfl, _⟩ := hr; simp; done)
            | (obtain ⟨_, _, _, _, _, _, rfl, _⟩ := hr; simp; done)
            | (rcases hr with ⟨_, _, _, rfl, _⟩ | ⟨rfl, _, _, _, rfl⟩ <;> simp; done)
            | (obtain ⟨_, _, _, rfl, _⟩ := hr; simp; done)
            | (obtain ⟨_, rfl, _⟩ := hr; simp; done)
            | (obtain ⟨_, rfl⟩ := hr; simp; done)
            | (obtain rfl := hr; rename_i b'; cases b <;> cases b' <;> rfl)
      · cases hc
  · cases hc

theorem cOper_op {ops : Array Oper} {xo : XOper} (hc : cOper P ops o = some xo) : cOp P o.op = some xo.op ∧ xo.dst = o.dst := by
  unfold cOper at hc
  split at hc
  · rename_i x hx
    split at hc
    · cases hc; exact ⟨hx, rfl⟩
    · split at hc
      · cases hc; exact ⟨hx, rfl⟩
      · cases hc
  · cases hc

/-- A call of a function of the program. -/
theorem run_callFunc {f : FuncId} (hb : hasBody P f) (args : Array Value) (w : World) : (callFunc f args).run P w = .ok (.enter f args) w := by
  obtain ⟨fn, h1, h2, h3⟩ := hb
  have h3' : fn.name ≠ "runtime.NumGoroutine" := by simpa using h3
  cases hbd : fn.body with
  | none => simp [hbd] at h2
  | some c => simp [callFunc, h1, h3', hbd]

theorem call_args {E : Env} {T : List XV} (hg : globOk E σ) (hT : relL σ T a.tmps.toList) {f : Operand} {f' : XO} {args : Array Operand} {xs : List XO} (hf : cO f = some f') (hx : cOs args.toList = some xs) {g : FuncId} {first captured : List XV}
    (hfv : ev E T f' = .fn (.func g) first captured) : ∃ fi cap, a.eval f = .func (.func g) fi cap ∧ relL σ (first ++ xs.map (ev E T) ++ captured) (fi ++ args.map a.eval ++ cap).toList := by
  have hr := rel_ev hg hT hf
  rw [hfv] at hr
  obtain ⟨fi, cap, he, h1, h2⟩ := hr
  refine ⟨fi, cap, he, ?_⟩
  rw [Array.toList_append, Array.toList_append]
  exact relL_append (relL_append h1 (by simpa using relL_evs hg hT hx)) h2

theorem okv_val {x : Option XV} {H : Heap} {r : OR} (h : okv x H = some r) : ∃ v K, r = .val v K := by
  cases x with
  | none => simp [okv] at h
  | some y => simp [okv] at h; exact ⟨y, H, h.symm⟩

theorem xop_val {E : Env} {T : List XV} {H : Heap} {op : XOp} {r : OR} (hn : callish op = false) (h : xop E call op T H = some r) : ∃ v K, r = .val v K := by
  cases op <;> simp only [callish, reduceCtorEq] at hn <;> simp only [xop] at h <;> (repeat' split at h) <;>
    first
      | exact okv_val h
      | (cases h; done)
      | (cases h; exact ⟨_, _, rfl⟩)
      | (obtain ⟨z, _, rfl⟩ := map_some h; exact ⟨_, _, rfl⟩)

theorem cOp_panic {op : Op} {y : XO} (h : cOp P op = some (.panic y)) : ∃ z, op = .panic z ∧ cO z = some y := by
  unfold cOp cBuiltin at h
  (repeat' split at h) <;>
    first
      | (cases h; done)
      | (obtain ⟨_, h1, h2⟩ := map_some h; cases h2; done)
      | (obtain ⟨_, h1, h2⟩ := map_some h; cases h2; exact ⟨_, rfl, h1⟩)

theorem cOp_call {op : Op} {f' : XO} {xs : List XO} (h : cOp P op = some (.call f' xs)) : ∃ c f, op = .call c ∧ c.callee = .value f ∧ cO f = some f' ∧ cOs c.args.toList = some xs := by
  unfold cOp cBuiltin at h
  (repeat' split at h) <;>
    first
      | (cases h; done)
      | (obtain ⟨_, h1, h2⟩ := map_some h; cases h2; done)
      | (cases h; exact ⟨_, _, rfl, by assumption, by assumption, by assumption⟩)

theorem cOp_defer {op : Op} {f' : XO} {xs : List XO} (h : cOp P op = some (.defer f' xs)) : ∃ c f, op = .defer c ∧ c.callee = .value f ∧ cO f = some f' ∧ cOs c.args.toList = some xs := by
  unfold cOp cBuiltin at h
  (repeat' split at h) <;>
    first
      | (cases h; done)
      | (obtain ⟨_, h1, h2⟩ := map_some h; cases h2; done)
      | (cases h; exact ⟨_, _, rfl, by assumption, by assumption, by assumption⟩)

/-- AN OPERATION, whatever comes behind it. -/
theorem oper_ok (hcall : CallOk P E call) (hora : OraOk P E) {ops : Array Oper} {xo : XOper} (hc : cOper P ops o = some xo) (hT : relL σ s.T a.tmps.toList) (hD : relD σ s.D a.defers) (h : WF σ s.H w) (hg : globOk E σ) {x : XE}
    (hx : xoper E call xo s = some (x, s')) {K : Act → World → Prop} {Q : Exit → Act → World → Prop}
    (hK : x = .norm → ∀ τ a' u, After σ s.H w s' τ a' u → K a' u) (hQ : ∀ v, x = .pan v → ∀ τ e a' u, exitOk τ x e → After σ s.H w s' τ a' u → Q e a' u) :
    if Region.wanted o (yielded ops a.tmps) = true then o.wp P a w K Q else K (a.put o.dst undef) w := by
  obtain ⟨hco, hdst⟩ := cOper_op hc
  have hw := want_eq (s := s) hc hT
  unfold xoper at hx
  rw [← hw]
  by_cases hwt : want s.T xo.guard = true
  · rw [if_pos hwt] at hx ⊢
    unfold Oper.wp
    cases hcal : callish xo.op with
    | false =>
      split at hx
      · rename_i v K' hv
        cases hx
        obtain ⟨v', u, τ, hruns, hrv, hst⟩ := op_sound h hg hT hco hcal hv
        have hfin : After σ s.H w { T := putT s.T xo.dst v, H := K', D := s.D } τ (a.put o.dst v') u :=
          ⟨by rw [hdst]; exact put_rel (relL_mono hst.le hT) hrv o.dst, by rw [put_defers]; exact relD_mono hst.le hD, hst⟩
        rcases hruns with hr | ⟨hr, rfl⟩
        · rw [hr]; exact hK rfl τ _ _ hfin
        · rw [hr]; exact hK rfl τ _ _ hfin
      · rename_i v K' hv
        obtain ⟨_, _, he⟩ := xop_val hcal hv
        cases he
      · rename_i f args hv
        obtain ⟨_, _, he⟩ := xop_val hcal hv
        cases he
      · cases hx
    | true =>
      generalize hop : xo.op = op at hcal hco hx
      cases op <;> simp only [callish, reduceCtorEq] at hcal
      · -- a panic
        rename_i y
        have hpo := cOp_panic hco
        obtain ⟨z, hz, hyz⟩ := hpo
        have hr := rel_ev hg hT hyz
        simp only [xop] at hx
        generalize ev E s.T y = p at hx hr
        cases p <;> (try (simp at hx; done))
        rename_i t v
        simp at hx
        obtain ⟨rfl, rfl⟩ := hx
        obtain ⟨v', he, hrv⟩ := hr
        have hrun : (execOp a.eval o).run P w = .halt (.panic (.iface t v')) w := by simp [execOp, hz, Instr.panic, he]
        rw [hrun]
        exact hQ _ rfl σ _ _ _ ⟨_, rfl, ⟨v', rfl, hrv⟩⟩ ⟨hT, hD, Step.refl h⟩
      · -- a call
        rename_i f' xs
        have hpo := cOp_call hco
        obtain ⟨c, f, hoc, hcf, hf, hxs⟩ := hpo
        simp only [xop] at hx
        cases hfv : ev E s.T f' <;> simp only [hfv] at hx <;> (try (simp at hx; done))
        rename_i fk first captured
        cases fk <;> (try (simp at hx; done))
        rename_i g
        simp only at hx
        obtain ⟨fi, cap, he, hargs⟩ := call_args (a := a) hg hT hf hxs hfv
        cases hdc : docall E call g (first ++ xs.map (ev E s.T) ++ captured) s.H with
        | none => rw [hdc] at hx; cases hx
        | some r =>
          obtain ⟨hb, hcalls⟩ := docall_ok hcall hora h hg hargs hdc
          have hrun : (execOp a.eval o).run P w = .ok (.enter g (fi ++ c.args.map a.eval ++ cap)) w := by
            simp [execOp, hoc, resolve, hcf, he, Deferred.ofValue, invoke, run_callFunc hb]
          rw [hrun]
          rw [Array.toArray_toList] at hcalls
          refine Calls.mono hcalls ?_
          rintro e u hpost
          cases r with
          | ret v K' =>
            rw [hdc] at hx
            cases hx
            obtain ⟨v', τ, rfl, hrv, hst⟩ := hpost
            exact hK rfl τ _ _ ⟨by rw [hdst]; exact put_rel (relL_mono hst.le hT) hrv o.dst, by rw [put_defers]; exact relD_mono hst.le hD, hst⟩
          | pan v K' =>
            rw [hdc] at hx
            cases hx
            obtain ⟨v', τ, rfl, hrv, hst⟩ := hpost
            exact hQ _ rfl τ _ _ _ ⟨v', rfl, hrv⟩ ⟨relL_mono hst.le hT, relD_mono hst.le hD, hst⟩
      · -- a deferred call
        rename_i f' xs
        have hpo := cOp_defer hco
        obtain ⟨c, f, hoc, hcf, hf, hxs⟩ := hpo
        simp only [xop] at hx
        cases hfv : ev E s.T f' <;> simp only [hfv] at hx <;> (try (simp at hx; done))
        rename_i fk first captured
        cases fk <;> (try (simp at hx; done))
        rename_i g
        simp at hx
        obtain ⟨rfl, rfl⟩ := hx
        obtain ⟨fi, cap, he, hargs⟩ := call_args (a := a) hg hT hf hxs hfv
        have hrun : (execOp a.eval o).run P w = .ok (.defer { target := .fn (.func g) cap, args := fi ++ c.args.map a.eval }) w := by
          simp [execOp, hoc, resolve, hcf, he, Deferred.ofValue]
        rw [hrun]
        refine hK rfl σ _ _ ⟨?_, ?_, Step.refl h⟩
        · rw [hdst]; exact put_rel (a := { a with defers := _ :: a.defers }) hT rel_und o.dst
        · rw [put_defers]
          exact ⟨_, _, _, rfl, by simpa using hargs, hD⟩
  · rw [if_neg hwt] at hx ⊢
    cases hx
    refine hK rfl σ _ _ ⟨by rw [hdst]; exact put_rel hT rel_und o.dst, by rw [put_defers]; exact hD, Step.refl h⟩

end
end Go.X
