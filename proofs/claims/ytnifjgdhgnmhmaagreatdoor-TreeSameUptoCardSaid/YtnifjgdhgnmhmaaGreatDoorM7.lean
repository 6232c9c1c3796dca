/- Whether two statements are the same: the tree's own way. Whether two lists of statements are the same: the document's way. Whether two lists of statements are the same: the document's way, the functions. Whether two lists of statements are the same: the document's way, the whole. Whether two declarations are the same: the tree's own way. Whether two programs are the same: the tree's own way. -/
import Derived.Test.YtnifjgdhgnmhmaaGreatDoorM6
namespace Go.Proofs.YtnifjgdhgnmhmaaGreatDoor
open Go Go.X
set_option linter.unusedSimpArgs false

mutual
def Sm.same : Sm → Sm → Bool
  | .mk kind _ name index e lo hi th el, .mk kind2 _ name2 index2 e2 lo2 hi2 th2 el2 => decide (kind = kind2) && (decide (name = name2) && (decide (lo = lo2) && (decide (hi = hi2) && (index.same index2 && (e.same e2 && (th.same th2 && el.same el2))))))
def Sms.same : Sms → Sms → Bool
  | .nil _, .nil _ => true
  | .cons a r, .cons b s => a.same b && r.same s
  | _, _ => false
end

theorem Sms.same_len : ∀ {a b : Sms}, a.same b = true → a.len = b.len
  | .nil _, .nil _, _ => rfl
  | .cons a r, .cons b s, h => by
    simp only [Sms.same, Bool.and_eq_true] at h
    simp only [Sms.len, Sms.same_len h.2]
  | .nil _, .cons _ _, h => by simp [Sms.same] at h
  | .cons _ _, .nil _, h => by simp [Sms.same] at h

def SameSC (call : CallF) (f : Nat) (a b : Sm) : Prop := call f [.agg a.enc, .agg b.enc] [] = some (.ret (.bool (a.same b)) [])

def I108 (a b : Sms) (i : Nat) (s : St) : Prop :=
  s.D = [] ∧ s.T.length = 30 ∧ s.T.getD 0 und = a.x ∧ s.T.getD 1 und = b.x ∧ s.T.getD 2 und = .fn (.func 109) [] [] ∧ s.T.getD 14 und = .int .i64 (a.len : Int) ∧ s.T.getD 15 und = .int .i64 (i : Int)

def F108 (s : St) : Prop := s.D = [] ∧ s.T.length = 30 ∧ s.T.getD 6 und = .bool false

def body108 : XC := (.seq (.region f108.r4) (.seq (.cond (.t 16) (.skip) (.exit 0)) (.seq (.block 1 (.seq (.region f108.r5) (.seq (.regionD f108.r6 [0, 0, 0, 6, 14, 0, 0, 96, 224, 511, 1023]) (.cond (.t 28) (.seq (.region f108.r7) (.ret)) (.skip))))) (.region f108.r8))))

theorem exit108 {call : CallF} {k i : Nat} {a b : Sms} {s : St} (hs : I108 a b i s) (h : ¬ i < a.len) : ∃ s', exec TE call k body108 s = some (.exit 0, s') ∧ I108 a b i s' := by
  obtain ⟨T, H, D⟩ := s
  obtain ⟨rfl, hl, h0, h1, h2, h14, h15⟩ := hs
  simp only at hl h0 h1 h2 h14 h15
  refine ⟨?s1, ?e1, ?i1⟩
  case e1 =>
    simp [body108, f108.r4, h, hl, h0, h1, h2, h14, h15, exec, xops, xoper, want, putT, xop, ev, bin, intBin, isShift, okv, asNat_nat, takeAt, one, cellsOf, cellsAt_new, setCs_new, set_new, putAt, -List.getD_eq_getElem?_getD, rd_ne, rd_eq, List.length_set, List.getD_cons_zero, List.getD_cons_succ]
    rfl
  case i1 => simp [I108, hl, h0, h1, h2, h14, h15, exec, xops, xoper, want, putT, xop, ev, bin, intBin, isShift, okv, asNat_nat, takeAt, one, cellsOf, cellsAt_new, setCs_new, set_new, putAt, -List.getD_eq_getElem?_getD, rd_ne, rd_eq, List.length_set, List.getD_cons_zero, List.getD_cons_succ]

theorem step108 {call : CallF} {k i : Nat} {a b : Sms} {s : St} (hs : I108 a b i s) (h : i < a.len) (hlen : a.len = b.len) (e f : Sm) (r t : List XV) (he : a.cells.drop (i * 15) = e.enc ++ r) (hf : b.cells.drop (i * 15) = f.enc ++ t) (hi : i + 1 < 2 ^ 63)
    (hc : SameSC call 109 e f) : (e.same f = true ∧ ∃ s', exec TE call k body108 s = some (.norm, s') ∧ I108 a b (i + 1) s') ∨ (e.same f = false ∧ ∃ s', exec TE call k body108 s = some (.ret, s') ∧ F108 s') := by
  obtain ⟨T, H, D⟩ := s
  obtain ⟨rfl, hl, h0, h1, h2, h14, h15⟩ := hs
  simp only at hl h0 h1 h2 h14 h15
  have hxa := Sms.x_vs h
  have hxb := Sms.x_vs (show i < b.len by omega)
  rw [hxa] at h0
  rw [hxb] at h1
  have hca := Sms.cells_length a
  have hcb := Sms.cells_length b
  have hla : i * 15 ≤ a.cells.length := by omega
  have hlb : i * 15 ≤ b.cells.length := by omega
  have hib : i < b.len := by omega
  have hw2 : IntKind.i64.wrap ((i : Int) + 1) = (i : Int) + 1 := wrap_small (by omega) (by omega)
  have hfr : ∀ H, frzL depth H [.agg e.enc, .agg f.enc] = some ([.agg e.enc, .agg f.enc], []) := fun H => frzL_depth (by simp [bares, Sm.leafs_enc, Sm.enc_length]) (by simp) H
  have hdc : ∀ H, docall TE call 109 [.agg e.enc, .agg f.enc] H = some (.ret (.bool (e.same f)) H) := fun H => docall_iso (E := TE) rfl rfl (by simp [bares, Sm.leafs_enc, Sm.enc_length]) (by simp) hc H
  have hiso : TE.iso 109 = true := rfl
  have hte : ∀ r : List XV, takeAt (e.enc ++ r) 0 15 = some e.enc := fun r => by simp [takeAt, Sm.enc_length, List.take_left' (Sm.enc_length e)]
  have htf : ∀ r : List XV, takeAt (f.enc ++ r) 0 15 = some f.enc := fun r => by simp [takeAt, Sm.enc_length, List.take_left' (Sm.enc_length f)]
  -- ahead of the question
  have head : ∃ s', exec TE call k (.region f108.r4) ⟨T, H, []⟩ = some (.norm, s') ∧ s'.T.getD 16 und = .bool true ∧ s'.H = H ∧ I108 a b i s' := by
    refine ⟨?s2, ?e2, ?i2⟩
    case e2 =>
      simp [f108.r4, h, hl, h0, h1, h2, h14, h15, exec, xops, xoper, want, putT, xop, ev, bin, intBin, isShift, okv, asNat_nat, takeAt, one, cellsOf, cellsAt_new, setCs_new, set_new, putAt, -List.getD_eq_getElem?_getD, rd_ne, rd_eq, List.length_set, List.getD_cons_zero, List.getD_cons_succ]
      rfl
    case i2 => simp [I108, hxa, hxb, hl, h0, h1, h2, h14, h15, exec, xops, xoper, want, putT, xop, ev, bin, intBin, isShift, okv, asNat_nat, takeAt, one, cellsOf, cellsAt_new, setCs_new, set_new, putAt, -List.getD_eq_getElem?_getD, rd_ne, rd_eq, List.length_set, List.getD_cons_zero, List.getD_cons_succ]
  obtain ⟨⟨T1, H1, D1⟩, e1, g16, rfl, rfl, gl, g0, g1, g2, g14, g15⟩ := head
  simp only at g16 gl g0 g1 g2 g14 g15
  rw [hxa] at g0
  rw [hxb] at g1
  have ask : ∃ T', xopsL TE call f108.r6 ((T1.set 17 (.int .i64 (i : Int))).set 7 (.int .i64 (i : Int))) H1 = some (T', H1) ∧ T'.getD 28 und = .bool (!(e.same f)) ∧ I108 a b i ⟨T', H1, []⟩ := by
    refine ⟨?s3, ?e3, ?i3⟩
    case e3 =>
      simp [xopsL, f108.r6, kindO, un, hfr, hiso, hdc, hla, hlb, he, hf, hte, htf, h, hib, gl, g0, g1, g2, g14, g15, exec, xops, xoper, want, putT, xop, ev, bin, intBin, isShift, okv, asNat_nat, one, cellsOf, -List.getD_eq_getElem?_getD, rd_ne, rd_eq, List.length_set]
      rfl
    case i3 => simp [I108, hxa, hxb, gl, g0, g1, g2, g14, g15, exec, xops, xoper, want, putT, xop, ev, bin, intBin, isShift, okv, asNat_nat, takeAt, one, cellsOf, cellsAt_new, setCs_new, set_new, putAt, -List.getD_eq_getElem?_getD, rd_ne, rd_eq, List.length_set, List.getD_cons_zero, List.getD_cons_succ]
  obtain ⟨T2, a1, a28, _, al, a0, a1', a2, a14, a15⟩ := ask
  simp only at a28 al a0 a1' a2 a14 a15
  have e2 : exec TE call k (.cond (.t 16) (.skip) (.exit 0)) ⟨T1, H1, []⟩ = some (.norm, ⟨T1, H1, []⟩) := by simp [exec, ev, g16, -List.getD_eq_getElem?_getD]
  have e3 : exec TE call k (.region f108.r5) ⟨T1, H1, []⟩ = some (.norm, ⟨(T1.set 17 (.int .i64 (i : Int))).set 7 (.int .i64 (i : Int)), H1, []⟩) := by
    simp [f108.r5, gl, g0, g1, g2, g14, g15, exec, xops, xoper, want, putT, xop, ev, bin, intBin, isShift, okv, asNat_nat, takeAt, one, cellsOf, cellsAt_new, setCs_new, set_new, putAt, -List.getD_eq_getElem?_getD, rd_ne, rd_eq, List.length_set, List.getD_cons_zero, List.getD_cons_succ]
  have e4 : exec TE call k (.regionD f108.r6 [0, 0, 0, 6, 14, 0, 0, 96, 224, 511, 1023]) ⟨(T1.set 17 (.int .i64 (i : Int))).set 7 (.int .i64 (i : Int)), H1, []⟩ = some (.norm, ⟨T2, H1, []⟩) := runD_of_L a1
  cases hsm : e.same f with
  | true =>
    left
    refine ⟨rfl, ⟨(T2.set 29 (.int .i64 ((i : Int) + 1))).set 15 (.int .i64 ((i : Int) + 1)), H1, []⟩, ?_, ?_⟩
    · have e5 : exec TE call k (.cond (.t 28) (.seq (.region f108.r7) (.ret)) (.skip)) ⟨T2, H1, []⟩ = some (.norm, ⟨T2, H1, []⟩) := by simp [exec, ev, a28, hsm, -List.getD_eq_getElem?_getD]
      unfold body108
      rw [exec_seq_norm e1, exec_seq_norm e2, exec_seq_norm (exec_block_norm (by rw [exec_seq_norm e3, exec_seq_norm e4, e5]))]
      simp [f108.r8, hw2, al, a15, exec, xops, xoper, want, putT, xop, ev, bin, intBin, isShift, okv, asNat_nat, takeAt, one, cellsOf, cellsAt_new, setCs_new, set_new, putAt, -List.getD_eq_getElem?_getD, rd_ne, rd_eq, List.length_set, List.getD_cons_zero, List.getD_cons_succ]
    · simp [I108, al, a0, a1', a2, a14, a15, exec, xops, xoper, want, putT, xop, ev, bin, intBin, isShift, okv, asNat_nat, takeAt, one, cellsOf, cellsAt_new, setCs_new, set_new, putAt, -List.getD_eq_getElem?_getD, rd_ne, rd_eq, List.length_set, List.getD_cons_zero, List.getD_cons_succ]
  | false =>
    right
    refine ⟨rfl, ⟨T2.set 6 (.bool false), H1, []⟩, ?_, ?_⟩
    · have e5 : exec TE call k (.cond (.t 28) (.seq (.region f108.r7) (.ret)) (.skip)) ⟨T2, H1, []⟩ = some (.ret, ⟨T2.set 6 (.bool false), H1, []⟩) := by simp [f108.r7, a28, hsm, exec, xops, xoper, want, putT, xop, ev, bin, intBin, isShift, okv, asNat_nat, takeAt, one, cellsOf, cellsAt_new, setCs_new, set_new, putAt, -List.getD_eq_getElem?_getD, rd_ne, rd_eq, List.length_set, List.getD_cons_zero, List.getD_cons_succ]
      unfold body108
      rw [exec_seq_norm e1, exec_seq_norm e2]
      have : exec TE call k (.block 1 (.seq (.region f108.r5) (.seq (.regionD f108.r6 [0, 0, 0, 6, 14, 0, 0, 96, 224, 511, 1023]) (.cond (.t 28) (.seq (.region f108.r7) (.ret)) (.skip))))) ⟨T1, H1, []⟩ = some (.ret, ⟨T2.set 6 (.bool false), H1, []⟩) :=
        exec_block_ret (by rw [exec_seq_norm e3, exec_seq_norm e4, e5])
      exact exec_seq_ret this
    · simp [F108, al, exec, xops, xoper, want, putT, xop, ev, bin, intBin, isShift, okv, asNat_nat, takeAt, one, cellsOf, cellsAt_new, setCs_new, set_new, putAt, -List.getD_eq_getElem?_getD, rd_ne, rd_eq, List.length_set, List.getD_cons_zero, List.getD_cons_succ]

def Sms.All2 (p : Sm → Sm → Prop) : Sms → Sms → Prop
  | .cons a r, .cons b s => p a b ∧ r.All2 p s
  | _, _ => True

theorem loop108 {call : CallF} {k : Nat} {a b : Sms} (hlen : a.len = b.len) (hlb : a.len + 1 < 2 ^ 63) : ∀ (r t : Sms) (n i : Nat), r.len < n → a.cells.drop (i * 15) = r.cells → b.cells.drop (i * 15) = t.cells → i + r.len = a.len → r.len = t.len → r.All2 (SameSC call 109) t →
    ∀ s, I108 a b i s → (r.same t = true ∧ ∃ s', loopN (exec TE call k body108) n s = some (.exit 0, s') ∧ I108 a b a.len s') ∨ (r.same t = false ∧ ∃ s', loopN (exec TE call k body108) n s = some (.ret, s') ∧ F108 s')
  | _, _, 0, _, hn, _, _, _, _, _ => by omega
  | .nil _, .cons _ _, n + 1, i, hn, hcs, hct, hl1, hl2, hall => by simp [Sms.len] at hl2
  | .cons _ _, .nil _, n + 1, i, hn, hcs, hct, hl1, hl2, hall => by simp [Sms.len] at hl2
  | .nil z, .nil z', n + 1, i, hn, hcs, hct, hl1, hl2, hall => by
    intro s hs
    simp only [Sms.len, Nat.add_zero] at hl1
    subst hl1
    obtain ⟨s', h1, h2⟩ := exit108 (call := call) (k := k) hs (by omega)
    exact .inl ⟨by simp [Sms.same], s', by simp [loopN, h1], h2⟩
  | .cons e r, .cons f t, n + 1, i, hn, hcs, hct, hl1, hl2, hall => by
    intro s hs
    simp only [Sms.len] at hl1 hl2 hn
    simp only [Sms.cells] at hcs hct
    rcases step108 (call := call) (k := k) hs (by omega) hlen e f r.cells t.cells hcs hct (by omega) hall.1 with ⟨hsm, s', h1, h2⟩ | ⟨hsm, s', h1, h2⟩
    · have hd : a.cells.drop ((i + 1) * 15) = r.cells := by
        rw [Nat.add_mul, Nat.one_mul, ← List.drop_drop, hcs, List.drop_left' (Sm.enc_length e)]
      have hd' : b.cells.drop ((i + 1) * 15) = t.cells := by
        rw [Nat.add_mul, Nat.one_mul, ← List.drop_drop, hct, List.drop_left' (Sm.enc_length f)]
      rcases loop108 (call := call) (k := k) hlen hlb r t n (i + 1) (by omega) hd hd' (by omega) (by omega) hall.2 s' h2 with ⟨h3, s'', h4, h5⟩ | ⟨h3, s'', h4, h5⟩
      · exact .inl ⟨by simp [Sms.same, hsm, h3], s'', by simp [loopN, h1, h4], h5⟩
      · exact .inr ⟨by simp [Sms.same, hsm, h3], s'', by simp [loopN, h1, h4], h5⟩
    · exact .inr ⟨by simp [Sms.same, hsm], s', by simp [loopN, h1], h2⟩

theorem Sms.same_ne {a b : Sms} (h : a.len ≠ b.len) : a.same b = false := by
  cases hs : a.same b with
  | false => rfl
  | true => exact absurd (Sms.same_len hs) h

theorem run108 {n : Nat} (a b : Sms) (hln : a.len < n) (hb : a.len < 2 ^ 61) (hall : a.All2 (SameSC (callN TE n) 109) b) : callN TE (n + 1) 108 [a.x, b.x, .fn (.func 109) [] []] [] = some (.ret (.bool (a.same b)) []) := by
  rw [callN_eq (xf := f108) rfl]
  have hf : frame0 f108 [a.x, b.x, .fn (.func 109) [] []] = [a.x, b.x, .fn (.func 109) [] [], und, und, und, und, und, und, und, und, und, und, und, und, und, und, und, und, und, und, und, und, und, und, und, und, und, und, und] := rfl
  have hbd : f108.body = .seq (.region f108.r0) (.seq (.seq (.region f108.r1) (.cond (.t 12) (.seq (.region f108.r2) (.ret)) (.skip))) (.seq (.seq (.region f108.r3) (.block 0 (.loop body108))) (.seq (.region f108.r9) (.ret)))) := rfl
  have hla := Sms.lenOf_x a
  have hlb := Sms.lenOf_x b
  have a0 : exec TE (callN TE n) n (.region f108.r0) ⟨[a.x, b.x, .fn (.func 109) [] [], und, und, und, und, und, und, und, und, und, und, und, und, und, und, und, und, und, und, und, und, und, und, und, und, und, und, und], [], []⟩ = some (.norm, ⟨[a.x, b.x, .fn (.func 109) [] [], und, und, und, .bool false, und, und, und, und, und, und, und, und, und, und, und, und, und, und, und, und, und, und, und, und, und, und, und], [], []⟩) := rfl
  have a1 : exec TE (callN TE n) n (.region f108.r1) ⟨[a.x, b.x, .fn (.func 109) [] [], und, und, und, .bool false, und, und, und, und, und, und, und, und, und, und, und, und, und, und, und, und, und, und, und, und, und, und, und], [], []⟩ = some (.norm, ⟨[a.x, b.x, .fn (.func 109) [] [], und, und, und, .bool false, und, a.x, .int .i64 (a.len : Int), b.x, .int .i64 (b.len : Int), .bool ((a.len : Int) != (b.len : Int)), und, und, und, und, und, und, und, und, und, und, und, und, und, und, und, und, und], [], []⟩) := by
    simp [f108.r1, hla, hlb, exec, xops, xoper, want, putT, xop, ev, bin, intBin, isShift, okv, asNat_nat, takeAt, one, cellsOf, cellsAt_new, setCs_new, set_new, putAt, -List.getD_eq_getElem?_getD, rd_ne, rd_eq, List.length_set, List.getD_cons_zero, List.getD_cons_succ]
  by_cases hlen : a.len = b.len
  · have a2 : exec TE (callN TE n) n (.cond (.t 12) (.seq (.region f108.r2) (.ret)) (.skip)) ⟨[a.x, b.x, .fn (.func 109) [] [], und, und, und, .bool false, und, a.x, .int .i64 (a.len : Int), b.x, .int .i64 (b.len : Int), .bool ((a.len : Int) != (b.len : Int)), und, und, und, und, und, und, und, und, und, und, und, und, und, und, und, und, und], [], []⟩ = some (.norm, ⟨[a.x, b.x, .fn (.func 109) [] [], und, und, und, .bool false, und, a.x, .int .i64 (a.len : Int), b.x, .int .i64 (b.len : Int), .bool ((a.len : Int) != (b.len : Int)), und, und, und, und, und, und, und, und, und, und, und, und, und, und, und, und, und], [], []⟩) := by
      simp [hlen, exec, xops, xoper, want, putT, xop, ev, bin, intBin, isShift, okv, asNat_nat, takeAt, one, cellsOf, cellsAt_new, setCs_new, set_new, putAt, -List.getD_eq_getElem?_getD, rd_ne, rd_eq, List.length_set, List.getD_cons_zero, List.getD_cons_succ]
    have a3 : exec TE (callN TE n) n (.region f108.r3) ⟨[a.x, b.x, .fn (.func 109) [] [], und, und, und, .bool false, und, a.x, .int .i64 (a.len : Int), b.x, .int .i64 (b.len : Int), .bool ((a.len : Int) != (b.len : Int)), und, und, und, und, und, und, und, und, und, und, und, und, und, und, und, und, und], [], []⟩ = some (.norm, ⟨[a.x, b.x, .fn (.func 109) [] [], und, und, und, .bool false, und, a.x, .int .i64 (a.len : Int), b.x, .int .i64 (b.len : Int), .bool ((a.len : Int) != (b.len : Int)), a.x, .int .i64 (a.len : Int), .int .i64 0, und, und, und, und, und, und, und, und, und, und, und, und, und, und], [], []⟩) := by
      simp [f108.r3, hla, hlb, exec, xops, xoper, want, putT, xop, ev, bin, intBin, isShift, okv, asNat_nat, takeAt, one, cellsOf, cellsAt_new, setCs_new, set_new, putAt, -List.getD_eq_getElem?_getD, rd_ne, rd_eq, List.length_set, List.getD_cons_zero, List.getD_cons_succ]
    rcases loop108 (call := callN TE n) (k := n) hlen (by omega) a b n 0 hln (by simp) (by simp) (by simp) hlen hall
      ⟨[a.x, b.x, .fn (.func 109) [] [], und, und, und, .bool false, und, a.x, .int .i64 (a.len : Int), b.x, .int .i64 (b.len : Int), .bool ((a.len : Int) != (b.len : Int)), a.x, .int .i64 (a.len : Int), .int .i64 0, und, und, und, und, und, und, und, und, und, und, und, und, und, und], [], []⟩ ⟨rfl, rfl, rfl, rfl, rfl, rfl, rfl⟩ with ⟨hsm, ⟨T2, H2, D2⟩, h1, rfl, hl, _⟩ | ⟨hsm, ⟨T2, H2, D2⟩, h1, rfl, hl, h6⟩
    · simp only at hl
      rw [hsm]
      refine runF_iso (T := T2.set 6 (.bool true)) (K := H2) (vs := [.bool true]) (vis := []) rfl ?_ ?_ (frz_depth rfl _)
      · rw [hf, hbd, exec_seq_norm a0, exec_seq_norm (by rw [exec_seq_norm a1, a2]), exec_seq_norm (by rw [exec_seq_norm a3]; exact exec_block_loop h1)]
        simp [f108.r9, hl, exec, xops, xoper, want, putT, xop, ev, bin, intBin, isShift, okv, asNat_nat, takeAt, one, cellsOf, cellsAt_new, setCs_new, set_new, putAt, -List.getD_eq_getElem?_getD, rd_ne, rd_eq, List.length_set, List.getD_cons_zero, List.getD_cons_succ]
      · simp [f108, resOf, hl, exec, xops, xoper, want, putT, xop, ev, bin, intBin, isShift, okv, asNat_nat, takeAt, one, cellsOf, cellsAt_new, setCs_new, set_new, putAt, -List.getD_eq_getElem?_getD, rd_ne, rd_eq, List.length_set, List.getD_cons_zero, List.getD_cons_succ]
    · simp only at hl h6
      rw [hsm]
      refine runF_iso (T := T2) (K := H2) (vs := [.bool false]) (vis := []) rfl ?_ ?_ (frz_depth rfl _)
      · rw [hf, hbd, exec_seq_norm a0, exec_seq_norm (by rw [exec_seq_norm a1, a2])]
        exact exec_seq_ret (by rw [exec_seq_norm a3]; exact exec_block_ret (by simpa only [exec] using h1))
      · simp [f108, resOf, hl, h6, exec, xops, xoper, want, putT, xop, ev, bin, intBin, isShift, okv, asNat_nat, takeAt, one, cellsOf, cellsAt_new, setCs_new, set_new, putAt, -List.getD_eq_getElem?_getD, rd_ne, rd_eq, List.length_set, List.getD_cons_zero, List.getD_cons_succ]
  · rw [Sms.same_ne hlen]
    have hne : ((a.len : Int) != (b.len : Int)) = true := by simp; omega
    refine runF_iso (T := [a.x, b.x, .fn (.func 109) [] [], und, und, und, .bool false, und, a.x, .int .i64 (a.len : Int), b.x, .int .i64 (b.len : Int), .bool ((a.len : Int) != (b.len : Int)), und, und, und, und, und, und, und, und, und, und, und, und, und, und, und, und, und]) (K := []) (vs := [.bool false]) (vis := []) rfl ?_ ?_ (frz_depth rfl _)
    · rw [hf, hbd, exec_seq_norm a0]
      refine exec_seq_ret ?_
      rw [exec_seq_norm a1]
      simp [f108.r2, hne, exec, xops, xoper, want, putT, xop, ev, bin, intBin, isShift, okv, asNat_nat, takeAt, one, cellsOf, cellsAt_new, setCs_new, set_new, putAt, -List.getD_eq_getElem?_getD, rd_ne, rd_eq, List.length_set, List.getD_cons_zero, List.getD_cons_succ]
    · simp [f108, resOf, exec, xops, xoper, want, putT, xop, ev, bin, intBin, isShift, okv, asNat_nat, takeAt, one, cellsOf, cellsAt_new, setCs_new, set_new, putAt, -List.getD_eq_getElem?_getD, rd_ne, rd_eq, List.length_set, List.getD_cons_zero, List.getD_cons_succ]

theorem run109 {n : Nat} (e f : Sm) (hc : match e, f with
    | .mk _ _ _ index ex _ _ th el, .mk _ _ _ index2 ex2 _ _ th2 el2 => callN TE n 110 [index.x, index2.x, .fn (.func 49) [] []] [] = some (.ret (.bool (index.same index2)) []) ∧ SameC (callN TE n) 49 ex ex2 ∧
      callN TE n 108 [th.x, th2.x, .fn (.func 109) [] []] [] = some (.ret (.bool (th.same th2)) []) ∧ callN TE n 108 [el.x, el2.x, .fn (.func 109) [] []] [] = some (.ret (.bool (el.same el2)) [])) : SameSC (callN TE (n + 1)) 109 e f := by
  unfold SameSC
  rw [callN_eq (xf := f109) rfl]
  obtain ⟨kind, at_, name, index, ⟨op, eat, bb, ii, ff, en, args⟩, lo, hi, th, el⟩ := e
  obtain ⟨kind2, at2, name2, index2, ⟨op2, eat2, bb2, ii2, ff2, en2, args2⟩, lo2, hi2, th2, el2⟩ := f
  obtain ⟨c1, c2, c3, c4⟩ := hc
  simp only [SameC, Ex.enc] at c2
  simp only [Sms.x] at c3 c4
  have hd1 : ∀ H, docall TE (callN TE n) 110 [index.x, index2.x, .fn (.func 49) [] []] H = some (.ret (.bool (index.same index2)) H) := fun H => docall_iso (E := TE) rfl rfl (by simp [bares]) (by simp) c1 H
  have hd2 : ∀ H, docall TE (callN TE n) 49 [.agg [.int .u8 op, .int .i64 eat, .bool bb, .int .i32 ii, .int .u64 ff, .str en, args.ptr args.cells], .agg [.int .u8 op2, .int .i64 eat2, .bool bb2, .int .i32 ii2, .int .u64 ff2, .str en2, args2.ptr args2.cells]] H =
      some (.ret (.bool ((Ex.mk op eat bb ii ff en args).same (Ex.mk op2 eat2 bb2 ii2 ff2 en2 args2))) H) := fun H => docall_iso (E := TE) rfl rfl (by simp [bares, leafs]) (by simp) c2 H
  have hd3 : ∀ H, docall TE (callN TE n) 108 [th.ptr th.cells, th2.ptr th2.cells, .fn (.func 109) [] []] H = some (.ret (.bool (th.same th2)) H) := fun H => docall_iso (E := TE) rfl rfl (by simp [bares]) (by simp) c3 H
  have hd4 : ∀ H, docall TE (callN TE n) 108 [el.ptr el.cells, el2.ptr el2.cells, .fn (.func 109) [] []] H = some (.ret (.bool (el.same el2)) H) := fun H => docall_iso (E := TE) rfl rfl (by simp [bares]) (by simp) c4 H
  have hf : frame0 f109 [.agg (Sm.mk kind at_ name index (.mk op eat bb ii ff en args) lo hi th el).enc, .agg (Sm.mk kind2 at2 name2 index2 (.mk op2 eat2 bb2 ii2 ff2 en2 args2) lo2 hi2 th2 el2).enc] = [.agg (Sm.mk kind at_ name index (.mk op eat bb ii ff en args) lo hi th el).enc, .agg (Sm.mk kind2 at2 name2 index2 (.mk op2 eat2 bb2 ii2 ff2 en2 args2) lo2 hi2 th2 el2).enc, und, und, und, und, und, und, und, und, und, und, und, und, und, und, und, und, und, und, und, und, und, und, und, und, und, und, und, und, und, und, und, und, und, und, und, und, und, und, und, und, und, und, und, und, und, und, und, und, und, und, und, und, und, und, und, und, und] := rfl
  have key : ∃ T, exec TE (callN TE n) n f109.body ⟨[.agg (Sm.mk kind at_ name index (.mk op eat bb ii ff en args) lo hi th el).enc, .agg (Sm.mk kind2 at2 name2 index2 (.mk op2 eat2 bb2 ii2 ff2 en2 args2) lo2 hi2 th2 el2).enc, und, und, und, und, und, und, und, und, und, und, und, und, und, und, und, und, und, und, und, und, und, und, und, und, und, und, und, und, und, und, und, und, und, und, und, und, und, und, und, und, und, und, und, und, und, und, und, und, und, und, und, und, und, und, und, und, und], [], []⟩ = some (.ret, ⟨T, [.tcells (Sm.mk kind at_ name index (.mk op eat bb ii ff en args) lo hi th el).enc 80 true, .tcells (Sm.mk kind2 at2 name2 index2 (.mk op2 eat2 bb2 ii2 ff2 en2 args2) lo2 hi2 th2 el2).enc 80 true], []⟩) ∧
      T.getD 4 und = .bool ((Sm.mk kind at_ name index (.mk op eat bb ii ff en args) lo hi th el).same (Sm.mk kind2 at2 name2 index2 (.mk op2 eat2 bb2 ii2 ff2 en2 args2) lo2 hi2 th2 el2)) := by
    simp only [Sm.enc, Ex.enc, Sm.same, List.cons_append, List.nil_append]
    by_cases h1 : kind = kind2
    · by_cases h2 : name = name2
      · by_cases h3 : lo = lo2
        · by_cases h4 : hi = hi2
          · cases b1 : index.same index2 with
            | true =>
              cases b2 : (Ex.mk op eat bb ii ff en args).same (Ex.mk op2 eat2 bb2 ii2 ff2 en2 args2) with
              | true =>
                cases b3 : th.same th2 with
                | true =>
                  refine ⟨?s4, ?e4, ?i4⟩
                  case e4 =>
                    simp [f109, f109.r0, f109.r1, h1, h2, h3, h4, b1, b2, b3, xeq, strBin, cellsAt, hd1, hd2, hd3, hd4, List.getElem?_set, exec, xops, xoper, want, putT, xop, ev, bin, intBin, isShift, okv, asNat_nat, takeAt, one, cellsOf, cellsAt_new, setCs_new, set_new, putAt, -List.getD_eq_getElem?_getD, rd_ne, rd_eq, List.length_set, List.getD_cons_zero, List.getD_cons_succ]
                    rfl
                  case i4 => simp [h1, h2, h3, h4, b1, b2, b3, exec, xops, xoper, want, putT, xop, ev, bin, intBin, isShift, okv, asNat_nat, takeAt, one, cellsOf, cellsAt_new, setCs_new, set_new, putAt, -List.getD_eq_getElem?_getD, rd_ne, rd_eq, List.length_set, List.getD_cons_zero, List.getD_cons_succ]
                | false =>
                  refine ⟨?s5, ?e5, ?i5⟩
                  case e5 =>
                    simp [f109, f109.r0, f109.r1, h1, h2, h3, h4, b1, b2, b3, xeq, strBin, cellsAt, hd1, hd2, hd3, hd4, List.getElem?_set, exec, xops, xoper, want, putT, xop, ev, bin, intBin, isShift, okv, asNat_nat, takeAt, one, cellsOf, cellsAt_new, setCs_new, set_new, putAt, -List.getD_eq_getElem?_getD, rd_ne, rd_eq, List.length_set, List.getD_cons_zero, List.getD_cons_succ]
                    rfl
                  case i5 => simp [h1, h2, h3, h4, b1, b2, b3, exec, xops, xoper, want, putT, xop, ev, bin, intBin, isShift, okv, asNat_nat, takeAt, one, cellsOf, cellsAt_new, setCs_new, set_new, putAt, -List.getD_eq_getElem?_getD, rd_ne, rd_eq, List.length_set, List.getD_cons_zero, List.getD_cons_succ]
              | false =>
                refine ⟨?s6, ?e6, ?i6⟩
                case e6 =>
                  simp [f109, f109.r0, f109.r1, h1, h2, h3, h4, b1, b2, xeq, strBin, cellsAt, hd1, hd2, hd3, hd4, List.getElem?_set, exec, xops, xoper, want, putT, xop, ev, bin, intBin, isShift, okv, asNat_nat, takeAt, one, cellsOf, cellsAt_new, setCs_new, set_new, putAt, -List.getD_eq_getElem?_getD, rd_ne, rd_eq, List.length_set, List.getD_cons_zero, List.getD_cons_succ]
                  rfl
                case i6 => simp [h1, h2, h3, h4, b1, b2, exec, xops, xoper, want, putT, xop, ev, bin, intBin, isShift, okv, asNat_nat, takeAt, one, cellsOf, cellsAt_new, setCs_new, set_new, putAt, -List.getD_eq_getElem?_getD, rd_ne, rd_eq, List.length_set, List.getD_cons_zero, List.getD_cons_succ]
            | false =>
              refine ⟨?s7, ?e7, ?i7⟩
              case e7 =>
                simp [f109, f109.r0, f109.r1, h1, h2, h3, h4, b1, xeq, strBin, cellsAt, hd1, hd2, hd3, hd4, List.getElem?_set, exec, xops, xoper, want, putT, xop, ev, bin, intBin, isShift, okv, asNat_nat, takeAt, one, cellsOf, cellsAt_new, setCs_new, set_new, putAt, -List.getD_eq_getElem?_getD, rd_ne, rd_eq, List.length_set, List.getD_cons_zero, List.getD_cons_succ]
                rfl
              case i7 => simp [h1, h2, h3, h4, b1, exec, xops, xoper, want, putT, xop, ev, bin, intBin, isShift, okv, asNat_nat, takeAt, one, cellsOf, cellsAt_new, setCs_new, set_new, putAt, -List.getD_eq_getElem?_getD, rd_ne, rd_eq, List.length_set, List.getD_cons_zero, List.getD_cons_succ]
          · refine ⟨?s8, ?e8, ?i8⟩
            case e8 =>
              simp [f109, f109.r0, f109.r1, h1, h2, h3, h4, xeq, strBin, cellsAt, hd1, hd2, hd3, hd4, List.getElem?_set, exec, xops, xoper, want, putT, xop, ev, bin, intBin, isShift, okv, asNat_nat, takeAt, one, cellsOf, cellsAt_new, setCs_new, set_new, putAt, -List.getD_eq_getElem?_getD, rd_ne, rd_eq, List.length_set, List.getD_cons_zero, List.getD_cons_succ]
              rfl
            case i8 => simp [h1, h2, h3, h4, exec, xops, xoper, want, putT, xop, ev, bin, intBin, isShift, okv, asNat_nat, takeAt, one, cellsOf, cellsAt_new, setCs_new, set_new, putAt, -List.getD_eq_getElem?_getD, rd_ne, rd_eq, List.length_set, List.getD_cons_zero, List.getD_cons_succ]
        · refine ⟨?s9, ?e9, ?i9⟩
          case e9 =>
            simp [f109, f109.r0, f109.r1, h1, h2, h3, xeq, strBin, cellsAt, hd1, hd2, hd3, hd4, List.getElem?_set, exec, xops, xoper, want, putT, xop, ev, bin, intBin, isShift, okv, asNat_nat, takeAt, one, cellsOf, cellsAt_new, setCs_new, set_new, putAt, -List.getD_eq_getElem?_getD, rd_ne, rd_eq, List.length_set, List.getD_cons_zero, List.getD_cons_succ]
            rfl
          case i9 => simp [h1, h2, h3, exec, xops, xoper, want, putT, xop, ev, bin, intBin, isShift, okv, asNat_nat, takeAt, one, cellsOf, cellsAt_new, setCs_new, set_new, putAt, -List.getD_eq_getElem?_getD, rd_ne, rd_eq, List.length_set, List.getD_cons_zero, List.getD_cons_succ]
      · have hbn : (name == name2) = false := beq_false_of_ne h2
        refine ⟨?s10, ?e10, ?i10⟩
        case e10 =>
          simp [f109, f109.r0, f109.r1, h1, h2, hbn, xeq, strBin, cellsAt, hd1, hd2, hd3, hd4, List.getElem?_set, exec, xops, xoper, want, putT, xop, ev, bin, intBin, isShift, okv, asNat_nat, takeAt, one, cellsOf, cellsAt_new, setCs_new, set_new, putAt, -List.getD_eq_getElem?_getD, rd_ne, rd_eq, List.length_set, List.getD_cons_zero, List.getD_cons_succ]
          rfl
        case i10 => simp [h1, h2, hbn, exec, xops, xoper, want, putT, xop, ev, bin, intBin, isShift, okv, asNat_nat, takeAt, one, cellsOf, cellsAt_new, setCs_new, set_new, putAt, -List.getD_eq_getElem?_getD, rd_ne, rd_eq, List.length_set, List.getD_cons_zero, List.getD_cons_succ]
    · refine ⟨?s11, ?e11, ?i11⟩
      case e11 =>
        simp [f109, f109.r0, f109.r1, h1, xeq, strBin, cellsAt, hd1, hd2, hd3, hd4, List.getElem?_set, exec, xops, xoper, want, putT, xop, ev, bin, intBin, isShift, okv, asNat_nat, takeAt, one, cellsOf, cellsAt_new, setCs_new, set_new, putAt, -List.getD_eq_getElem?_getD, rd_ne, rd_eq, List.length_set, List.getD_cons_zero, List.getD_cons_succ]
        rfl
      case i11 => simp [h1, exec, xops, xoper, want, putT, xop, ev, bin, intBin, isShift, okv, asNat_nat, takeAt, one, cellsOf, cellsAt_new, setCs_new, set_new, putAt, -List.getD_eq_getElem?_getD, rd_ne, rd_eq, List.length_set, List.getD_cons_zero, List.getD_cons_succ]
  obtain ⟨T, h1, h4⟩ := key
  refine runF_iso (T := T) (K := _) (vs := [.bool ((Sm.mk kind at_ name index (.mk op eat bb ii ff en args) lo hi th el).same (Sm.mk kind2 at2 name2 index2 (.mk op2 eat2 bb2 ii2 ff2 en2 args2) lo2 hi2 th2 el2))]) (vis := []) rfl (by rw [hf]; exact h1) ?_ (frz_depth rfl _)
  simp [f109, resOf, h4, -List.getD_eq_getElem?_getD]

mutual
theorem sameS_ok : ∀ (e f : Sm) (n : Nat), 2 * e.sz < n → e.sz < 2 ^ 60 → SameSC (callN TE n) 109 e f
  | .mk kind at_ name index e lo hi th el, f, 0, hn, _ => by omega
  | .mk kind at_ name index e lo hi th el, .mk _ _ _ index2 e2 _ _ th2 el2, n + 1, hn, hb => by
    simp only [Sm.sz] at hn hb
    exact run109 _ _ ⟨sameEs_ok index index2 n (by omega) (by omega), sameE_ok e e2 n (by omega) (by omega), sameSs_ok th th2 n (by omega) (by omega), sameSs_ok el el2 n (by omega) (by omega)⟩
theorem sameS_all : ∀ (a b : Sms) (n : Nat), 2 * a.sz ≤ n → a.sz < 2 ^ 60 → a.All2 (SameSC (callN TE n) 109) b
  | .nil _, _, _, _, _ => by simp [Sms.All2]
  | .cons e r, .nil _, n, hn, hb => by simp [Sms.All2]
  | .cons e r, .cons f t, n, hn, hb => by
    simp only [Sms.sz] at hn hb
    exact ⟨sameS_ok e f n (by omega) (by omega), sameS_all r t n (by omega) (by omega)⟩
theorem sameSs_ok : ∀ (a b : Sms) (n : Nat), 2 * a.sz < n → a.sz < 2 ^ 60 → callN TE n 108 [a.x, b.x, .fn (.func 109) [] []] [] = some (.ret (.bool (a.same b)) [])
  | a, b, 0, hn, _ => by omega
  | a, b, n + 1, hn, hb => by
    have := Sms.len_le a
    exact run108 a b (by omega) (by omega) (sameS_all a b n (by omega) hb)
end

end Go.Proofs.YtnifjgdhgnmhmaaGreatDoor
namespace Go.Proofs.YtnifjgdhgnmhmaaGreatDoor
open Go Go.X
set_option linter.unusedSimpArgs false
set_option linter.unusedVariables false

theorem cellsAt_two0 (H : Heap) (cs : List XV) (t : Nat) (f : Bool) (y : XB) : cellsAt (H ++ [.tcells cs t f, y]) H.length = some cs := by simp [cellsAt]
theorem cellsAt_two1 (H : Heap) (cs : List XV) (t : Nat) (f : Bool) (x : XB) : cellsAt (H ++ [x, .tcells cs t f]) (H.length + 1) = some cs := by simp [cellsAt, List.getElem?_append]
theorem setCs_two1 (H : Heap) (cs cs' : List XV) (t : Nat) (f : Bool) (x : XB) : setCs (H ++ [x, .tcells cs t f]) (H.length + 1) cs' = .tcells cs' t f := by simp [setCs, List.getElem?_append]
theorem set_two1 (H : Heap) (x y z : XB) : (H ++ [x, y]).set (H.length + 1) z = H ++ [x, z] := by simp [List.set_append]

def I105 (a b : Sms) (i : Nat) (s : St) : Prop :=
  s.D = [] ∧ s.T.length = 83 ∧ s.T.getD 0 und = a.x ∧ s.T.getD 1 und = b.x ∧ s.T.getD 5 und = .int .i64 (i : Int)

def F105 (s : St) : Prop := s.D = [] ∧ s.T.length = 83 ∧ s.T.getD 4 und = .bool false

/-- Two statements are laid out. -/
def J105 (a b : Sms) (i : Nat) (e f : Sm) (H : Heap) (s : St) : Prop :=
  I105 a b i s ∧ s.H = H ++ [.tcells e.enc 80 true, .tcells f.enc 80 true] ∧ s.T.getD 6 und = .ptr H.length 0 ∧ s.T.getD 7 und = .ptr (H.length + 1) 0

theorem Sm.all_oneCell (e : Sm) : e.enc.all oneCell = true := by
  obtain ⟨kind, at_, name, index, ⟨op, eat, bb, ii, ff, en, args⟩, lo, hi, th, el⟩ := e
  simp [Sm.enc, Ex.enc, Exs.oneCell_ptr]

theorem lay105 {call : CallF} {k i : Nat} {a b : Sms} {T : List XV} {H : Heap} (hs : I105 a b i ⟨T, H, []⟩) (h : i < a.len) (hlen : a.len = b.len) (e f : Sm) (r t : List XV) (he : a.cells.drop (i * 15) = e.enc ++ r) (hf : b.cells.drop (i * 15) = f.enc ++ t) :
    ∃ s', exec TE call k (.seq (.region f105.r5) (.region f105.r6)) ⟨T, H, []⟩ = some (.norm, s') ∧ J105 a b i e f H s' := by
  obtain ⟨_, hl, h0, h1, h5⟩ := hs
  simp only at hl h0 h1 h5
  have hxa := Sms.x_vs h
  have hxb := Sms.x_vs (show i < b.len by omega)
  rw [hxa] at h0
  rw [hxb] at h1
  have hca := Sms.cells_length a
  have hcb := Sms.cells_length b
  have hla : i * 15 ≤ a.cells.length := by omega
  have hlb : i * 15 ≤ b.cells.length := by omega
  have hib : i < b.len := by omega
  have hte : ∀ r : List XV, takeAt (e.enc ++ r) 0 15 = some e.enc := fun r => by simp [takeAt, Sm.enc_length, List.take_left' (Sm.enc_length e)]
  have htf : ∀ r : List XV, takeAt (f.enc ++ r) 0 15 = some f.enc := fun r => by simp [takeAt, Sm.enc_length, List.take_left' (Sm.enc_length f)]
  have hde : List.drop 15 e.enc = [] := by simp [Sm.enc_length]
  refine ⟨?s1, ?e1, ?i1⟩
  case e1 =>
    simp [f105.r5, f105.r6, hla, hlb, he, hf, hte, htf, h, hib, hl, h0, h1, h5, Sm.enc_length, Sm.all_oneCell, cellsAt_two1, setCs_two1, set_two1, exec, xops, xoper, want, putT, xop, ev, okv, asNat_nat, one, cellsOf, cellsAt_new, setCs_new, set_new, putAt, -List.getD_eq_getElem?_getD, rd_ne, rd_eq, List.length_set]
    rfl
  case i1 => simp [J105, I105, hxa, hxb, hl, h0, h1, h5, exec, xops, xoper, want, putT, xop, ev, bin, intBin, isShift, okv, asNat_nat, takeAt, one, cellsOf, cellsAt_new, setCs_new, set_new, putAt, -List.getD_eq_getElem?_getD, rd_ne, rd_eq, List.length_set, List.getD_cons_zero, List.getD_cons_succ]


def headSame : Sm → Sm → Bool
  | .mk kind _ name _ _ lo hi _ _, .mk kind2 _ name2 _ _ lo2 hi2 _ _ => decide (kind = kind2) && (decide (name = name2) && (decide (lo = lo2) && decide (hi = hi2)))
def tailSame : Sm → Sm → Bool
  | .mk _ _ _ index e _ _ th el, .mk _ _ _ index2 e2 _ _ th2 el2 => index.same index2 && (e.same e2 && (th.same th2 && el.same el2))
theorem Sm.same_split (e f : Sm) : e.same f = (headSame e f && tailSame e f) := by
  cases e; cases f; simp [Sm.same, headSame, tailSame, Bool.and_assoc]

theorem head105 {call : CallF} {k i : Nat} {a b : Sms} {e f : Sm} {H : Heap} {s : St} (hs : J105 a b i e f H s) :
    (headSame e f = true ∧ ∃ s', exec TE call k (.seq (.region f105.r7) (.cond (.t 52) (.seq (.region f105.r8) (.ret)) (.skip))) s = some (.norm, s') ∧ J105 a b i e f H s') ∨
    (headSame e f = false ∧ ∃ s', exec TE call k (.seq (.region f105.r7) (.cond (.t 52) (.seq (.region f105.r8) (.ret)) (.skip))) s = some (.ret, s') ∧ F105 s') := by
  obtain ⟨T, H', D⟩ := s
  obtain ⟨⟨rfl, hl, h0, h1, h5⟩, rfl, h6, h7⟩ := hs
  simp only at hl h0 h1 h5 h6 h7
  obtain ⟨kind, at_, name, index, ⟨op, eat, bb, ii, ff, en, args⟩, lo, hi, th, el⟩ := e
  obtain ⟨kind2, at2, name2, index2, ⟨op2, eat2, bb2, ii2, ff2, en2, args2⟩, lo2, hi2, th2, el2⟩ := f
  by_cases q1 : kind = kind2
  · by_cases q2 : name = name2
    · by_cases q3 : lo = lo2
      · by_cases q4 : hi = hi2
        · left
          refine ⟨by simp [headSame, q1, q2, q3, q4], ?_⟩
          refine ⟨?s2, ?e2, ?i2⟩
          case e2 =>
            simp [f105.r7, f105.r8, q1, q2, q3, q4, strBin, hl, h0, h1, h5, h6, h7, Sm.enc, Ex.enc, cellsAt_two0, cellsAt_two1, List.getElem?_set, exec, xops, xoper, want, putT, xop, ev, bin, intBin, isShift, okv, asNat_nat, takeAt, one, cellsOf, cellsAt_new, setCs_new, set_new, putAt, -List.getD_eq_getElem?_getD, rd_ne, rd_eq, List.length_set, List.getD_cons_zero, List.getD_cons_succ]
            rfl
          case i2 => simp [J105, I105, Sm.enc, Ex.enc, hl, h0, h1, h5, h6, h7, q1, q2, q3, q4, exec, xops, xoper, want, putT, xop, ev, bin, intBin, isShift, okv, asNat_nat, takeAt, one, cellsOf, cellsAt_new, setCs_new, set_new, putAt, -List.getD_eq_getElem?_getD, rd_ne, rd_eq, List.length_set, List.getD_cons_zero, List.getD_cons_succ]
        · right
          have hbn : (hi == hi2) = false := beq_false_of_ne q4
          have hbm : (hi != hi2) = true := bne_iff_ne.2 q4
          refine ⟨by simp [headSame, q1, q2, q3, q4, hbn, hbm], ?_⟩
          refine ⟨?s3, ?e3, ?i3⟩
          case e3 =>
            simp [f105.r7, f105.r8, q1, q2, q3, q4, hbn, hbm, strBin, hl, h0, h1, h5, h6, h7, Sm.enc, Ex.enc, cellsAt_two0, cellsAt_two1, List.getElem?_set, exec, xops, xoper, want, putT, xop, ev, bin, intBin, isShift, okv, asNat_nat, takeAt, one, cellsOf, cellsAt_new, setCs_new, set_new, putAt, -List.getD_eq_getElem?_getD, rd_ne, rd_eq, List.length_set, List.getD_cons_zero, List.getD_cons_succ]
            rfl
          case i3 => simp [F105, hl, q1, q2, q3, q4, hbn, hbm, exec, xops, xoper, want, putT, xop, ev, bin, intBin, isShift, okv, asNat_nat, takeAt, one, cellsOf, cellsAt_new, setCs_new, set_new, putAt, -List.getD_eq_getElem?_getD, rd_ne, rd_eq, List.length_set, List.getD_cons_zero, List.getD_cons_succ]
      · right
        have hbn : (lo == lo2) = false := beq_false_of_ne q3
        have hbm : (lo != lo2) = true := bne_iff_ne.2 q3
        refine ⟨by simp [headSame, q1, q2, q3, hbn, hbm], ?_⟩
        refine ⟨?s4, ?e4, ?i4⟩
        case e4 =>
          simp [f105.r7, f105.r8, q1, q2, q3, hbn, hbm, strBin, hl, h0, h1, h5, h6, h7, Sm.enc, Ex.enc, cellsAt_two0, cellsAt_two1, List.getElem?_set, exec, xops, xoper, want, putT, xop, ev, bin, intBin, isShift, okv, asNat_nat, takeAt, one, cellsOf, cellsAt_new, setCs_new, set_new, putAt, -List.getD_eq_getElem?_getD, rd_ne, rd_eq, List.length_set, List.getD_cons_zero, List.getD_cons_succ]
          rfl
        case i4 => simp [F105, hl, q1, q2, q3, hbn, hbm, exec, xops, xoper, want, putT, xop, ev, bin, intBin, isShift, okv, asNat_nat, takeAt, one, cellsOf, cellsAt_new, setCs_new, set_new, putAt, -List.getD_eq_getElem?_getD, rd_ne, rd_eq, List.length_set, List.getD_cons_zero, List.getD_cons_succ]
    · right
      have hbn : (name == name2) = false := beq_false_of_ne q2
      have hbm : (name != name2) = true := bne_iff_ne.2 q2
      refine ⟨by simp [headSame, q1, q2, hbn, hbm], ?_⟩
      refine ⟨?s5, ?e5, ?i5⟩
      case e5 =>
        simp [f105.r7, f105.r8, q1, q2, hbn, hbm, strBin, hl, h0, h1, h5, h6, h7, Sm.enc, Ex.enc, cellsAt_two0, cellsAt_two1, List.getElem?_set, exec, xops, xoper, want, putT, xop, ev, bin, intBin, isShift, okv, asNat_nat, takeAt, one, cellsOf, cellsAt_new, setCs_new, set_new, putAt, -List.getD_eq_getElem?_getD, rd_ne, rd_eq, List.length_set, List.getD_cons_zero, List.getD_cons_succ]
        rfl
      case i5 => simp [F105, hl, q1, q2, hbn, hbm, exec, xops, xoper, want, putT, xop, ev, bin, intBin, isShift, okv, asNat_nat, takeAt, one, cellsOf, cellsAt_new, setCs_new, set_new, putAt, -List.getD_eq_getElem?_getD, rd_ne, rd_eq, List.length_set, List.getD_cons_zero, List.getD_cons_succ]
  · right
    have hbn : (kind == kind2) = false := beq_false_of_ne q1
    have hbm : (kind != kind2) = true := bne_iff_ne.2 q1
    refine ⟨by simp [headSame, q1, hbn, hbm], ?_⟩
    refine ⟨?s6, ?e6, ?i6⟩
    case e6 =>
      simp [f105.r7, f105.r8, q1, hbn, hbm, strBin, hl, h0, h1, h5, h6, h7, Sm.enc, Ex.enc, cellsAt_two0, cellsAt_two1, List.getElem?_set, exec, xops, xoper, want, putT, xop, ev, bin, intBin, isShift, okv, asNat_nat, takeAt, one, cellsOf, cellsAt_new, setCs_new, set_new, putAt, -List.getD_eq_getElem?_getD, rd_ne, rd_eq, List.length_set, List.getD_cons_zero, List.getD_cons_succ]
      rfl
    case i6 => simp [F105, hl, q1, hbn, hbm, exec, xops, xoper, want, putT, xop, ev, bin, intBin, isShift, okv, asNat_nat, takeAt, one, cellsOf, cellsAt_new, setCs_new, set_new, putAt, -List.getD_eq_getElem?_getD, rd_ne, rd_eq, List.length_set, List.getD_cons_zero, List.getD_cons_succ]

end Go.Proofs.YtnifjgdhgnmhmaaGreatDoor
namespace Go.Proofs.YtnifjgdhgnmhmaaGreatDoor
open Go Go.X
set_option linter.unusedSimpArgs false
set_option linter.unusedVariables false

/-- What the calls come to. -/
def RS (call : CallF) : Sm → Sm → Prop
  | .mk _ _ _ index e _ _ th el, .mk _ _ _ index2 e2 _ _ th2 el2 => call 111 [index.x, index2.x] [] = some (.ret (.bool (index.same index2)) []) ∧ SameC call 50 e e2 ∧
    call 105 [th.x, th2.x] [] = some (.ret (.bool (th.same th2)) []) ∧ call 105 [el.x, el2.x] [] = some (.ret (.bool (el.same el2)) [])

theorem tail105 {call : CallF} {k i : Nat} {a b : Sms} {e f : Sm} {H : Heap} {s : St} (hs : J105 a b i e f H s) (hc : RS call e f) :
    (tailSame e f = true ∧ ∃ s', exec TE call k (.seq (.region f105.r9) (.cond (.t 82) (.seq (.region f105.r10) (.ret)) (.skip))) s = some (.norm, s') ∧ J105 a b i e f H s') ∨
    (tailSame e f = false ∧ ∃ s', exec TE call k (.seq (.region f105.r9) (.cond (.t 82) (.seq (.region f105.r10) (.ret)) (.skip))) s = some (.ret, s') ∧ F105 s') := by
  obtain ⟨T, H', D⟩ := s
  obtain ⟨⟨rfl, hl, h0, h1, h5⟩, rfl, h6, h7⟩ := hs
  simp only at hl h0 h1 h5 h6 h7
  obtain ⟨kind, at_, name, index, ⟨op, eat, bb, ii, ff, en, args⟩, lo, hi, th, el⟩ := e
  obtain ⟨kind2, at2, name2, index2, ⟨op2, eat2, bb2, ii2, ff2, en2, args2⟩, lo2, hi2, th2, el2⟩ := f
  obtain ⟨c1, c2, c3, c4⟩ := hc
  simp only [SameC, Ex.enc] at c2
  simp only [Sms.x] at c3 c4
  have hd1 : ∀ H, docall TE call 111 [index.x, index2.x] H = some (.ret (.bool (index.same index2)) H) := fun H => docall_iso (E := TE) rfl rfl (by simp [bares]) (by simp) c1 H
  have hd2 : ∀ H, docall TE call 50 [.agg [.int .u8 op, .int .i64 eat, .bool bb, .int .i32 ii, .int .u64 ff, .str en, args.ptr args.cells], .agg [.int .u8 op2, .int .i64 eat2, .bool bb2, .int .i32 ii2, .int .u64 ff2, .str en2, args2.ptr args2.cells]] H =
      some (.ret (.bool ((Ex.mk op eat bb ii ff en args).same (Ex.mk op2 eat2 bb2 ii2 ff2 en2 args2))) H) := fun H => docall_iso (E := TE) rfl rfl (by simp [bares, leafs]) (by simp) c2 H
  have hd3 : ∀ H, docall TE call 105 [th.ptr th.cells, th2.ptr th2.cells] H = some (.ret (.bool (th.same th2)) H) := fun H => docall_iso (E := TE) rfl rfl (by simp [bares]) (by simp) c3 H
  have hd4 : ∀ H, docall TE call 105 [el.ptr el.cells, el2.ptr el2.cells] H = some (.ret (.bool (el.same el2)) H) := fun H => docall_iso (E := TE) rfl rfl (by simp [bares]) (by simp) c4 H
  cases b1 : index.same index2 with
  | true =>
    cases b2 : (Ex.mk op eat bb ii ff en args).same (Ex.mk op2 eat2 bb2 ii2 ff2 en2 args2) with
    | true =>
      cases b3 : th.same th2 with
      | true =>
        cases b4 : el.same el2 with
        | true =>
          left
          refine ⟨by simp [tailSame, b1, b2, b3, b4], ?_⟩
          refine ⟨?s1, ?e1, ?i1⟩
          case e1 =>
            simp [f105.r9, f105.r10, un, hd1, hd2, hd3, hd4, b1, b2, b3, b4, hl, h0, h1, h5, h6, h7, Sm.enc, Ex.enc, cellsAt_two0, cellsAt_two1, List.getElem?_set, exec, xops, xoper, want, putT, xop, ev, bin, intBin, isShift, okv, asNat_nat, takeAt, one, cellsOf, cellsAt_new, setCs_new, set_new, putAt, -List.getD_eq_getElem?_getD, rd_ne, rd_eq, List.length_set, List.getD_cons_zero, List.getD_cons_succ]
            rfl
          case i1 => simp [J105, I105, Sm.enc, Ex.enc, hl, h0, h1, h5, h6, h7, b1, b2, b3, b4, exec, xops, xoper, want, putT, xop, ev, bin, intBin, isShift, okv, asNat_nat, takeAt, one, cellsOf, cellsAt_new, setCs_new, set_new, putAt, -List.getD_eq_getElem?_getD, rd_ne, rd_eq, List.length_set, List.getD_cons_zero, List.getD_cons_succ]
        | false =>
          right
          refine ⟨by simp [tailSame, b1, b2, b3, b4], ?_⟩
          refine ⟨?s2, ?e2, ?i2⟩
          case e2 =>
            simp [f105.r9, f105.r10, un, hd1, hd2, hd3, hd4, b1, b2, b3, b4, hl, h0, h1, h5, h6, h7, Sm.enc, Ex.enc, cellsAt_two0, cellsAt_two1, List.getElem?_set, exec, xops, xoper, want, putT, xop, ev, bin, intBin, isShift, okv, asNat_nat, takeAt, one, cellsOf, cellsAt_new, setCs_new, set_new, putAt, -List.getD_eq_getElem?_getD, rd_ne, rd_eq, List.length_set, List.getD_cons_zero, List.getD_cons_succ]
            rfl
          case i2 => simp [F105, hl, b1, b2, b3, b4, exec, xops, xoper, want, putT, xop, ev, bin, intBin, isShift, okv, asNat_nat, takeAt, one, cellsOf, cellsAt_new, setCs_new, set_new, putAt, -List.getD_eq_getElem?_getD, rd_ne, rd_eq, List.length_set, List.getD_cons_zero, List.getD_cons_succ]
      | false =>
        right
        refine ⟨by simp [tailSame, b1, b2, b3], ?_⟩
        refine ⟨?s3, ?e3, ?i3⟩
        case e3 =>
          simp [f105.r9, f105.r10, un, hd1, hd2, hd3, hd4, b1, b2, b3, hl, h0, h1, h5, h6, h7, Sm.enc, Ex.enc, cellsAt_two0, cellsAt_two1, List.getElem?_set, exec, xops, xoper, want, putT, xop, ev, bin, intBin, isShift, okv, asNat_nat, takeAt, one, cellsOf, cellsAt_new, setCs_new, set_new, putAt, -List.getD_eq_getElem?_getD, rd_ne, rd_eq, List.length_set, List.getD_cons_zero, List.getD_cons_succ]
          rfl
        case i3 => simp [F105, hl, b1, b2, b3, exec, xops, xoper, want, putT, xop, ev, bin, intBin, isShift, okv, asNat_nat, takeAt, one, cellsOf, cellsAt_new, setCs_new, set_new, putAt, -List.getD_eq_getElem?_getD, rd_ne, rd_eq, List.length_set, List.getD_cons_zero, List.getD_cons_succ]
    | false =>
      right
      refine ⟨by simp [tailSame, b1, b2], ?_⟩
      refine ⟨?s4, ?e4, ?i4⟩
      case e4 =>
        simp [f105.r9, f105.r10, un, hd1, hd2, hd3, hd4, b1, b2, hl, h0, h1, h5, h6, h7, Sm.enc, Ex.enc, cellsAt_two0, cellsAt_two1, List.getElem?_set, exec, xops, xoper, want, putT, xop, ev, bin, intBin, isShift, okv, asNat_nat, takeAt, one, cellsOf, cellsAt_new, setCs_new, set_new, putAt, -List.getD_eq_getElem?_getD, rd_ne, rd_eq, List.length_set, List.getD_cons_zero, List.getD_cons_succ]
        rfl
      case i4 => simp [F105, hl, b1, b2, exec, xops, xoper, want, putT, xop, ev, bin, intBin, isShift, okv, asNat_nat, takeAt, one, cellsOf, cellsAt_new, setCs_new, set_new, putAt, -List.getD_eq_getElem?_getD, rd_ne, rd_eq, List.length_set, List.getD_cons_zero, List.getD_cons_succ]
  | false =>
    right
    refine ⟨by simp [tailSame, b1], ?_⟩
    refine ⟨?s5, ?e5, ?i5⟩
    case e5 =>
      simp [f105.r9, f105.r10, un, hd1, hd2, hd3, hd4, b1, hl, h0, h1, h5, h6, h7, Sm.enc, Ex.enc, cellsAt_two0, cellsAt_two1, List.getElem?_set, exec, xops, xoper, want, putT, xop, ev, bin, intBin, isShift, okv, asNat_nat, takeAt, one, cellsOf, cellsAt_new, setCs_new, set_new, putAt, -List.getD_eq_getElem?_getD, rd_ne, rd_eq, List.length_set, List.getD_cons_zero, List.getD_cons_succ]
      rfl
    case i5 => simp [F105, hl, b1, exec, xops, xoper, want, putT, xop, ev, bin, intBin, isShift, okv, asNat_nat, takeAt, one, cellsOf, cellsAt_new, setCs_new, set_new, putAt, -List.getD_eq_getElem?_getD, rd_ne, rd_eq, List.length_set, List.getD_cons_zero, List.getD_cons_succ]

def body105 : XC := (.seq (.seq (.region f105.r4) (.cond (.t 16) (.skip) (.exit 0))) (.seq (.block 1 (.seq (.region f105.r5) (.seq (.region f105.r6) (.seq (.seq (.region f105.r7) (.cond (.t 52) (.seq (.region f105.r8) (.ret)) (.skip))) (.seq (.region f105.r9) (.cond (.t 82) (.seq (.region f105.r10) (.ret)) (.skip))))))) (.region f105.r11)))

theorem exit105 {call : CallF} {k i : Nat} {a b : Sms} {s : St} (hs : I105 a b i s) (h : ¬ i < a.len) : ∃ s', exec TE call k body105 s = some (.exit 0, s') ∧ I105 a b i s' := by
  obtain ⟨T, H, D⟩ := s
  obtain ⟨rfl, hl, h0, h1, h5⟩ := hs
  simp only at hl h0 h1 h5
  have hla := Sms.lenOf_x a
  refine ⟨?s6, ?e6, ?i6⟩
  case e6 =>
    simp [body105, f105.r4, h, hla, hl, h0, h1, h5, exec, xops, xoper, want, putT, xop, ev, bin, intBin, isShift, okv, asNat_nat, takeAt, one, cellsOf, cellsAt_new, setCs_new, set_new, putAt, -List.getD_eq_getElem?_getD, rd_ne, rd_eq, List.length_set, List.getD_cons_zero, List.getD_cons_succ]
    rfl
  case i6 => simp [I105, hl, h0, h1, h5, exec, xops, xoper, want, putT, xop, ev, bin, intBin, isShift, okv, asNat_nat, takeAt, one, cellsOf, cellsAt_new, setCs_new, set_new, putAt, -List.getD_eq_getElem?_getD, rd_ne, rd_eq, List.length_set, List.getD_cons_zero, List.getD_cons_succ]

theorem exec_assoc {E : Env} {call : CallF} {k : Nat} {x y z : XC} {s s' : St} (h : exec E call k (.seq x y) s = some (.norm, s')) : exec E call k (.seq x (.seq y z)) s = exec E call k z s' := by
  simp only [exec] at h ⊢
  cases hx : exec E call k x s with
  | none => simp [hx] at h
  | some r =>
    obtain ⟨q, s1⟩ := r
    cases q <;> simp [hx] at h ⊢
    rw [h]

theorem step105 {call : CallF} {k i : Nat} {a b : Sms} {s : St} (hs : I105 a b i s) (h : i < a.len) (hlen : a.len = b.len) (e f : Sm) (r t : List XV) (he : a.cells.drop (i * 15) = e.enc ++ r) (hf : b.cells.drop (i * 15) = f.enc ++ t) (hi : i + 1 < 2 ^ 63)
    (hc : RS call e f) : (e.same f = true ∧ ∃ s', exec TE call k body105 s = some (.norm, s') ∧ I105 a b (i + 1) s') ∨ (e.same f = false ∧ ∃ s', exec TE call k body105 s = some (.ret, s') ∧ F105 s') := by
  obtain ⟨T, H, D⟩ := s
  obtain ⟨rfl, hl, h0, h1, h5⟩ := hs
  simp only at hl h0 h1 h5
  have hla := Sms.lenOf_x a
  have hw2 : IntKind.i64.wrap ((i : Int) + 1) = (i : Int) + 1 := wrap_small (by omega) (by omega)
  have head : ∃ s', exec TE call k (.seq (.region f105.r4) (.cond (.t 16) (.skip) (.exit 0))) ⟨T, H, []⟩ = some (.norm, s') ∧ I105 a b i s' := by
    refine ⟨?s7, ?e7, ?i7⟩
    case e7 =>
      simp [f105.r4, h, hla, hl, h0, h1, h5, exec, xops, xoper, want, putT, xop, ev, bin, intBin, isShift, okv, asNat_nat, takeAt, one, cellsOf, cellsAt_new, setCs_new, set_new, putAt, -List.getD_eq_getElem?_getD, rd_ne, rd_eq, List.length_set, List.getD_cons_zero, List.getD_cons_succ]
      rfl
    case i7 => simp [I105, hl, h0, h1, h5, exec, xops, xoper, want, putT, xop, ev, bin, intBin, isShift, okv, asNat_nat, takeAt, one, cellsOf, cellsAt_new, setCs_new, set_new, putAt, -List.getD_eq_getElem?_getD, rd_ne, rd_eq, List.length_set, List.getD_cons_zero, List.getD_cons_succ]
  obtain ⟨⟨T1, H1, D1⟩, e1, i1⟩ := head
  obtain rfl : D1 = [] := i1.1
  obtain ⟨s2, e2, j2⟩ := lay105 (call := call) (k := k) i1 h hlen e f r t he hf
  rw [Sm.same_split]
  rcases head105 (call := call) (k := k) j2 with ⟨hh, s3, e3, j3⟩ | ⟨hh, s3, e3, f3⟩
  · rcases tail105 (call := call) (k := k) j3 hc with ⟨ht, s4, e4, j4⟩ | ⟨ht, s4, e4, f4⟩
    · left
      obtain ⟨T4, H4, D4⟩ := s4
      obtain ⟨⟨rfl, gl, g0, g1, g5⟩, _⟩ := j4
      simp only at gl g0 g1 g5
      refine ⟨by rw [hh, ht]; rfl, ⟨((T4.set 17 (.int .i64 (i : Int))).set 18 (.int .i64 ((i : Int) + 1))).set 5 (.int .i64 ((i : Int) + 1)), H4, []⟩, ?_, ?_⟩
      · unfold body105
        rw [exec_seq_norm e1, exec_seq_norm (exec_block_norm (by rw [exec_assoc e2, exec_seq_norm e3, e4]))]
        simp [f105.r11, hw2, gl, g5, exec, xops, xoper, want, putT, xop, ev, bin, intBin, isShift, okv, asNat_nat, takeAt, one, cellsOf, cellsAt_new, setCs_new, set_new, putAt, -List.getD_eq_getElem?_getD, rd_ne, rd_eq, List.length_set, List.getD_cons_zero, List.getD_cons_succ]
      · simp [I105, gl, g0, g1, g5, exec, xops, xoper, want, putT, xop, ev, bin, intBin, isShift, okv, asNat_nat, takeAt, one, cellsOf, cellsAt_new, setCs_new, set_new, putAt, -List.getD_eq_getElem?_getD, rd_ne, rd_eq, List.length_set, List.getD_cons_zero, List.getD_cons_succ]
    · right
      refine ⟨by rw [hh, ht]; rfl, s4, ?_, f4⟩
      unfold body105
      rw [exec_seq_norm e1]
      exact exec_seq_ret (exec_block_ret (by rw [exec_assoc e2, exec_seq_norm e3, e4]))
  · right
    refine ⟨by rw [hh]; rfl, s3, ?_, f3⟩
    unfold body105
    rw [exec_seq_norm e1]
    exact exec_seq_ret (exec_block_ret (by rw [exec_assoc e2]; exact exec_seq_ret e3))

theorem loop105 {call : CallF} {k : Nat} {a b : Sms} (hlen : a.len = b.len) (hlb : a.len + 1 < 2 ^ 63) : ∀ (r t : Sms) (n i : Nat), r.len < n → a.cells.drop (i * 15) = r.cells → b.cells.drop (i * 15) = t.cells → i + r.len = a.len → r.len = t.len → r.All2 (RS call) t →
    ∀ s, I105 a b i s → (r.same t = true ∧ ∃ s', loopN (exec TE call k body105) n s = some (.exit 0, s') ∧ I105 a b a.len s') ∨ (r.same t = false ∧ ∃ s', loopN (exec TE call k body105) n s = some (.ret, s') ∧ F105 s')
  | _, _, 0, _, hn, _, _, _, _, _ => by omega
  | .nil _, .cons _ _, n + 1, i, hn, hcs, hct, hl1, hl2, hall => by simp [Sms.len] at hl2
  | .cons _ _, .nil _, n + 1, i, hn, hcs, hct, hl1, hl2, hall => by simp [Sms.len] at hl2
  | .nil z, .nil z', n + 1, i, hn, hcs, hct, hl1, hl2, hall => by
    intro s hs
    simp only [Sms.len, Nat.add_zero] at hl1
    subst hl1
    obtain ⟨s', h1, h2⟩ := exit105 (call := call) (k := k) hs (by omega)
    exact .inl ⟨by simp [Sms.same], s', by simp [loopN, h1], h2⟩
  | .cons e r, .cons f t, n + 1, i, hn, hcs, hct, hl1, hl2, hall => by
    intro s hs
    simp only [Sms.len] at hl1 hl2 hn
    simp only [Sms.cells] at hcs hct
    rcases step105 (call := call) (k := k) hs (by omega) hlen e f r.cells t.cells hcs hct (by omega) hall.1 with ⟨hsm, s', h1, h2⟩ | ⟨hsm, s', h1, h2⟩
    · have hd : a.cells.drop ((i + 1) * 15) = r.cells := by
        rw [Nat.add_mul, Nat.one_mul, ← List.drop_drop, hcs, List.drop_left' (Sm.enc_length e)]
      have hd' : b.cells.drop ((i + 1) * 15) = t.cells := by
        rw [Nat.add_mul, Nat.one_mul, ← List.drop_drop, hct, List.drop_left' (Sm.enc_length f)]
      rcases loop105 (call := call) (k := k) hlen hlb r t n (i + 1) (by omega) hd hd' (by omega) (by omega) hall.2 s' h2 with ⟨h3, s'', h4, h5⟩ | ⟨h3, s'', h4, h5⟩
      · exact .inl ⟨by simp [Sms.same, hsm, h3], s'', by simp [loopN, h1, h4], h5⟩
      · exact .inr ⟨by simp [Sms.same, hsm, h3], s'', by simp [loopN, h1, h4], h5⟩
    · exact .inr ⟨by simp [Sms.same, hsm], s', by simp [loopN, h1], h2⟩

end Go.Proofs.YtnifjgdhgnmhmaaGreatDoor
namespace Go.Proofs.YtnifjgdhgnmhmaaGreatDoor
open Go Go.X
set_option linter.unusedSimpArgs false
set_option linter.unusedVariables false

theorem run105 {n : Nat} (a b : Sms) (hln : a.len < n) (hb : a.len < 2 ^ 61) (hall : a.All2 (RS (callN TE n)) b) : callN TE (n + 1) 105 [a.x, b.x] [] = some (.ret (.bool (a.same b)) []) := by
  rw [callN_eq (xf := f105) rfl]
  have hf : frame0 f105 [a.x, b.x] = [a.x, b.x, und, und, und, und, und, und, und, und, und, und, und, und, und, und, und, und, und, und, und, und, und, und, und, und, und, und, und, und, und, und, und, und, und, und, und, und, und, und, und, und, und, und, und, und, und, und, und, und, und, und, und, und, und, und, und, und, und, und, und, und, und, und, und, und, und, und, und, und, und, und, und, und, und, und, und, und, und, und, und, und, und] := rfl
  have hbd : f105.body = .seq (.region f105.r0) (.seq (.seq (.region f105.r1) (.cond (.t 12) (.seq (.region f105.r2) (.ret)) (.skip))) (.seq (.seq (.region f105.r3) (.block 0 (.loop body105))) (.seq (.region f105.r12) (.ret)))) := rfl
  have hla := Sms.lenOf_x a
  have hlb := Sms.lenOf_x b
  have a0 : exec TE (callN TE n) n (.region f105.r0) ⟨[a.x, b.x, und, und, und, und, und, und, und, und, und, und, und, und, und, und, und, und, und, und, und, und, und, und, und, und, und, und, und, und, und, und, und, und, und, und, und, und, und, und, und, und, und, und, und, und, und, und, und, und, und, und, und, und, und, und, und, und, und, und, und, und, und, und, und, und, und, und, und, und, und, und, und, und, und, und, und, und, und, und, und, und, und], [], []⟩ = some (.norm, ⟨[a.x, b.x, und, und, .bool false, und, und, und, und, und, und, und, und, und, und, und, und, und, und, und, und, und, und, und, und, und, und, und, und, und, und, und, und, und, und, und, und, und, und, und, und, und, und, und, und, und, und, und, und, und, und, und, und, und, und, und, und, und, und, und, und, und, und, und, und, und, und, und, und, und, und, und, und, und, und, und, und, und, und, und, und, und, und], [], []⟩) := rfl
  have a1 : exec TE (callN TE n) n (.region f105.r1) ⟨[a.x, b.x, und, und, .bool false, und, und, und, und, und, und, und, und, und, und, und, und, und, und, und, und, und, und, und, und, und, und, und, und, und, und, und, und, und, und, und, und, und, und, und, und, und, und, und, und, und, und, und, und, und, und, und, und, und, und, und, und, und, und, und, und, und, und, und, und, und, und, und, und, und, und, und, und, und, und, und, und, und, und, und, und, und, und], [], []⟩ = some (.norm, ⟨[a.x, b.x, und, und, .bool false, und, und, und, a.x, .int .i64 (a.len : Int), b.x, .int .i64 (b.len : Int), .bool ((a.len : Int) != (b.len : Int)), und, und, und, und, und, und, und, und, und, und, und, und, und, und, und, und, und, und, und, und, und, und, und, und, und, und, und, und, und, und, und, und, und, und, und, und, und, und, und, und, und, und, und, und, und, und, und, und, und, und, und, und, und, und, und, und, und, und, und, und, und, und, und, und, und, und, und, und, und, und], [], []⟩) := by
    simp [f105.r1, hla, hlb, exec, xops, xoper, want, putT, xop, ev, bin, intBin, isShift, okv, asNat_nat, takeAt, one, cellsOf, cellsAt_new, setCs_new, set_new, putAt, -List.getD_eq_getElem?_getD, rd_ne, rd_eq, List.length_set, List.getD_cons_zero, List.getD_cons_succ]
  by_cases hlen : a.len = b.len
  · have a2 : exec TE (callN TE n) n (.cond (.t 12) (.seq (.region f105.r2) (.ret)) (.skip)) ⟨[a.x, b.x, und, und, .bool false, und, und, und, a.x, .int .i64 (a.len : Int), b.x, .int .i64 (b.len : Int), .bool ((a.len : Int) != (b.len : Int)), und, und, und, und, und, und, und, und, und, und, und, und, und, und, und, und, und, und, und, und, und, und, und, und, und, und, und, und, und, und, und, und, und, und, und, und, und, und, und, und, und, und, und, und, und, und, und, und, und, und, und, und, und, und, und, und, und, und, und, und, und, und, und, und, und, und, und, und, und, und], [], []⟩ = some (.norm, ⟨[a.x, b.x, und, und, .bool false, und, und, und, a.x, .int .i64 (a.len : Int), b.x, .int .i64 (b.len : Int), .bool ((a.len : Int) != (b.len : Int)), und, und, und, und, und, und, und, und, und, und, und, und, und, und, und, und, und, und, und, und, und, und, und, und, und, und, und, und, und, und, und, und, und, und, und, und, und, und, und, und, und, und, und, und, und, und, und, und, und, und, und, und, und, und, und, und, und, und, und, und, und, und, und, und, und, und, und, und, und, und], [], []⟩) := by
      simp [hlen, exec, xops, xoper, want, putT, xop, ev, bin, intBin, isShift, okv, asNat_nat, takeAt, one, cellsOf, cellsAt_new, setCs_new, set_new, putAt, -List.getD_eq_getElem?_getD, rd_ne, rd_eq, List.length_set, List.getD_cons_zero, List.getD_cons_succ]
    have a3 : exec TE (callN TE n) n (.region f105.r3) ⟨[a.x, b.x, und, und, .bool false, und, und, und, a.x, .int .i64 (a.len : Int), b.x, .int .i64 (b.len : Int), .bool ((a.len : Int) != (b.len : Int)), und, und, und, und, und, und, und, und, und, und, und, und, und, und, und, und, und, und, und, und, und, und, und, und, und, und, und, und, und, und, und, und, und, und, und, und, und, und, und, und, und, und, und, und, und, und, und, und, und, und, und, und, und, und, und, und, und, und, und, und, und, und, und, und, und, und, und, und, und, und], [], []⟩ = some (.norm, ⟨[a.x, b.x, und, und, .bool false, .int .i64 0, und, und, a.x, .int .i64 (a.len : Int), b.x, .int .i64 (b.len : Int), .bool ((a.len : Int) != (b.len : Int)), und, und, und, und, und, und, und, und, und, und, und, und, und, und, und, und, und, und, und, und, und, und, und, und, und, und, und, und, und, und, und, und, und, und, und, und, und, und, und, und, und, und, und, und, und, und, und, und, und, und, und, und, und, und, und, und, und, und, und, und, und, und, und, und, und, und, und, und, und, und], [], []⟩) := rfl
    rcases loop105 (call := callN TE n) (k := n) hlen (by omega) a b n 0 hln (by simp) (by simp) (by simp) hlen hall
      ⟨[a.x, b.x, und, und, .bool false, .int .i64 0, und, und, a.x, .int .i64 (a.len : Int), b.x, .int .i64 (b.len : Int), .bool ((a.len : Int) != (b.len : Int)), und, und, und, und, und, und, und, und, und, und, und, und, und, und, und, und, und, und, und, und, und, und, und, und, und, und, und, und, und, und, und, und, und, und, und, und, und, und, und, und, und, und, und, und, und, und, und, und, und, und, und, und, und, und, und, und, und, und, und, und, und, und, und, und, und, und, und, und, und, und], [], []⟩ ⟨rfl, rfl, rfl, rfl, rfl⟩ with ⟨hsm, ⟨T2, H2, D2⟩, h1, rfl, hl, _⟩ | ⟨hsm, ⟨T2, H2, D2⟩, h1, rfl, hl, h6⟩
    · simp only at hl
      rw [hsm]
      refine runF_iso (T := T2.set 4 (.bool true)) (K := H2) (vs := [.bool true]) (vis := []) rfl ?_ ?_ (frz_depth rfl _)
      · rw [hf, hbd, exec_seq_norm a0, exec_seq_norm (by rw [exec_seq_norm a1, a2]), exec_seq_norm (by rw [exec_seq_norm a3]; exact exec_block_loop h1)]
        simp [f105.r12, hl, exec, xops, xoper, want, putT, xop, ev, bin, intBin, isShift, okv, asNat_nat, takeAt, one, cellsOf, cellsAt_new, setCs_new, set_new, putAt, -List.getD_eq_getElem?_getD, rd_ne, rd_eq, List.length_set, List.getD_cons_zero, List.getD_cons_succ]
      · simp [f105, resOf, hl, exec, xops, xoper, want, putT, xop, ev, bin, intBin, isShift, okv, asNat_nat, takeAt, one, cellsOf, cellsAt_new, setCs_new, set_new, putAt, -List.getD_eq_getElem?_getD, rd_ne, rd_eq, List.length_set, List.getD_cons_zero, List.getD_cons_succ]
    · simp only at hl h6
      rw [hsm]
      refine runF_iso (T := T2) (K := H2) (vs := [.bool false]) (vis := []) rfl ?_ ?_ (frz_depth rfl _)
      · rw [hf, hbd, exec_seq_norm a0, exec_seq_norm (by rw [exec_seq_norm a1, a2])]
        exact exec_seq_ret (by rw [exec_seq_norm a3]; exact exec_block_ret (by simpa only [exec] using h1))
      · simp [f105, resOf, hl, h6, exec, xops, xoper, want, putT, xop, ev, bin, intBin, isShift, okv, asNat_nat, takeAt, one, cellsOf, cellsAt_new, setCs_new, set_new, putAt, -List.getD_eq_getElem?_getD, rd_ne, rd_eq, List.length_set, List.getD_cons_zero, List.getD_cons_succ]
  · rw [Sms.same_ne hlen]
    have hne : ((a.len : Int) != (b.len : Int)) = true := by simp; omega
    refine runF_iso (T := [a.x, b.x, und, und, .bool false, und, und, und, a.x, .int .i64 (a.len : Int), b.x, .int .i64 (b.len : Int), .bool ((a.len : Int) != (b.len : Int)), und, und, und, und, und, und, und, und, und, und, und, und, und, und, und, und, und, und, und, und, und, und, und, und, und, und, und, und, und, und, und, und, und, und, und, und, und, und, und, und, und, und, und, und, und, und, und, und, und, und, und, und, und, und, und, und, und, und, und, und, und, und, und, und, und, und, und, und, und, und]) (K := []) (vs := [.bool false]) (vis := []) rfl ?_ ?_ (frz_depth rfl _)
    · rw [hf, hbd, exec_seq_norm a0]
      refine exec_seq_ret ?_
      rw [exec_seq_norm a1]
      simp [f105.r2, hne, exec, xops, xoper, want, putT, xop, ev, bin, intBin, isShift, okv, asNat_nat, takeAt, one, cellsOf, cellsAt_new, setCs_new, set_new, putAt, -List.getD_eq_getElem?_getD, rd_ne, rd_eq, List.length_set, List.getD_cons_zero, List.getD_cons_succ]
    · simp [f105, resOf, exec, xops, xoper, want, putT, xop, ev, bin, intBin, isShift, okv, asNat_nat, takeAt, one, cellsOf, cellsAt_new, setCs_new, set_new, putAt, -List.getD_eq_getElem?_getD, rd_ne, rd_eq, List.length_set, List.getD_cons_zero, List.getD_cons_succ]

mutual
theorem rsameS_ok : ∀ (e f : Sm) (n : Nat), 2 * e.sz ≤ n + 1 → e.sz < 2 ^ 60 → RS (callN TE n) e f
  | .mk kind at_ name index e lo hi th el, .mk _ _ _ index2 e2 _ _ th2 el2, n, hn, hb => by
    simp only [Sm.sz] at hn hb
    exact ⟨rsameEs_ok index index2 n (by omega) (by omega), rsameE_ok e e2 n (by omega) (by omega), rsameSs_ok th th2 n (by omega) (by omega), rsameSs_ok el el2 n (by omega) (by omega)⟩
theorem rsameS_all : ∀ (a b : Sms) (n : Nat), 2 * a.sz ≤ n → a.sz < 2 ^ 60 → a.All2 (RS (callN TE n)) b
  | .nil _, _, _, _, _ => by simp [Sms.All2]
  | .cons e r, .nil _, n, hn, hb => by simp [Sms.All2]
  | .cons e r, .cons f t, n, hn, hb => by
    simp only [Sms.sz] at hn hb
    exact ⟨rsameS_ok e f n (by omega) (by omega), rsameS_all r t n (by omega) (by omega)⟩
theorem rsameSs_ok : ∀ (a b : Sms) (n : Nat), 2 * a.sz < n → a.sz < 2 ^ 60 → callN TE n 105 [a.x, b.x] [] = some (.ret (.bool (a.same b)) [])
  | a, b, 0, hn, _ => by omega
  | a, b, n + 1, hn, hb => by
    have := Sms.len_le a
    exact run105 a b (by omega) (by omega) (rsameS_all a b n (by omega) hb)
end

end Go.Proofs.YtnifjgdhgnmhmaaGreatDoor
namespace Go.Proofs.YtnifjgdhgnmhmaaGreatDoor
open Go Go.X
set_option linter.unusedSimpArgs false
set_option linter.unusedVariables false

inductive Des where
  | nil (z : Bool)
  | cons (e : De) (r : Des)
def Des.len : Des → Nat
  | .nil _ => 0
  | .cons _ r => r.len + 1
def Des.ptr (cs : List XV) : Des → XV
  | .nil true => .nils
  | .nil false => .vs 0 []
  | .cons _ r => .vs (r.len + 1) cs
def Des.cells : Des → List XV
  | .nil _ => []
  | .cons e r => e.enc ++ r.cells
def Des.x (l : Des) : XV := l.ptr l.cells
def Des.sz : Des → Nat
  | .nil _ => 1
  | .cons e r => e.sz + r.sz + 1
theorem Des.cells_length : ∀ l : Des, l.cells.length = l.len * 20
  | .nil _ => by simp [Des.cells, Des.len]
  | .cons e r => by simp [Des.cells, Des.len, De.enc_length, Des.cells_length r]; omega
theorem Des.len_le : ∀ l : Des, l.len + 1 ≤ l.sz
  | .nil _ => by simp [Des.len, Des.sz]
  | .cons e r => by have := Des.len_le r; simp [Des.len, Des.sz]; omega
theorem Des.lenOf_x (l : Des) : lenOf false l.x = some l.len := by
  cases l with
  | nil z => cases z <;> rfl
  | cons e r => rfl
theorem Des.x_vs {l : Des} {i : Nat} (h : i < l.len) : l.x = .vs l.len l.cells := by
  cases l with
  | nil z => simp [Des.len] at h
  | cons e r => rfl
theorem Des.leaf_x (l : Des) : leaf l.x = true := by
  cases l with
  | nil z => cases z <;> rfl
  | cons e r => rfl
@[simp] theorem Des.bare_x (l : Des) : bare l.x = true := bare_leaf (Des.leaf_x l)
theorem De.leafs_enc (e : De) : leafs e.enc = true := by
  obtain ⟨a, input, name, ty, len, range, lo, hi⟩ := e
  simp only [De.enc, leafs, leaf_int, leaf_str, leaf_bool, Bool.true_and]
  exact leafs_append (Ex.leafs_enc lo) (Ex.leafs_enc hi)
def De.same (d e : De) : Bool := decide (d.input = e.input) && (decide (d.name = e.name) && (decide (d.ty = e.ty) && (decide (d.len = e.len) && (decide (d.range = e.range) && (d.lo.same e.lo && d.hi.same e.hi)))))
def Des.same : Des → Des → Bool
  | .nil _, .nil _ => true
  | .cons a r, .cons b s => a.same b && r.same s
  | _, _ => false
theorem Des.same_len : ∀ {a b : Des}, a.same b = true → a.len = b.len
  | .nil _, .nil _, _ => rfl
  | .cons a r, .cons b s, h => by
    simp only [Des.same, Bool.and_eq_true] at h
    simp only [Des.len, Des.same_len h.2]
  | .nil _, .cons _ _, h => by simp [Des.same] at h
  | .cons _ _, .nil _, h => by simp [Des.same] at h
def toDes (z : Bool) : List De → Des
  | [] => .nil z
  | d :: r => .cons d (toDes z r)
theorem toDes_len (z : Bool) : ∀ l : List De, (toDes z l).len = l.length
  | [] => rfl
  | d :: r => by simp [toDes, Des.len, toDes_len z r]
theorem toDes_cells (z : Bool) : ∀ l : List De, (toDes z l).cells = desCells l
  | [] => rfl
  | d :: r => by simp [toDes, Des.cells, desCells, toDes_cells z r]
theorem toDes_x (z : Bool) (l : List De) : (toDes z l).x = desX z l := by
  cases l with
  | nil => cases z <;> rfl
  | cons d r => simp [toDes, Des.x, Des.ptr, desX, toDes_len, desCells, Des.cells, toDes_cells]
theorem toDes_sz (z : Bool) : ∀ l : List De, (toDes z l).sz = desSz l
  | [] => rfl
  | d :: r => by simp [toDes, Des.sz, desSz, toDes_sz z r]

def SameDC (call : CallF) (f : Nat) (a b : De) : Prop := call f [.agg a.enc, .agg b.enc] [] = some (.ret (.bool (a.same b)) [])

def I106 (a b : Des) (i : Nat) (s : St) : Prop :=
  s.D = [] ∧ s.T.length = 30 ∧ s.T.getD 0 und = a.x ∧ s.T.getD 1 und = b.x ∧ s.T.getD 2 und = .fn (.func 107) [] [] ∧ s.T.getD 14 und = .int .i64 (a.len : Int) ∧ s.T.getD 15 und = .int .i64 (i : Int)

def F106 (s : St) : Prop := s.D = [] ∧ s.T.length = 30 ∧ s.T.getD 6 und = .bool false

def body106 : XC := (.seq (.region f106.r4) (.seq (.cond (.t 16) (.skip) (.exit 0)) (.seq (.block 1 (.seq (.region f106.r5) (.seq (.regionD f106.r6 [0, 0, 0, 6, 14, 0, 0, 96, 224, 511, 1023]) (.cond (.t 28) (.seq (.region f106.r7) (.ret)) (.skip))))) (.region f106.r8))))

theorem exit106 {call : CallF} {k i : Nat} {a b : Des} {s : St} (hs : I106 a b i s) (h : ¬ i < a.len) : ∃ s', exec TE call k body106 s = some (.exit 0, s') ∧ I106 a b i s' := by
  obtain ⟨T, H, D⟩ := s
  obtain ⟨rfl, hl, h0, h1, h2, h14, h15⟩ := hs
  simp only at hl h0 h1 h2 h14 h15
  refine ⟨?s1, ?e1, ?i1⟩
  case e1 =>
    simp [body106, f106.r4, h, hl, h0, h1, h2, h14, h15, exec, xops, xoper, want, putT, xop, ev, bin, intBin, isShift, okv, asNat_nat, takeAt, one, cellsOf, cellsAt_new, setCs_new, set_new, putAt, -List.getD_eq_getElem?_getD, rd_ne, rd_eq, List.length_set, List.getD_cons_zero, List.getD_cons_succ]
    rfl
  case i1 => simp [I106, hl, h0, h1, h2, h14, h15, exec, xops, xoper, want, putT, xop, ev, bin, intBin, isShift, okv, asNat_nat, takeAt, one, cellsOf, cellsAt_new, setCs_new, set_new, putAt, -List.getD_eq_getElem?_getD, rd_ne, rd_eq, List.length_set, List.getD_cons_zero, List.getD_cons_succ]

theorem step106 {call : CallF} {k i : Nat} {a b : Des} {s : St} (hs : I106 a b i s) (h : i < a.len) (hlen : a.len = b.len) (e f : De) (r t : List XV) (he : a.cells.drop (i * 20) = e.enc ++ r) (hf : b.cells.drop (i * 20) = f.enc ++ t) (hi : i + 1 < 2 ^ 63)
    (hc : SameDC call 107 e f) : (e.same f = true ∧ ∃ s', exec TE call k body106 s = some (.norm, s') ∧ I106 a b (i + 1) s') ∨ (e.same f = false ∧ ∃ s', exec TE call k body106 s = some (.ret, s') ∧ F106 s') := by
  obtain ⟨T, H, D⟩ := s
  obtain ⟨rfl, hl, h0, h1, h2, h14, h15⟩ := hs
  simp only at hl h0 h1 h2 h14 h15
  have hxa := Des.x_vs h
  have hxb := Des.x_vs (show i < b.len by omega)
  rw [hxa] at h0
  rw [hxb] at h1
  have hca := Des.cells_length a
  have hcb := Des.cells_length b
  have hla : i * 20 ≤ a.cells.length := by omega
  have hlb : i * 20 ≤ b.cells.length := by omega
  have hib : i < b.len := by omega
  have hw2 : IntKind.i64.wrap ((i : Int) + 1) = (i : Int) + 1 := wrap_small (by omega) (by omega)
  have hfr : ∀ H, frzL depth H [.agg e.enc, .agg f.enc] = some ([.agg e.enc, .agg f.enc], []) := fun H => frzL_depth (by simp [bares, De.leafs_enc, De.enc_length]) (by simp) H
  have hdc : ∀ H, docall TE call 107 [.agg e.enc, .agg f.enc] H = some (.ret (.bool (e.same f)) H) := fun H => docall_iso (E := TE) rfl rfl (by simp [bares, De.leafs_enc, De.enc_length]) (by simp) hc H
  have hiso : TE.iso 107 = true := rfl
  have hte : ∀ r : List XV, takeAt (e.enc ++ r) 0 20 = some e.enc := fun r => by simp [takeAt, De.enc_length, List.take_left' (De.enc_length e)]
  have htf : ∀ r : List XV, takeAt (f.enc ++ r) 0 20 = some f.enc := fun r => by simp [takeAt, De.enc_length, List.take_left' (De.enc_length f)]
  -- ahead of the question
  have head : ∃ s', exec TE call k (.region f106.r4) ⟨T, H, []⟩ = some (.norm, s') ∧ s'.T.getD 16 und = .bool true ∧ s'.H = H ∧ I106 a b i s' := by
    refine ⟨?s2, ?e2, ?i2⟩
    case e2 =>
      simp [f106.r4, h, hl, h0, h1, h2, h14, h15, exec, xops, xoper, want, putT, xop, ev, bin, intBin, isShift, okv, asNat_nat, takeAt, one, cellsOf, cellsAt_new, setCs_new, set_new, putAt, -List.getD_eq_getElem?_getD, rd_ne, rd_eq, List.length_set, List.getD_cons_zero, List.getD_cons_succ]
      rfl
    case i2 => simp [I106, hxa, hxb, hl, h0, h1, h2, h14, h15, exec, xops, xoper, want, putT, xop, ev, bin, intBin, isShift, okv, asNat_nat, takeAt, one, cellsOf, cellsAt_new, setCs_new, set_new, putAt, -List.getD_eq_getElem?_getD, rd_ne, rd_eq, List.length_set, List.getD_cons_zero, List.getD_cons_succ]
  obtain ⟨⟨T1, H1, D1⟩, e1, g16, rfl, rfl, gl, g0, g1, g2, g14, g15⟩ := head
  simp only at g16 gl g0 g1 g2 g14 g15
  rw [hxa] at g0
  rw [hxb] at g1
  have ask : ∃ T', xopsL TE call f106.r6 ((T1.set 17 (.int .i64 (i : Int))).set 7 (.int .i64 (i : Int))) H1 = some (T', H1) ∧ T'.getD 28 und = .bool (!(e.same f)) ∧ I106 a b i ⟨T', H1, []⟩ := by
    refine ⟨?s3, ?e3, ?i3⟩
    case e3 =>
      simp [xopsL, f106.r6, kindO, un, hfr, hiso, hdc, hla, hlb, he, hf, hte, htf, h, hib, gl, g0, g1, g2, g14, g15, exec, xops, xoper, want, putT, xop, ev, bin, intBin, isShift, okv, asNat_nat, one, cellsOf, -List.getD_eq_getElem?_getD, rd_ne, rd_eq, List.length_set]
      rfl
    case i3 => simp [I106, hxa, hxb, gl, g0, g1, g2, g14, g15, exec, xops, xoper, want, putT, xop, ev, bin, intBin, isShift, okv, asNat_nat, takeAt, one, cellsOf, cellsAt_new, setCs_new, set_new, putAt, -List.getD_eq_getElem?_getD, rd_ne, rd_eq, List.length_set, List.getD_cons_zero, List.getD_cons_succ]
  obtain ⟨T2, a1, a28, _, al, a0, a1', a2, a14, a15⟩ := ask
  simp only at a28 al a0 a1' a2 a14 a15
  have e2 : exec TE call k (.cond (.t 16) (.skip) (.exit 0)) ⟨T1, H1, []⟩ = some (.norm, ⟨T1, H1, []⟩) := by simp [exec, ev, g16, -List.getD_eq_getElem?_getD]
  have e3 : exec TE call k (.region f106.r5) ⟨T1, H1, []⟩ = some (.norm, ⟨(T1.set 17 (.int .i64 (i : Int))).set 7 (.int .i64 (i : Int)), H1, []⟩) := by
    simp [f106.r5, gl, g0, g1, g2, g14, g15, exec, xops, xoper, want, putT, xop, ev, bin, intBin, isShift, okv, asNat_nat, takeAt, one, cellsOf, cellsAt_new, setCs_new, set_new, putAt, -List.getD_eq_getElem?_getD, rd_ne, rd_eq, List.length_set, List.getD_cons_zero, List.getD_cons_succ]
  have e4 : exec TE call k (.regionD f106.r6 [0, 0, 0, 6, 14, 0, 0, 96, 224, 511, 1023]) ⟨(T1.set 17 (.int .i64 (i : Int))).set 7 (.int .i64 (i : Int)), H1, []⟩ = some (.norm, ⟨T2, H1, []⟩) := runD_of_L a1
  cases hsm : e.same f with
  | true =>
    left
    refine ⟨rfl, ⟨(T2.set 29 (.int .i64 ((i : Int) + 1))).set 15 (.int .i64 ((i : Int) + 1)), H1, []⟩, ?_, ?_⟩
    · have e5 : exec TE call k (.cond (.t 28) (.seq (.region f106.r7) (.ret)) (.skip)) ⟨T2, H1, []⟩ = some (.norm, ⟨T2, H1, []⟩) := by simp [exec, ev, a28, hsm, -List.getD_eq_getElem?_getD]
      unfold body106
      rw [exec_seq_norm e1, exec_seq_norm e2, exec_seq_norm (exec_block_norm (by rw [exec_seq_norm e3, exec_seq_norm e4, e5]))]
      simp [f106.r8, hw2, al, a15, exec, xops, xoper, want, putT, xop, ev, bin, intBin, isShift, okv, asNat_nat, takeAt, one, cellsOf, cellsAt_new, setCs_new, set_new, putAt, -List.getD_eq_getElem?_getD, rd_ne, rd_eq, List.length_set, List.getD_cons_zero, List.getD_cons_succ]
    · simp [I106, al, a0, a1', a2, a14, a15, exec, xops, xoper, want, putT, xop, ev, bin, intBin, isShift, okv, asNat_nat, takeAt, one, cellsOf, cellsAt_new, setCs_new, set_new, putAt, -List.getD_eq_getElem?_getD, rd_ne, rd_eq, List.length_set, List.getD_cons_zero, List.getD_cons_succ]
  | false =>
    right
    refine ⟨rfl, ⟨T2.set 6 (.bool false), H1, []⟩, ?_, ?_⟩
    · have e5 : exec TE call k (.cond (.t 28) (.seq (.region f106.r7) (.ret)) (.skip)) ⟨T2, H1, []⟩ = some (.ret, ⟨T2.set 6 (.bool false), H1, []⟩) := by simp [f106.r7, a28, hsm, exec, xops, xoper, want, putT, xop, ev, bin, intBin, isShift, okv, asNat_nat, takeAt, one, cellsOf, cellsAt_new, setCs_new, set_new, putAt, -List.getD_eq_getElem?_getD, rd_ne, rd_eq, List.length_set, List.getD_cons_zero, List.getD_cons_succ]
      unfold body106
      rw [exec_seq_norm e1, exec_seq_norm e2]
      have : exec TE call k (.block 1 (.seq (.region f106.r5) (.seq (.regionD f106.r6 [0, 0, 0, 6, 14, 0, 0, 96, 224, 511, 1023]) (.cond (.t 28) (.seq (.region f106.r7) (.ret)) (.skip))))) ⟨T1, H1, []⟩ = some (.ret, ⟨T2.set 6 (.bool false), H1, []⟩) :=
        exec_block_ret (by rw [exec_seq_norm e3, exec_seq_norm e4, e5])
      exact exec_seq_ret this
    · simp [F106, al, exec, xops, xoper, want, putT, xop, ev, bin, intBin, isShift, okv, asNat_nat, takeAt, one, cellsOf, cellsAt_new, setCs_new, set_new, putAt, -List.getD_eq_getElem?_getD, rd_ne, rd_eq, List.length_set, List.getD_cons_zero, List.getD_cons_succ]

def Des.All2 (p : De → De → Prop) : Des → Des → Prop
  | .cons a r, .cons b s => p a b ∧ r.All2 p s
  | _, _ => True

theorem loop106 {call : CallF} {k : Nat} {a b : Des} (hlen : a.len = b.len) (hlb : a.len + 1 < 2 ^ 63) : ∀ (r t : Des) (n i : Nat), r.len < n → a.cells.drop (i * 20) = r.cells → b.cells.drop (i * 20) = t.cells → i + r.len = a.len → r.len = t.len → r.All2 (SameDC call 107) t →
    ∀ s, I106 a b i s → (r.same t = true ∧ ∃ s', loopN (exec TE call k body106) n s = some (.exit 0, s') ∧ I106 a b a.len s') ∨ (r.same t = false ∧ ∃ s', loopN (exec TE call k body106) n s = some (.ret, s') ∧ F106 s')
  | _, _, 0, _, hn, _, _, _, _, _ => by omega
  | .nil _, .cons _ _, n + 1, i, hn, hcs, hct, hl1, hl2, hall => by simp [Des.len] at hl2
  | .cons _ _, .nil _, n + 1, i, hn, hcs, hct, hl1, hl2, hall => by simp [Des.len] at hl2
  | .nil z, .nil z', n + 1, i, hn, hcs, hct, hl1, hl2, hall => by
    intro s hs
    simp only [Des.len, Nat.add_zero] at hl1
    subst hl1
    obtain ⟨s', h1, h2⟩ := exit106 (call := call) (k := k) hs (by omega)
    exact .inl ⟨by simp [Des.same], s', by simp [loopN, h1], h2⟩
  | .cons e r, .cons f t, n + 1, i, hn, hcs, hct, hl1, hl2, hall => by
    intro s hs
    simp only [Des.len] at hl1 hl2 hn
    simp only [Des.cells] at hcs hct
    rcases step106 (call := call) (k := k) hs (by omega) hlen e f r.cells t.cells hcs hct (by omega) hall.1 with ⟨hsm, s', h1, h2⟩ | ⟨hsm, s', h1, h2⟩
    · have hd : a.cells.drop ((i + 1) * 20) = r.cells := by
        rw [Nat.add_mul, Nat.one_mul, ← List.drop_drop, hcs, List.drop_left' (De.enc_length e)]
      have hd' : b.cells.drop ((i + 1) * 20) = t.cells := by
        rw [Nat.add_mul, Nat.one_mul, ← List.drop_drop, hct, List.drop_left' (De.enc_length f)]
      rcases loop106 (call := call) (k := k) hlen hlb r t n (i + 1) (by omega) hd hd' (by omega) (by omega) hall.2 s' h2 with ⟨h3, s'', h4, h5⟩ | ⟨h3, s'', h4, h5⟩
      · exact .inl ⟨by simp [Des.same, hsm, h3], s'', by simp [loopN, h1, h4], h5⟩
      · exact .inr ⟨by simp [Des.same, hsm, h3], s'', by simp [loopN, h1, h4], h5⟩
    · exact .inr ⟨by simp [Des.same, hsm], s', by simp [loopN, h1], h2⟩

theorem Des.same_ne {a b : Des} (h : a.len ≠ b.len) : a.same b = false := by
  cases hs : a.same b with
  | false => rfl
  | true => exact absurd (Des.same_len hs) h

theorem run106 {n : Nat} (a b : Des) (hln : a.len < n) (hb : a.len < 2 ^ 61) (hall : a.All2 (SameDC (callN TE n) 107) b) : callN TE (n + 1) 106 [a.x, b.x, .fn (.func 107) [] []] [] = some (.ret (.bool (a.same b)) []) := by
  rw [callN_eq (xf := f106) rfl]
  have hf : frame0 f106 [a.x, b.x, .fn (.func 107) [] []] = [a.x, b.x, .fn (.func 107) [] [], und, und, und, und, und, und, und, und, und, und, und, und, und, und, und, und, und, und, und, und, und, und, und, und, und, und, und] := rfl
  have hbd : f106.body = .seq (.region f106.r0) (.seq (.seq (.region f106.r1) (.cond (.t 12) (.seq (.region f106.r2) (.ret)) (.skip))) (.seq (.seq (.region f106.r3) (.block 0 (.loop body106))) (.seq (.region f106.r9) (.ret)))) := rfl
  have hla := Des.lenOf_x a
  have hlb := Des.lenOf_x b
  have a0 : exec TE (callN TE n) n (.region f106.r0) ⟨[a.x, b.x, .fn (.func 107) [] [], und, und, und, und, und, und, und, und, und, und, und, und, und, und, und, und, und, und, und, und, und, und, und, und, und, und, und], [], []⟩ = some (.norm, ⟨[a.x, b.x, .fn (.func 107) [] [], und, und, und, .bool false, und, und, und, und, und, und, und, und, und, und, und, und, und, und, und, und, und, und, und, und, und, und, und], [], []⟩) := rfl
  have a1 : exec TE (callN TE n) n (.region f106.r1) ⟨[a.x, b.x, .fn (.func 107) [] [], und, und, und, .bool false, und, und, und, und, und, und, und, und, und, und, und, und, und, und, und, und, und, und, und, und, und, und, und], [], []⟩ = some (.norm, ⟨[a.x, b.x, .fn (.func 107) [] [], und, und, und, .bool false, und, a.x, .int .i64 (a.len : Int), b.x, .int .i64 (b.len : Int), .bool ((a.len : Int) != (b.len : Int)), und, und, und, und, und, und, und, und, und, und, und, und, und, und, und, und, und], [], []⟩) := by
    simp [f106.r1, hla, hlb, exec, xops, xoper, want, putT, xop, ev, bin, intBin, isShift, okv, asNat_nat, takeAt, one, cellsOf, cellsAt_new, setCs_new, set_new, putAt, -List.getD_eq_getElem?_getD, rd_ne, rd_eq, List.length_set, List.getD_cons_zero, List.getD_cons_succ]
  by_cases hlen : a.len = b.len
  · have a2 : exec TE (callN TE n) n (.cond (.t 12) (.seq (.region f106.r2) (.ret)) (.skip)) ⟨[a.x, b.x, .fn (.func 107) [] [], und, und, und, .bool false, und, a.x, .int .i64 (a.len : Int), b.x, .int .i64 (b.len : Int), .bool ((a.len : Int) != (b.len : Int)), und, und, und, und, und, und, und, und, und, und, und, und, und, und, und, und, und], [], []⟩ = some (.norm, ⟨[a.x, b.x, .fn (.func 107) [] [], und, und, und, .bool false, und, a.x, .int .i64 (a.len : Int), b.x, .int .i64 (b.len : Int), .bool ((a.len : Int) != (b.len : Int)), und, und, und, und, und, und, und, und, und, und, und, und, und, und, und, und, und], [], []⟩) := by
      simp [hlen, exec, xops, xoper, want, putT, xop, ev, bin, intBin, isShift, okv, asNat_nat, takeAt, one, cellsOf, cellsAt_new, setCs_new, set_new, putAt, -List.getD_eq_getElem?_getD, rd_ne, rd_eq, List.length_set, List.getD_cons_zero, List.getD_cons_succ]
    have a3 : exec TE (callN TE n) n (.region f106.r3) ⟨[a.x, b.x, .fn (.func 107) [] [], und, und, und, .bool false, und, a.x, .int .i64 (a.len : Int), b.x, .int .i64 (b.len : Int), .bool ((a.len : Int) != (b.len : Int)), und, und, und, und, und, und, und, und, und, und, und, und, und, und, und, und, und], [], []⟩ = some (.norm, ⟨[a.x, b.x, .fn (.func 107) [] [], und, und, und, .bool false, und, a.x, .int .i64 (a.len : Int), b.x, .int .i64 (b.len : Int), .bool ((a.len : Int) != (b.len : Int)), a.x, .int .i64 (a.len : Int), .int .i64 0, und, und, und, und, und, und, und, und, und, und, und, und, und, und], [], []⟩) := by
      simp [f106.r3, hla, hlb, exec, xops, xoper, want, putT, xop, ev, bin, intBin, isShift, okv, asNat_nat, takeAt, one, cellsOf, cellsAt_new, setCs_new, set_new, putAt, -List.getD_eq_getElem?_getD, rd_ne, rd_eq, List.length_set, List.getD_cons_zero, List.getD_cons_succ]
    rcases loop106 (call := callN TE n) (k := n) hlen (by omega) a b n 0 hln (by simp) (by simp) (by simp) hlen hall
      ⟨[a.x, b.x, .fn (.func 107) [] [], und, und, und, .bool false, und, a.x, .int .i64 (a.len : Int), b.x, .int .i64 (b.len : Int), .bool ((a.len : Int) != (b.len : Int)), a.x, .int .i64 (a.len : Int), .int .i64 0, und, und, und, und, und, und, und, und, und, und, und, und, und, und], [], []⟩ ⟨rfl, rfl, rfl, rfl, rfl, rfl, rfl⟩ with ⟨hsm, ⟨T2, H2, D2⟩, h1, rfl, hl, _⟩ | ⟨hsm, ⟨T2, H2, D2⟩, h1, rfl, hl, h6⟩
    · simp only at hl
      rw [hsm]
      refine runF_iso (T := T2.set 6 (.bool true)) (K := H2) (vs := [.bool true]) (vis := []) rfl ?_ ?_ (frz_depth rfl _)
      · rw [hf, hbd, exec_seq_norm a0, exec_seq_norm (by rw [exec_seq_norm a1, a2]), exec_seq_norm (by rw [exec_seq_norm a3]; exact exec_block_loop h1)]
        simp [f106.r9, hl, exec, xops, xoper, want, putT, xop, ev, bin, intBin, isShift, okv, asNat_nat, takeAt, one, cellsOf, cellsAt_new, setCs_new, set_new, putAt, -List.getD_eq_getElem?_getD, rd_ne, rd_eq, List.length_set, List.getD_cons_zero, List.getD_cons_succ]
      · simp [f106, resOf, hl, exec, xops, xoper, want, putT, xop, ev, bin, intBin, isShift, okv, asNat_nat, takeAt, one, cellsOf, cellsAt_new, setCs_new, set_new, putAt, -List.getD_eq_getElem?_getD, rd_ne, rd_eq, List.length_set, List.getD_cons_zero, List.getD_cons_succ]
    · simp only at hl h6
      rw [hsm]
      refine runF_iso (T := T2) (K := H2) (vs := [.bool false]) (vis := []) rfl ?_ ?_ (frz_depth rfl _)
      · rw [hf, hbd, exec_seq_norm a0, exec_seq_norm (by rw [exec_seq_norm a1, a2])]
        exact exec_seq_ret (by rw [exec_seq_norm a3]; exact exec_block_ret (by simpa only [exec] using h1))
      · simp [f106, resOf, hl, h6, exec, xops, xoper, want, putT, xop, ev, bin, intBin, isShift, okv, asNat_nat, takeAt, one, cellsOf, cellsAt_new, setCs_new, set_new, putAt, -List.getD_eq_getElem?_getD, rd_ne, rd_eq, List.length_set, List.getD_cons_zero, List.getD_cons_succ]
  · rw [Des.same_ne hlen]
    have hne : ((a.len : Int) != (b.len : Int)) = true := by simp; omega
    refine runF_iso (T := [a.x, b.x, .fn (.func 107) [] [], und, und, und, .bool false, und, a.x, .int .i64 (a.len : Int), b.x, .int .i64 (b.len : Int), .bool ((a.len : Int) != (b.len : Int)), und, und, und, und, und, und, und, und, und, und, und, und, und, und, und, und, und]) (K := []) (vs := [.bool false]) (vis := []) rfl ?_ ?_ (frz_depth rfl _)
    · rw [hf, hbd, exec_seq_norm a0]
      refine exec_seq_ret ?_
      rw [exec_seq_norm a1]
      simp [f106.r2, hne, exec, xops, xoper, want, putT, xop, ev, bin, intBin, isShift, okv, asNat_nat, takeAt, one, cellsOf, cellsAt_new, setCs_new, set_new, putAt, -List.getD_eq_getElem?_getD, rd_ne, rd_eq, List.length_set, List.getD_cons_zero, List.getD_cons_succ]
    · simp [f106, resOf, exec, xops, xoper, want, putT, xop, ev, bin, intBin, isShift, okv, asNat_nat, takeAt, one, cellsOf, cellsAt_new, setCs_new, set_new, putAt, -List.getD_eq_getElem?_getD, rd_ne, rd_eq, List.length_set, List.getD_cons_zero, List.getD_cons_succ]

theorem run107 {n : Nat} (e f : De) (c1 : SameC (callN TE n) 49 e.lo f.lo) (c2 : SameC (callN TE n) 49 e.hi f.hi) : SameDC (callN TE (n + 1)) 107 e f := by
  unfold SameDC
  rw [callN_eq (xf := f107) rfl]
  obtain ⟨da, input, name, ty, len, range, ⟨op, eat, bb, ii, ff, en, args⟩, ⟨hop, heat, hbb, hii, hff, hen, hargs⟩⟩ := e
  obtain ⟨da2, input2, name2, ty2, len2, range2, ⟨op2, eat2, bb2, ii2, ff2, en2, args2⟩, ⟨hop2, heat2, hbb2, hii2, hff2, hen2, hargs2⟩⟩ := f
  simp only [SameC, Ex.enc] at c1 c2
  have hd1 : ∀ H, docall TE (callN TE n) 49 [.agg [.int .u8 op, .int .i64 eat, .bool bb, .int .i32 ii, .int .u64 ff, .str en, args.ptr args.cells], .agg [.int .u8 op2, .int .i64 eat2, .bool bb2, .int .i32 ii2, .int .u64 ff2, .str en2, args2.ptr args2.cells]] H =
      some (.ret (.bool ((Ex.mk op eat bb ii ff en args).same (Ex.mk op2 eat2 bb2 ii2 ff2 en2 args2))) H) := fun H => docall_iso (E := TE) rfl rfl (by simp [bares, leafs]) (by simp) c1 H
  have hd2 : ∀ H, docall TE (callN TE n) 49 [.agg [.int .u8 hop, .int .i64 heat, .bool hbb, .int .i32 hii, .int .u64 hff, .str hen, hargs.ptr hargs.cells], .agg [.int .u8 hop2, .int .i64 heat2, .bool hbb2, .int .i32 hii2, .int .u64 hff2, .str hen2, hargs2.ptr hargs2.cells]] H =
      some (.ret (.bool ((Ex.mk hop heat hbb hii hff hen hargs).same (Ex.mk hop2 heat2 hbb2 hii2 hff2 hen2 hargs2))) H) := fun H => docall_iso (E := TE) rfl rfl (by simp [bares, leafs]) (by simp) c2 H
  have hf : frame0 f107 [.agg (De.mk da input name ty len range (.mk op eat bb ii ff en args) (.mk hop heat hbb hii hff hen hargs)).enc, .agg (De.mk da2 input2 name2 ty2 len2 range2 (.mk op2 eat2 bb2 ii2 ff2 en2 args2) (.mk hop2 heat2 hbb2 hii2 hff2 hen2 hargs2)).enc] = [.agg (De.mk da input name ty len range (.mk op eat bb ii ff en args) (.mk hop heat hbb hii hff hen hargs)).enc, .agg (De.mk da2 input2 name2 ty2 len2 range2 (.mk op2 eat2 bb2 ii2 ff2 en2 args2) (.mk hop2 heat2 hbb2 hii2 hff2 hen2 hargs2)).enc, und, und, und, und, und, und, und, und, und, und, und, und, und, und, und, und, und, und, und, und, und, und, und, und, und, und, und, und, und, und, und, und, und, und, und, und, und, und, und, und, und, und, und, und, und, und, und, und, und, und] := rfl
  have key : ∃ T, exec TE (callN TE n) n f107.body ⟨[.agg (De.mk da input name ty len range (.mk op eat bb ii ff en args) (.mk hop heat hbb hii hff hen hargs)).enc, .agg (De.mk da2 input2 name2 ty2 len2 range2 (.mk op2 eat2 bb2 ii2 ff2 en2 args2) (.mk hop2 heat2 hbb2 hii2 hff2 hen2 hargs2)).enc, und, und, und, und, und, und, und, und, und, und, und, und, und, und, und, und, und, und, und, und, und, und, und, und, und, und, und, und, und, und, und, und, und, und, und, und, und, und, und, und, und, und, und, und, und, und, und, und, und, und], [], []⟩ = some (.ret, ⟨T, [.tcells (De.mk da input name ty len range (.mk op eat bb ii ff en args) (.mk hop heat hbb hii hff hen hargs)).enc 122 true, .tcells (De.mk da2 input2 name2 ty2 len2 range2 (.mk op2 eat2 bb2 ii2 ff2 en2 args2) (.mk hop2 heat2 hbb2 hii2 hff2 hen2 hargs2)).enc 122 true], []⟩) ∧
      T.getD 4 und = .bool ((De.mk da input name ty len range (.mk op eat bb ii ff en args) (.mk hop heat hbb hii hff hen hargs)).same (De.mk da2 input2 name2 ty2 len2 range2 (.mk op2 eat2 bb2 ii2 ff2 en2 args2) (.mk hop2 heat2 hbb2 hii2 hff2 hen2 hargs2))) := by
    simp only [De.enc, Ex.enc, De.same, List.cons_append, List.nil_append]
    by_cases q1 : input = input2
    · by_cases q2 : name = name2
      · by_cases q3 : ty = ty2
        · by_cases q4 : len = len2
          · by_cases q5 : range = range2
            · cases b1 : (Ex.mk op eat bb ii ff en args).same (Ex.mk op2 eat2 bb2 ii2 ff2 en2 args2) with
              | true =>
                refine ⟨?s4, ?e4, ?i4⟩
                case e4 =>
                  simp [f107, f107.r0, f107.r1, q1, q2, q3, q4, q5, b1, xeq, strBin, cellsAt, hd1, hd2, List.getElem?_set, exec, xops, xoper, want, putT, xop, ev, bin, intBin, isShift, okv, asNat_nat, takeAt, one, cellsOf, cellsAt_new, setCs_new, set_new, putAt, -List.getD_eq_getElem?_getD, rd_ne, rd_eq, List.length_set, List.getD_cons_zero, List.getD_cons_succ]
                  rfl
                case i4 => simp [q1, q2, q3, q4, q5, b1, exec, xops, xoper, want, putT, xop, ev, bin, intBin, isShift, okv, asNat_nat, takeAt, one, cellsOf, cellsAt_new, setCs_new, set_new, putAt, -List.getD_eq_getElem?_getD, rd_ne, rd_eq, List.length_set, List.getD_cons_zero, List.getD_cons_succ]
              | false =>
                refine ⟨?s5, ?e5, ?i5⟩
                case e5 =>
                  simp [f107, f107.r0, f107.r1, q1, q2, q3, q4, q5, b1, xeq, strBin, cellsAt, hd1, hd2, List.getElem?_set, exec, xops, xoper, want, putT, xop, ev, bin, intBin, isShift, okv, asNat_nat, takeAt, one, cellsOf, cellsAt_new, setCs_new, set_new, putAt, -List.getD_eq_getElem?_getD, rd_ne, rd_eq, List.length_set, List.getD_cons_zero, List.getD_cons_succ]
                  rfl
                case i5 => simp [q1, q2, q3, q4, q5, b1, exec, xops, xoper, want, putT, xop, ev, bin, intBin, isShift, okv, asNat_nat, takeAt, one, cellsOf, cellsAt_new, setCs_new, set_new, putAt, -List.getD_eq_getElem?_getD, rd_ne, rd_eq, List.length_set, List.getD_cons_zero, List.getD_cons_succ]
            · have hbn : (range == range2) = false := beq_false_of_ne q5
              refine ⟨?s6, ?e6, ?i6⟩
              case e6 =>
                simp [f107, f107.r0, f107.r1, q1, q2, q3, q4, q5, hbn, xeq, strBin, cellsAt, hd1, hd2, List.getElem?_set, exec, xops, xoper, want, putT, xop, ev, bin, intBin, isShift, okv, asNat_nat, takeAt, one, cellsOf, cellsAt_new, setCs_new, set_new, putAt, -List.getD_eq_getElem?_getD, rd_ne, rd_eq, List.length_set, List.getD_cons_zero, List.getD_cons_succ]
                rfl
              case i6 => simp [q1, q2, q3, q4, q5, hbn, exec, xops, xoper, want, putT, xop, ev, bin, intBin, isShift, okv, asNat_nat, takeAt, one, cellsOf, cellsAt_new, setCs_new, set_new, putAt, -List.getD_eq_getElem?_getD, rd_ne, rd_eq, List.length_set, List.getD_cons_zero, List.getD_cons_succ]
          · have hbn : (len == len2) = false := beq_false_of_ne q4
            refine ⟨?s7, ?e7, ?i7⟩
            case e7 =>
              simp [f107, f107.r0, f107.r1, q1, q2, q3, q4, hbn, xeq, strBin, cellsAt, hd1, hd2, List.getElem?_set, exec, xops, xoper, want, putT, xop, ev, bin, intBin, isShift, okv, asNat_nat, takeAt, one, cellsOf, cellsAt_new, setCs_new, set_new, putAt, -List.getD_eq_getElem?_getD, rd_ne, rd_eq, List.length_set, List.getD_cons_zero, List.getD_cons_succ]
              rfl
            case i7 => simp [q1, q2, q3, q4, hbn, exec, xops, xoper, want, putT, xop, ev, bin, intBin, isShift, okv, asNat_nat, takeAt, one, cellsOf, cellsAt_new, setCs_new, set_new, putAt, -List.getD_eq_getElem?_getD, rd_ne, rd_eq, List.length_set, List.getD_cons_zero, List.getD_cons_succ]
        · have hbn : (ty == ty2) = false := beq_false_of_ne q3
          refine ⟨?s8, ?e8, ?i8⟩
          case e8 =>
            simp [f107, f107.r0, f107.r1, q1, q2, q3, hbn, xeq, strBin, cellsAt, hd1, hd2, List.getElem?_set, exec, xops, xoper, want, putT, xop, ev, bin, intBin, isShift, okv, asNat_nat, takeAt, one, cellsOf, cellsAt_new, setCs_new, set_new, putAt, -List.getD_eq_getElem?_getD, rd_ne, rd_eq, List.length_set, List.getD_cons_zero, List.getD_cons_succ]
            rfl
          case i8 => simp [q1, q2, q3, hbn, exec, xops, xoper, want, putT, xop, ev, bin, intBin, isShift, okv, asNat_nat, takeAt, one, cellsOf, cellsAt_new, setCs_new, set_new, putAt, -List.getD_eq_getElem?_getD, rd_ne, rd_eq, List.length_set, List.getD_cons_zero, List.getD_cons_succ]
      · have hbn : (name == name2) = false := beq_false_of_ne q2
        refine ⟨?s9, ?e9, ?i9⟩
        case e9 =>
          simp [f107, f107.r0, f107.r1, q1, q2, hbn, xeq, strBin, cellsAt, hd1, hd2, List.getElem?_set, exec, xops, xoper, want, putT, xop, ev, bin, intBin, isShift, okv, asNat_nat, takeAt, one, cellsOf, cellsAt_new, setCs_new, set_new, putAt, -List.getD_eq_getElem?_getD, rd_ne, rd_eq, List.length_set, List.getD_cons_zero, List.getD_cons_succ]
          rfl
        case i9 => simp [q1, q2, hbn, exec, xops, xoper, want, putT, xop, ev, bin, intBin, isShift, okv, asNat_nat, takeAt, one, cellsOf, cellsAt_new, setCs_new, set_new, putAt, -List.getD_eq_getElem?_getD, rd_ne, rd_eq, List.length_set, List.getD_cons_zero, List.getD_cons_succ]
    · have hbn : (input == input2) = false := beq_false_of_ne q1
      refine ⟨?s10, ?e10, ?i10⟩
      case e10 =>
        simp [f107, f107.r0, f107.r1, q1, hbn, xeq, strBin, cellsAt, hd1, hd2, List.getElem?_set, exec, xops, xoper, want, putT, xop, ev, bin, intBin, isShift, okv, asNat_nat, takeAt, one, cellsOf, cellsAt_new, setCs_new, set_new, putAt, -List.getD_eq_getElem?_getD, rd_ne, rd_eq, List.length_set, List.getD_cons_zero, List.getD_cons_succ]
        rfl
      case i10 => simp [q1, hbn, exec, xops, xoper, want, putT, xop, ev, bin, intBin, isShift, okv, asNat_nat, takeAt, one, cellsOf, cellsAt_new, setCs_new, set_new, putAt, -List.getD_eq_getElem?_getD, rd_ne, rd_eq, List.length_set, List.getD_cons_zero, List.getD_cons_succ]
  obtain ⟨T, h1, h4⟩ := key
  refine runF_iso (T := T) (K := _) (vs := [.bool ((De.mk da input name ty len range (.mk op eat bb ii ff en args) (.mk hop heat hbb hii hff hen hargs)).same (De.mk da2 input2 name2 ty2 len2 range2 (.mk op2 eat2 bb2 ii2 ff2 en2 args2) (.mk hop2 heat2 hbb2 hii2 hff2 hen2 hargs2)))]) (vis := []) rfl (by rw [hf]; exact h1) ?_ (frz_depth rfl _)
  simp [f107, resOf, h4, -List.getD_eq_getElem?_getD]

theorem sameD_ok (e f : De) (n : Nat) (hn : 2 * e.sz < n) (hb : e.sz < 2 ^ 60) : SameDC (callN TE n) 107 e f := by
  obtain ⟨n, rfl⟩ : ∃ k, n = k + 1 := ⟨n - 1, by omega⟩
  simp only [De.sz] at hn hb
  exact run107 e f (sameE_ok _ _ n (by omega) (by omega)) (sameE_ok _ _ n (by omega) (by omega))
theorem sameD_all : ∀ (a b : Des) (n : Nat), 2 * a.sz ≤ n → a.sz < 2 ^ 60 → a.All2 (SameDC (callN TE n) 107) b
  | .nil _, _, _, _, _ => by simp [Des.All2]
  | .cons e r, .nil _, n, hn, hb => by simp [Des.All2]
  | .cons e r, .cons f t, n, hn, hb => by
    simp only [Des.sz] at hn hb
    exact ⟨sameD_ok e f n (by omega) (by omega), sameD_all r t n (by omega) (by omega)⟩
theorem sameDs_ok (a b : Des) (n : Nat) (hn : 2 * a.sz < n) (hb : a.sz < 2 ^ 60) : callN TE n 106 [a.x, b.x, .fn (.func 107) [] []] [] = some (.ret (.bool (a.same b)) []) := by
  obtain ⟨n, rfl⟩ : ∃ k, n = k + 1 := ⟨n - 1, by omega⟩
  have := Des.len_le a
  exact run106 a b (by omega) (by omega) (sameD_all a b n (by omega) hb)

end Go.Proofs.YtnifjgdhgnmhmaaGreatDoor
namespace Go.Proofs.YtnifjgdhgnmhmaaGreatDoor
open Go Go.X
set_option linter.unusedSimpArgs false
set_option linter.unusedVariables false

def Pr.same (p q : Pr) : Bool := decide (p.ticks = q.ticks) && ((toDes p.z p.decls).same (toDes q.z q.decls) && (p.init.same q.init && p.step.same q.step))

theorem leafs_pr (p : Pr) : leafs p.enc = true := by simp [Pr.enc, leafs, ← toDes_x, Des.leaf_x]
theorem oneCell_leaf {x : XV} (h : leaf x = true) : oneCell x = true := by
  cases x <;> simp [leaf] at h <;> rfl

theorem run48 {n : Nat} (p q : Pr) (c1 : callN TE n 106 [(toDes p.z p.decls).x, (toDes q.z q.decls).x, .fn (.func 107) [] []] [] = some (.ret (.bool ((toDes p.z p.decls).same (toDes q.z q.decls))) []))
    (c2 : callN TE n 108 [p.init.x, q.init.x, .fn (.func 109) [] []] [] = some (.ret (.bool (p.init.same q.init)) [])) (c3 : callN TE n 108 [p.step.x, q.step.x, .fn (.func 109) [] []] [] = some (.ret (.bool (p.step.same q.step)) [])) :
    callN TE (n + 1) 48 [.agg p.enc, .agg q.enc] [] = some (.ret (.bool (p.same q)) []) := by
  rw [callN_eq (xf := f48) rfl]
  have hd1 : ∀ H, docall TE (callN TE n) 106 [desX p.z p.decls, desX q.z q.decls, .fn (.func 107) [] []] H = some (.ret (.bool ((toDes p.z p.decls).same (toDes q.z q.decls))) H) := fun H => by
    rw [← toDes_x, ← toDes_x]
    exact docall_iso (E := TE) rfl rfl (by simp [bares]) (by simp) c1 H
  have hd2 : ∀ H, docall TE (callN TE n) 108 [p.init.x, q.init.x, .fn (.func 109) [] []] H = some (.ret (.bool (p.init.same q.init)) H) := fun H => docall_iso (E := TE) rfl rfl (by simp [bares]) (by simp) c2 H
  have hd3 : ∀ H, docall TE (callN TE n) 108 [p.step.x, q.step.x, .fn (.func 109) [] []] H = some (.ret (.bool (p.step.same q.step)) H) := fun H => docall_iso (E := TE) rfl rfl (by simp [bares]) (by simp) c3 H
  have hf : frame0 f48 [.agg p.enc, .agg q.enc] = [.agg p.enc, .agg q.enc, und, und, und, und, und, und, und, und, und, und, und, und, und, und, und, und, und, und, und, und, und, und, und, und, und, und, und, und, und] := rfl
  have key : ∃ T, exec TE (callN TE n) n f48.body ⟨[.agg p.enc, .agg q.enc, und, und, und, und, und, und, und, und, und, und, und, und, und, und, und, und, und, und, und, und, und, und, und, und, und, und, und, und, und], [], []⟩ = some (.ret, ⟨T, [.tcells p.enc 66 true, .tcells q.enc 66 true], []⟩) ∧ T.getD 4 und = .bool (p.same q) := by
    simp only [Pr.enc, Pr.same]
    by_cases q1 : p.ticks = q.ticks
    · cases b1 : (toDes p.z p.decls).same (toDes q.z q.decls) with
      | true =>
        cases b2 : p.init.same q.init with
        | true =>
          refine ⟨?s1, ?e1, ?i1⟩
          case e1 =>
            simp [f48, f48.r0, f48.r1, q1, b1, b2, xeq, strBin, cellsAt, hd1, hd2, hd3, List.getElem?_set, exec, xops, xoper, want, putT, xop, ev, bin, intBin, isShift, okv, asNat_nat, takeAt, one, cellsOf, cellsAt_new, setCs_new, set_new, putAt, -List.getD_eq_getElem?_getD, rd_ne, rd_eq, List.length_set, List.getD_cons_zero, List.getD_cons_succ]
            rfl
          case i1 => simp [q1, b1, b2, exec, xops, xoper, want, putT, xop, ev, bin, intBin, isShift, okv, asNat_nat, takeAt, one, cellsOf, cellsAt_new, setCs_new, set_new, putAt, -List.getD_eq_getElem?_getD, rd_ne, rd_eq, List.length_set, List.getD_cons_zero, List.getD_cons_succ]
        | false =>
          refine ⟨?s2, ?e2, ?i2⟩
          case e2 =>
            simp [f48, f48.r0, f48.r1, q1, b1, b2, xeq, strBin, cellsAt, hd1, hd2, hd3, List.getElem?_set, exec, xops, xoper, want, putT, xop, ev, bin, intBin, isShift, okv, asNat_nat, takeAt, one, cellsOf, cellsAt_new, setCs_new, set_new, putAt, -List.getD_eq_getElem?_getD, rd_ne, rd_eq, List.length_set, List.getD_cons_zero, List.getD_cons_succ]
            rfl
          case i2 => simp [q1, b1, b2, exec, xops, xoper, want, putT, xop, ev, bin, intBin, isShift, okv, asNat_nat, takeAt, one, cellsOf, cellsAt_new, setCs_new, set_new, putAt, -List.getD_eq_getElem?_getD, rd_ne, rd_eq, List.length_set, List.getD_cons_zero, List.getD_cons_succ]
      | false =>
        refine ⟨?s3, ?e3, ?i3⟩
        case e3 =>
          simp [f48, f48.r0, f48.r1, q1, b1, xeq, strBin, cellsAt, hd1, hd2, hd3, List.getElem?_set, exec, xops, xoper, want, putT, xop, ev, bin, intBin, isShift, okv, asNat_nat, takeAt, one, cellsOf, cellsAt_new, setCs_new, set_new, putAt, -List.getD_eq_getElem?_getD, rd_ne, rd_eq, List.length_set, List.getD_cons_zero, List.getD_cons_succ]
          rfl
        case i3 => simp [q1, b1, exec, xops, xoper, want, putT, xop, ev, bin, intBin, isShift, okv, asNat_nat, takeAt, one, cellsOf, cellsAt_new, setCs_new, set_new, putAt, -List.getD_eq_getElem?_getD, rd_ne, rd_eq, List.length_set, List.getD_cons_zero, List.getD_cons_succ]
    · have hbn : (p.ticks == q.ticks) = false := beq_false_of_ne q1
      refine ⟨?s4, ?e4, ?i4⟩
      case e4 =>
        simp [f48, f48.r0, f48.r1, q1, hbn, xeq, strBin, cellsAt, hd1, hd2, hd3, List.getElem?_set, exec, xops, xoper, want, putT, xop, ev, bin, intBin, isShift, okv, asNat_nat, takeAt, one, cellsOf, cellsAt_new, setCs_new, set_new, putAt, -List.getD_eq_getElem?_getD, rd_ne, rd_eq, List.length_set, List.getD_cons_zero, List.getD_cons_succ]
        rfl
      case i4 => simp [q1, hbn, exec, xops, xoper, want, putT, xop, ev, bin, intBin, isShift, okv, asNat_nat, takeAt, one, cellsOf, cellsAt_new, setCs_new, set_new, putAt, -List.getD_eq_getElem?_getD, rd_ne, rd_eq, List.length_set, List.getD_cons_zero, List.getD_cons_succ]
  obtain ⟨T, h1, h4⟩ := key
  refine runF_iso (T := T) (K := _) (vs := [.bool (p.same q)]) (vis := []) rfl (by rw [hf]; exact h1) ?_ (frz_depth rfl _)
  simp [f48, resOf, h4, -List.getD_eq_getElem?_getD]

theorem same_ok (p q : Pr) (n : Nat) (hn : 2 * p.sz < n) (hb : p.sz < 2 ^ 60) : callN TE n 48 [.agg p.enc, .agg q.enc] [] = some (.ret (.bool (p.same q)) []) := by
  obtain ⟨n, rfl⟩ : ∃ k, n = k + 1 := ⟨n - 1, by omega⟩
  simp only [Pr.sz] at hn hb
  have hz := toDes_sz p.z p.decls
  exact run48 p q (sameDs_ok _ _ n (by omega) (by omega)) (sameSs_ok _ _ n (by omega) (by omega)) (sameSs_ok _ _ n (by omega) (by omega))

end Go.Proofs.YtnifjgdhgnmhmaaGreatDoor
