/- Programs as trees, and how they lie in cells. Expressions are counted: the tree's own way. Expressions are counted: the document's way. Expressions are weighed: it comes to an end, at a whole number. Lists of expressions are weighed. Statements, declarations and programs, and their cells. Statements are weighed. Programs are weighed. Whether two expressions are the same: the tree's own way. Whether two expressions are the same: the tree's own way, the functions. Whether two expressions are the same: the document's way. -/
import Derived.Test.YtnifjgdhgnmhmaaGreatDoorM5
import Derived.Test.YtnifjgdhgnmhmaaGreatDoorM3
namespace Go.Proofs.YtnifjgdhgnmhmaaGreatDoor
open Go Go.X

/-! ### expressions -/
mutual
inductive Ex where
  | mk (op at_ : Int) (b : Bool) (i f : Int) (name : List UInt8) (args : Exs)
inductive Exs where
  | nil (z : Bool)
  | cons (e : Ex) (r : Exs)
end

def Exs.len : Exs → Nat
  | .nil _ => 0
  | .cons _ r => r.len + 1

def Exs.ptr (cs : List XV) : Exs → XV
  | .nil true => .nils
  | .nil false => .vs 0 []
  | .cons _ r => .vs (r.len + 1) cs

mutual
def Ex.enc : Ex → List XV
  | .mk op a b i f name args => [.int .u8 op, .int .i64 a, .bool b, .int .i32 i, .int .u64 f, .str name, args.ptr args.cells]
def Exs.cells : Exs → List XV
  | .nil _ => []
  | .cons e r => e.enc ++ r.cells
end

def Exs.x (l : Exs) : XV := l.ptr l.cells

mutual
def Ex.sz : Ex → Nat
  | .mk _ _ _ _ _ _ args => args.sz + 1
def Exs.sz : Exs → Nat
  | .nil _ => 1
  | .cons e r => e.sz + r.sz + 1
end

theorem Ex.enc_length (e : Ex) : e.enc.length = 7 := by cases e; simp [Ex.enc]
theorem Exs.cells_length : ∀ l : Exs, l.cells.length = l.len * 7
  | .nil _ => by simp [Exs.cells, Exs.len]
  | .cons e r => by simp [Exs.cells, Exs.len, Ex.enc_length, Exs.cells_length r]; omega
theorem Exs.len_le : ∀ l : Exs, l.len + 1 ≤ l.sz
  | .nil _ => by simp [Exs.len, Exs.sz]
  | .cons e r => by have := Exs.len_le r; simp [Exs.len, Exs.sz]; omega

theorem Exs.lenOf_x (l : Exs) : lenOf false l.x = some l.len := by
  cases l with
  | nil z => cases z <;> rfl
  | cons e r => rfl

theorem Exs.leaf_x (l : Exs) : leaf l.x = true := by
  cases l with
  | nil z => cases z <;> rfl
  | cons e r => rfl

theorem Exs.oneCell_ptr (l : Exs) (cs : List XV) : oneCell (l.ptr cs) = true := by
  cases l with
  | nil z => cases z <;> rfl
  | cons e r => rfl

@[simp] theorem Exs.leaf_ptr (l : Exs) : leaf (l.ptr l.cells) = true := Exs.leaf_x l
@[simp] theorem Exs.bare_ptr (l : Exs) : bare (l.ptr l.cells) = true := bare_leaf (Exs.leaf_x l)
@[simp] theorem Exs.bare_x (l : Exs) : bare l.x = true := bare_leaf (Exs.leaf_x l)
theorem Ex.leafs_enc (e : Ex) : leafs e.enc = true := by cases e; simp [Ex.enc, leafs]
@[simp] theorem Ex.bare_enc (e : Ex) : bare (.agg e.enc) = true := by simp [Ex.leafs_enc, Ex.enc_length]

/-! how many expressions there are -/
mutual
def Ex.tot : Ex → Nat
  | .mk _ _ _ _ _ _ args => args.tot + 1
def Exs.tot : Exs → Nat
  | .nil _ => 0
  | .cons e r => e.tot + r.tot
end

def Ex.args : Ex → Exs
  | .mk _ _ _ _ _ _ args => args

def Exs.All (p : Ex → Prop) : Exs → Prop
  | .nil _ => True
  | .cons e r => p e ∧ r.All p

mutual
theorem Ex.tot_le : ∀ e : Ex, e.tot ≤ e.sz
  | .mk _ _ _ _ _ _ args => by have := Exs.tot_le args; simp [Ex.tot, Ex.sz]; omega
theorem Exs.tot_le : ∀ l : Exs, l.tot ≤ l.sz
  | .nil _ => by simp [Exs.tot]
  | .cons e r => by have := Ex.tot_le e; have := Exs.tot_le r; simp [Exs.tot, Exs.sz]; omega
end
theorem Exs.len_tot : ∀ l : Exs, l.len ≤ l.tot
  | .nil _ => by simp [Exs.len]
  | .cons (.mk _ _ _ _ _ _ args) r => by have := Exs.len_tot r; simp [Exs.len, Exs.tot, Ex.tot]; omega

end Go.Proofs.YtnifjgdhgnmhmaaGreatDoor
namespace Go.Proofs.YtnifjgdhgnmhmaaGreatDoor
open Go Go.X
set_option linter.unusedSimpArgs false

def body103 : XC := (.seq (.region f103.r3) (.seq (.cond (.t 11) (.skip) (.exit 0)) (.seq (.block 1 (.seq (.region f103.r4) (.region f103.r5))) (.region f103.r6))))

def I103 (len : Nat) (cs : XV) (i a : Nat) (s : St) : Prop :=
  s.D = [] ∧ s.T.length = 21 ∧ s.T.getD 3 und = (.int .i64 (a : Int)) ∧ s.T.getD 8 und = cs ∧ s.T.getD 9 und = (.int .i64 (len : Int)) ∧ s.T.getD 10 und = (.int .i64 (i : Int))

theorem exit103 {call : CallF} {k len i : Nat} {cs : XV} {a : Nat} {s : St} (hs : I103 len cs i a s) (h : ¬ i < len) : ∃ s', exec TE call k body103 s = some (.exit 0, s') ∧ I103 len cs i a s' := by
  obtain ⟨T, H, D⟩ := s
  obtain ⟨rfl, hl, h3, h8, h9, h10⟩ := hs
  simp only at hl h3 h8 h9 h10
  refine ⟨?s, ?e, ?i⟩
  case e =>
    simp [body103, f103.r3, h, exec, xops, xoper, want, putT, xop, ev, bin, intBin, isShift, okv, -List.getD_eq_getElem?_getD, rd_ne, rd_eq, List.length_set, hl, h3, h8, h9, h10]
    rfl
  case i => simp [I103, -List.getD_eq_getElem?_getD, rd_ne, rd_eq, List.length_set, hl, h3, h8, h9, h10]

theorem step103 {call : CallF} {k len i : Nat} {cs : List XV} {a b : Nat} {s : St} (hs : I103 len (.vs len cs) i a s) (h : i < len) (hcs : i * 7 ≤ cs.length) (e : Ex) (rest : List XV) (he : cs.drop (i * 7) = e.enc ++ rest)
    (hc : call 103 [e.args.x] [] = some (.ret (.int .i64 (b : Int)) [])) (hab : a + b < 2 ^ 63) (hi : i + 1 < 2 ^ 63) : ∃ s', exec TE call k body103 s = some (.norm, s') ∧ I103 len (.vs len cs) (i + 1) (a + b) s' := by
  obtain ⟨T, H, D⟩ := s
  obtain ⟨rfl, hl, h3, h8, h9, h10⟩ := hs
  simp only at hl h3 h8 h9 h10
  obtain ⟨op, at_, bb, ii, ff, name, args⟩ := e
  simp only [Ex.enc, List.cons_append, List.nil_append] at he
  simp only [Ex.args, Exs.x] at hc
  have hw1 : IntKind.i64.wrap ((a : Int) + (b : Int)) = (a : Int) + (b : Int) := wrap_small (by omega) (by omega)
  have hw2 : IntKind.i64.wrap ((i : Int) + 1) = (i : Int) + 1 := wrap_small (by omega) (by omega)
  have hdc : ∀ H, docall TE call 103 [args.ptr args.cells] H = some (.ret (.int .i64 (b : Int)) H) := fun H =>
    docall_iso (E := TE) rfl rfl (bares_one (Exs.leaf_x args)) (Nat.succ_le_succ (Nat.zero_le _)) hc H
  refine ⟨?s, ?e, ?i⟩
  case e =>
    simp [body103, f103.r3, f103.r4, f103.r5, f103.r6, h, hcs, he, hdc, hw1, hw2, Exs.oneCell_ptr, exec, xops, xoper, want, putT, xop, ev, bin, intBin, isShift, okv, asNat_nat, takeAt, one, cellsOf, cellsAt_new, setCs_new, set_new, putAt, -List.getD_eq_getElem?_getD, rd_ne, rd_eq, List.length_set, hl, h3, h8, h9, h10]
    rfl
  case i => simp [I103, -List.getD_eq_getElem?_getD, rd_ne, rd_eq, List.length_set, hl, h3, h8, h9, h10]

theorem loop103 {call : CallF} {k len : Nat} {cs : List XV} (hcl : cs.length = len * 7) (hlb : len + 1 < 2 ^ 63) : ∀ (rest : Exs) (n i a : Nat), rest.len < n → cs.drop (i * 7) = rest.cells → i + rest.len = len →
    (rest.All fun e => call 103 [e.args.x] [] = some (.ret (.int .i64 (e.args.tot : Int)) [])) → a + rest.tot < 2 ^ 63 → ∀ s, I103 len (.vs len cs) i a s →
    ∃ s' a', loopN (exec TE call k body103) n s = some (.exit 0, s') ∧ a' + rest.len = a + rest.tot ∧ I103 len (.vs len cs) len a' s'
  | _, 0, _, _, hn, _, _, _, _ => by omega
  | .nil z, n + 1, i, a, hn, hcs, hlen, hall, hab => by
    intro s hs
    simp only [Exs.len, Nat.add_zero] at hlen
    subst hlen
    obtain ⟨s', h1, h2⟩ := exit103 (call := call) (k := k) hs (by omega)
    exact ⟨s', a, by simp [loopN, h1], by simp [Exs.len, Exs.tot], h2⟩
  | .cons e r, n + 1, i, a, hn, hcs, hlen, hall, hab => by
    intro s hs
    simp only [Exs.len] at hlen hn
    simp only [Exs.cells] at hcs
    simp only [Exs.tot] at hab
    have hee : e.tot = e.args.tot + 1 := by cases e; rfl
    obtain ⟨s', h1, h2⟩ := step103 (call := call) (k := k) hs (by omega) (by omega) e r.cells hcs (b := e.args.tot) hall.1 (by omega) (by omega)
    have hd : cs.drop ((i + 1) * 7) = r.cells := by
      rw [Nat.add_mul, Nat.one_mul, ← List.drop_drop, hcs, List.drop_left' (Ex.enc_length e)]
    obtain ⟨s'', a', h3, h4, h5⟩ := loop103 (call := call) (k := k) hcl hlb r n (i + 1) (a + e.args.tot) (by omega) hd (by omega) hall.2 (by omega) s' h2
    exact ⟨s'', a', by simp [loopN, h1, h3], by simp only [Exs.len, Exs.tot]; omega, h5⟩

/-- What a function's body does, and what comes back. -/
theorem run103 {n : Nat} (l : Exs) (hln : l.len < n) (hb : l.tot < 2 ^ 61) (hall : l.All fun e => callN TE n 103 [e.args.x] [] = some (.ret (.int .i64 (e.args.tot : Int)) [])) :
    callN TE (n + 1) 103 [l.x] [] = some (.ret (.int .i64 (l.tot : Int)) []) := by
  have hlt := Exs.len_tot l
  rw [callN_eq (xf := f103) rfl]
  have hlen := Exs.lenOf_x l
  let T1 : List XV := [l.x, und, .int .i64 0, .int .i64 (l.len : Int), und, und, l.x, .int .i64 (l.len : Int), l.x, .int .i64 (l.len : Int), .int .i64 0, und, und, und, und, und, und, und, und, und, und]
  have h0 : I103 l.len l.x 0 l.len ⟨T1, [], []⟩ := ⟨rfl, rfl, rfl, rfl, rfl, rfl⟩
  have hloop : ∃ s', loopN (exec TE (callN TE n) n body103) n ⟨T1, [], []⟩ = some (.exit 0, s') ∧ I103 l.len l.x l.len l.tot s' := by
    cases l with
    | nil z =>
      obtain ⟨m, rfl⟩ : ∃ m, n = m + 1 := ⟨n - 1, by omega⟩
      obtain ⟨s', h1, h2⟩ := exit103 (call := callN TE (m + 1)) (k := m + 1) h0 (by simp [Exs.len])
      exact ⟨s', by simp [loopN, h1], by simpa [Exs.len, Exs.tot] using h2⟩
    | cons e r =>
      obtain ⟨s', a', h1, h2, h3⟩ := loop103 (call := callN TE n) (k := n) (cs := (Exs.cons e r).cells) (len := (Exs.cons e r).len) (Exs.cells_length _) (by omega) (.cons e r) n 0 _ hln (by simp) (by simp) hall (by omega) _ h0
      have : a' = (Exs.cons e r).tot := by omega
      subst this
      exact ⟨s', h1, h3⟩
  obtain ⟨⟨T2, H2, D2⟩, h1, rfl, hl, h3, _⟩ := hloop
  simp only at hl h3
  refine runF_iso (T := (T2.set 20 (.int .i64 (l.tot : Int))).set 2 (.int .i64 (l.tot : Int))) (K := H2) (vs := [.int .i64 (l.tot : Int)]) (vis := []) rfl ?_ ?_ (frz_depth rfl _)
  · have hf : frame0 f103 [l.x] = [l.x, und, und, und, und, und, und, und, und, und, und, und, und, und, und, und, und, und, und, und, und] := rfl
    have hb : f103.body = .seq (.region f103.r0) (.seq (.region f103.r1) (.seq (.seq (.region f103.r2) (.block 0 (.loop body103))) (.seq (.region f103.r7) .ret))) := rfl
    rw [hf, hb]
    simp only [T1] at h1
    simp [f103.r0, f103.r1, f103.r2, f103.r7, h1, hlen, exec, xops, xoper, want, putT, xop, ev, okv, -List.getD_eq_getElem?_getD, List.getD_cons_zero, List.getD_cons_succ, rd_ne, rd_eq, List.length_set, hl, h3]
  · simp [f103, resOf, -List.getD_eq_getElem?_getD, rd_ne, rd_eq, List.length_set, hl]

mutual
theorem exprs_okE : ∀ (e : Ex) (n : Nat), e.sz < n → e.sz < 2 ^ 61 → callN TE n 103 [e.args.x] [] = some (.ret (.int .i64 (e.args.tot : Int)) [])
  | .mk _ _ _ _ _ _ args, n, hn, hb => by
    simp only [Ex.sz] at hn hb
    exact exprs_ok args n (by omega) (by omega)
theorem exprs_all : ∀ (l : Exs) (n : Nat), l.sz ≤ n → l.sz < 2 ^ 61 → l.All fun e => callN TE n 103 [e.args.x] [] = some (.ret (.int .i64 (e.args.tot : Int)) [])
  | .nil _, _, _, _ => trivial
  | .cons e r, n, hn, hb => by
    simp only [Exs.sz] at hn hb
    exact ⟨exprs_okE e n (by omega) (by omega), exprs_all r n (by omega) (by omega)⟩
/-- EXPRESSIONS ARE COUNTED. -/
theorem exprs_ok : ∀ (l : Exs) (n : Nat), l.sz < n → l.sz < 2 ^ 61 → callN TE n 103 [l.x] [] = some (.ret (.int .i64 (l.tot : Int)) [])
  | l, 0, hn, _ => by omega
  | l, n + 1, hn, hb => by
    have h1 := Exs.len_le l
    have h2 := Exs.tot_le l
    exact run103 l (by omega) (by omega) (exprs_all l n (by omega) hb)
end

end Go.Proofs.YtnifjgdhgnmhmaaGreatDoor
namespace Go.Proofs.YtnifjgdhgnmhmaaGreatDoor
open Go Go.X
set_option linter.unusedSimpArgs false

def body156 : XC := (.seq (.seq (.region f156.r3) (.cond (.t 8) (.skip) (.exit 0))) (.seq (.block 1 (.region f156.r4)) (.region f156.r5)))

def I156 (l : Exs) (i a : Nat) (s : St) : Prop :=
  s.D = [] ∧ s.T.length = 21 ∧ s.T.getD 0 und = l.x ∧ s.T.getD 3 und = .int .i64 (a : Int) ∧ s.T.getD 4 und = .int .i64 (i : Int)

theorem exit156 {call : CallF} {k i : Nat} {l : Exs} {a : Nat} {s : St} (hs : I156 l i a s) (h : ¬ i < l.len) : ∃ s', exec TE call k body156 s = some (.exit 0, s') ∧ I156 l i a s' := by
  obtain ⟨T, H, D⟩ := s
  obtain ⟨rfl, hl, h0, h3, h4⟩ := hs
  simp only at hl h0 h3 h4
  have hlen := Exs.lenOf_x l
  refine ⟨?s, ?e, ?i⟩
  case e =>
    simp [body156, f156.r3, h, hlen, hl, h0, h3, h4, exec, xops, xoper, want, putT, xop, ev, bin, intBin, isShift, okv, asNat_nat, takeAt, one, cellsOf, cellsAt_new, setCs_new, set_new, putAt, -List.getD_eq_getElem?_getD, rd_ne, rd_eq, List.length_set, List.getD_cons_zero, List.getD_cons_succ]
    rfl
  case i => simp [I156, hl, h0, h3, h4, exec, xops, xoper, want, putT, xop, ev, bin, intBin, isShift, okv, asNat_nat, takeAt, one, cellsOf, cellsAt_new, setCs_new, set_new, putAt, -List.getD_eq_getElem?_getD, rd_ne, rd_eq, List.length_set, List.getD_cons_zero, List.getD_cons_succ]

theorem step156 {call : CallF} {k i : Nat} {l : Exs} {a b : Nat} {s : St} (hs : I156 l i a s) (h : i < l.len) (e : Ex) (rest : List XV) (he : l.cells.drop (i * 7) = e.enc ++ rest)
    (hc : call 156 [e.args.x] [] = some (.ret (.int .i64 (b : Int)) [])) (hab : a + 1 + b < 2 ^ 63) (hi : i + 1 < 2 ^ 63) : ∃ s', exec TE call k body156 s = some (.norm, s') ∧ I156 l (i + 1) (a + 1 + b) s' := by
  obtain ⟨T, H, D⟩ := s
  obtain ⟨rfl, hl, h0, h3, h4⟩ := hs
  simp only at hl h0 h3 h4
  have hlen := Exs.lenOf_x l
  obtain ⟨op, at_, bb, ii, ff, name, args⟩ := e
  simp only [Ex.enc, List.cons_append, List.nil_append] at he
  simp only [Ex.args, Exs.x] at hc
  have hw0 : IntKind.i64.wrap ((a : Int) + 1) = (a : Int) + 1 := wrap_small (by omega) (by omega)
  have hw1 : IntKind.i64.wrap ((a : Int) + 1 + (b : Int)) = (a : Int) + 1 + (b : Int) := wrap_small (by omega) (by omega)
  have hw2 : IntKind.i64.wrap ((i : Int) + 1) = (i : Int) + 1 := wrap_small (by omega) (by omega)
  have hdc : ∀ H, docall TE call 156 [args.ptr args.cells] H = some (.ret (.int .i64 (b : Int)) H) := fun H =>
    docall_iso (E := TE) rfl rfl (bares_one (Exs.leaf_x args)) (Nat.succ_le_succ (Nat.zero_le _)) hc H
  have hx : l.x = .vs l.len l.cells := by
    cases l with
    | nil z => simp [Exs.len] at h
    | cons e r => rfl
  have hcl := Exs.cells_length l
  have hle : i * 7 ≤ l.cells.length := by omega
  rw [hx] at h0
  have hln : lenOf false (.vs l.len l.cells) = some l.len := rfl
  refine ⟨?s, ?e, ?i⟩
  case e =>
    simp [body156, f156.r3, f156.r4, f156.r5, h, hln, he, hdc, hw0, hw1, hw2, hle, Exs.oneCell_ptr, hl, h0, h3, h4, exec, xops, xoper, want, putT, xop, ev, bin, intBin, isShift, okv, asNat_nat, takeAt, one, cellsOf, cellsAt_new, setCs_new, set_new, putAt, -List.getD_eq_getElem?_getD, rd_ne, rd_eq, List.length_set, List.getD_cons_zero, List.getD_cons_succ]
    rfl
  case i => simp [I156, hl, h0, h3, h4, hx, exec, xops, xoper, want, putT, xop, ev, bin, intBin, isShift, okv, asNat_nat, takeAt, one, cellsOf, cellsAt_new, setCs_new, set_new, putAt, -List.getD_eq_getElem?_getD, rd_ne, rd_eq, List.length_set, List.getD_cons_zero, List.getD_cons_succ]

theorem loop156 {call : CallF} {k : Nat} {l : Exs} (hlb : l.len + 1 < 2 ^ 63) : ∀ (rest : Exs) (n i a : Nat), rest.len < n → l.cells.drop (i * 7) = rest.cells → i + rest.len = l.len →
    (rest.All fun e => call 156 [e.args.x] [] = some (.ret (.int .i64 (e.args.tot : Int)) [])) → a + rest.tot < 2 ^ 63 → ∀ s, I156 l i a s →
    ∃ s', loopN (exec TE call k body156) n s = some (.exit 0, s') ∧ I156 l l.len (a + rest.tot) s'
  | _, 0, _, _, hn, _, _, _, _ => by omega
  | .nil z, n + 1, i, a, hn, hcs, hlen, hall, hab => by
    intro s hs
    simp only [Exs.len, Nat.add_zero] at hlen
    subst hlen
    obtain ⟨s', h1, h2⟩ := exit156 (call := call) (k := k) hs (by omega)
    exact ⟨s', by simp [loopN, h1], by simpa [Exs.tot] using h2⟩
  | .cons e r, n + 1, i, a, hn, hcs, hlen, hall, hab => by
    intro s hs
    simp only [Exs.len] at hlen hn
    simp only [Exs.cells] at hcs
    simp only [Exs.tot] at hab
    have hee : e.tot = e.args.tot + 1 := by cases e; rfl
    obtain ⟨s', h1, h2⟩ := step156 (call := call) (k := k) hs (by omega) e r.cells hcs (b := e.args.tot) hall.1 (by omega) (by omega)
    have hd : l.cells.drop ((i + 1) * 7) = r.cells := by
      rw [Nat.add_mul, Nat.one_mul, ← List.drop_drop, hcs, List.drop_left' (Ex.enc_length e)]
    obtain ⟨s'', h3, h5⟩ := loop156 (call := call) (k := k) hlb r n (i + 1) (a + 1 + e.args.tot) (by omega) hd (by omega) hall.2 (by omega) s' h2
    refine ⟨s'', by simp [loopN, h1, h3], ?_⟩
    simp only [Exs.tot, hee]
    rwa [show a + (e.args.tot + 1 + r.tot) = a + 1 + e.args.tot + r.tot by omega]

theorem run156 {n : Nat} (l : Exs) (hln : l.len < n) (hb : l.tot < 2 ^ 61) (hall : l.All fun e => callN TE n 156 [e.args.x] [] = some (.ret (.int .i64 (e.args.tot : Int)) [])) :
    callN TE (n + 1) 156 [l.x] [] = some (.ret (.int .i64 (l.tot : Int)) []) := by
  have hlt := Exs.len_tot l
  rw [callN_eq (xf := f156) rfl]
  let T1 : List XV := [l.x, und, .int .i64 0, .int .i64 0, .int .i64 0, und, und, und, und, und, und, und, und, und, und, und, und, und, und, und, und]
  have h0 : I156 l 0 0 ⟨T1, [], []⟩ := ⟨rfl, rfl, rfl, rfl, rfl⟩
  obtain ⟨⟨T2, H2, D2⟩, h1, rfl, hl, h0', h3, _⟩ := loop156 (call := callN TE n) (k := n) (l := l) (by omega) l n 0 0 hln (by simp) (by simp) hall (by omega) _ h0
  simp only [Nat.zero_add] at hl h3
  refine runF_iso (T := (T2.set 20 (.int .i64 (l.tot : Int))).set 2 (.int .i64 (l.tot : Int))) (K := H2) (vs := [.int .i64 (l.tot : Int)]) (vis := []) rfl ?_ ?_ (frz_depth rfl _)
  · have hf : frame0 f156 [l.x] = [l.x, und, und, und, und, und, und, und, und, und, und, und, und, und, und, und, und, und, und, und, und] := rfl
    have hb : f156.body = .seq (.region f156.r0) (.seq (.region f156.r1) (.seq (.seq (.region f156.r2) (.block 0 (.loop body156))) (.seq (.region f156.r6) .ret))) := rfl
    rw [hf, hb]
    simp only [T1] at h1
    simp [f156.r0, f156.r1, f156.r2, f156.r6, h1, hl, h3, exec, xops, xoper, want, putT, xop, ev, bin, intBin, isShift, okv, asNat_nat, takeAt, one, cellsOf, cellsAt_new, setCs_new, set_new, putAt, -List.getD_eq_getElem?_getD, rd_ne, rd_eq, List.length_set, List.getD_cons_zero, List.getD_cons_succ]
  · simp [f156, resOf, hl, exec, xops, xoper, want, putT, xop, ev, bin, intBin, isShift, okv, asNat_nat, takeAt, one, cellsOf, cellsAt_new, setCs_new, set_new, putAt, -List.getD_eq_getElem?_getD, rd_ne, rd_eq, List.length_set, List.getD_cons_zero, List.getD_cons_succ]

mutual
theorem rexprs_okE : ∀ (e : Ex) (n : Nat), e.sz < n → e.sz < 2 ^ 61 → callN TE n 156 [e.args.x] [] = some (.ret (.int .i64 (e.args.tot : Int)) [])
  | .mk _ _ _ _ _ _ args, n, hn, hb => by
    simp only [Ex.sz] at hn hb
    exact rexprs_ok args n (by omega) (by omega)
theorem rexprs_all : ∀ (l : Exs) (n : Nat), l.sz ≤ n → l.sz < 2 ^ 61 → l.All fun e => callN TE n 156 [e.args.x] [] = some (.ret (.int .i64 (e.args.tot : Int)) [])
  | .nil _, _, _, _ => trivial
  | .cons e r, n, hn, hb => by
    simp only [Exs.sz] at hn hb
    exact ⟨rexprs_okE e n (by omega) (by omega), rexprs_all r n (by omega) (by omega)⟩
theorem rexprs_ok : ∀ (l : Exs) (n : Nat), l.sz < n → l.sz < 2 ^ 61 → callN TE n 156 [l.x] [] = some (.ret (.int .i64 (l.tot : Int)) [])
  | l, 0, hn, _ => by omega
  | l, n + 1, hn, hb => by
    have h1 := Exs.len_le l
    have h2 := Exs.tot_le l
    exact run156 l (by omega) (by omega) (rexprs_all l n (by omega) hb)
end

end Go.Proofs.YtnifjgdhgnmhmaaGreatDoor
namespace Go.Proofs.YtnifjgdhgnmhmaaGreatDoor
open Go Go.X
set_option linter.unusedSimpArgs false

def body87 : XC := (.seq (.seq (.region f87.r3) (.cond (.t 23) (.skip) (.exit 0))) (.seq (.block 1 (.region f87.r4)) (.region f87.r5)))

def I87 (e : Ex) (most : Int) (i : Nat) (s : St) : Prop :=
  s.D = [] ∧ s.T.length = 38 ∧ s.H = [.tcells e.enc 78 true] ∧ s.T.getD 2 und = .ptr 0 0 ∧ s.T.getD 1 und = .int .i64 most ∧ (∃ m, s.T.getD 5 und = .int .i64 m) ∧ s.T.getD 6 und = .int .i64 (i : Int)

/-- A round: it is the last, or it leads on. -/
theorem round87 {call : CallF} {k i : Nat} {e : Ex} {most : Int} {s : St} (hs : I87 e most i s) (hi : i + 1 < 2 ^ 63) (hall : ∀ (a : Ex) (rest : List XV) (m : Int), e.args.cells.drop (i * 7) = a.enc ++ rest → ∃ b, call 87 [.agg a.enc, .int .i64 m] [] = some (.ret (.int .i64 b) []))
    (hin : i < e.args.len → ∃ (a : Ex) (rest : List XV), e.args.cells.drop (i * 7) = a.enc ++ rest) :
    (∃ s', exec TE call k body87 s = some (.exit 0, s') ∧ I87 e most i s') ∨ (i < e.args.len ∧ ∃ s', exec TE call k body87 s = some (.norm, s') ∧ I87 e most (i + 1) s') := by
  obtain ⟨T, H, D⟩ := s
  obtain ⟨rfl, hl, rfl, h2, h1, ⟨m, h5⟩, h6⟩ := hs
  simp only at hl h1 h2 h5 h6
  obtain ⟨op, at_, bb, ii, ff, name, args⟩ := e
  simp only [Ex.args] at hall hin ⊢
  have hlen := Exs.lenOf_x args
  simp only [Exs.x] at hlen
  by_cases hlt : i < args.len
  · by_cases hm : m ≤ most
    · right
      refine ⟨hlt, ?_⟩
      obtain ⟨a, rest, ha⟩ := hin hlt
      obtain ⟨b, hb⟩ := hall a rest (IntKind.i64.wrap (most - m)) ha
      have hx : args.ptr args.cells = .vs args.len args.cells := by
        cases args with
        | nil z => simp [Exs.len] at hlt
        | cons e r => rfl
      have hcl := Exs.cells_length args
      have hle : i * 7 ≤ args.cells.length := by omega
      have hw2 : IntKind.i64.wrap ((i : Int) + 1) = (i : Int) + 1 := wrap_small (by omega) (by omega)
      have hlv : lenOf false (.vs args.len args.cells) = some args.len := rfl
      obtain ⟨op2, at2, bb2, ii2, ff2, name2, args2⟩ := a
      simp only [Ex.enc, List.cons_append, List.nil_append] at ha hb
      have hdc : ∀ H, docall TE call 87 [.agg [.int .u8 op2, .int .i64 at2, .bool bb2, .int .i32 ii2, .int .u64 ff2, .str name2, args2.ptr args2.cells], .int .i64 (IntKind.i64.wrap (most - m))] H = some (.ret (.int .i64 b) H) := fun H =>
        docall_iso (E := TE) rfl rfl (by simp [bares, leafs]) (by simp) hb H
      refine ⟨?s1, ?e1, ?i1⟩
      case e1 =>
        simp [body87, f87.r3, f87.r4, f87.r5, Ex.enc, hx, hlv, hlt, hm, hle, ha, hdc, hw2, hl, h1, h2, h5, h6, cellsAt, List.getElem?_set, exec, xops, xoper, want, putT, xop, ev, bin, intBin, isShift, okv, asNat_nat, takeAt, one, cellsOf, cellsAt_new, setCs_new, set_new, putAt, -List.getD_eq_getElem?_getD, rd_ne, rd_eq, List.length_set, List.getD_cons_zero, List.getD_cons_succ]
        rfl
      case i1 => simp [I87, Ex.enc, hx, hl, h1, h2, h5, h6, exec, xops, xoper, want, putT, xop, ev, bin, intBin, isShift, okv, asNat_nat, takeAt, one, cellsOf, cellsAt_new, setCs_new, set_new, putAt, -List.getD_eq_getElem?_getD, rd_ne, rd_eq, List.length_set, List.getD_cons_zero, List.getD_cons_succ]
    · left
      refine ⟨?s2, ?e2, ?i2⟩
      case e2 =>
        simp [body87, f87.r3, Ex.enc, hlen, hlt, hm, hl, h1, h2, h5, h6, cellsAt, List.getElem?_set, exec, xops, xoper, want, putT, xop, ev, bin, intBin, isShift, okv, asNat_nat, takeAt, one, cellsOf, cellsAt_new, setCs_new, set_new, putAt, -List.getD_eq_getElem?_getD, rd_ne, rd_eq, List.length_set, List.getD_cons_zero, List.getD_cons_succ]
        rfl
      case i2 => simp [I87, Ex.enc, hl, h1, h2, h5, h6, exec, xops, xoper, want, putT, xop, ev, bin, intBin, isShift, okv, asNat_nat, takeAt, one, cellsOf, cellsAt_new, setCs_new, set_new, putAt, -List.getD_eq_getElem?_getD, rd_ne, rd_eq, List.length_set, List.getD_cons_zero, List.getD_cons_succ]
  · left
    refine ⟨?s3, ?e3, ?i3⟩
    case e3 =>
      simp [body87, f87.r3, Ex.enc, hlen, hlt, hl, h1, h2, h5, h6, cellsAt, List.getElem?_set, exec, xops, xoper, want, putT, xop, ev, bin, intBin, isShift, okv, asNat_nat, takeAt, one, cellsOf, cellsAt_new, setCs_new, set_new, putAt, -List.getD_eq_getElem?_getD, rd_ne, rd_eq, List.length_set, List.getD_cons_zero, List.getD_cons_succ]
      rfl
    case i3 => simp [I87, Ex.enc, hl, h1, h2, h5, h6, exec, xops, xoper, want, putT, xop, ev, bin, intBin, isShift, okv, asNat_nat, takeAt, one, cellsOf, cellsAt_new, setCs_new, set_new, putAt, -List.getD_eq_getElem?_getD, rd_ne, rd_eq, List.length_set, List.getD_cons_zero, List.getD_cons_succ]

theorem loop87 {call : CallF} {k : Nat} {e : Ex} {most : Int} (hlb : e.args.len + 1 < 2 ^ 63) (hcall : e.args.All fun a => ∀ m : Int, ∃ b, call 87 [.agg a.enc, .int .i64 m] [] = some (.ret (.int .i64 b) [])) : ∀ (rest : Exs) (n i : Nat), rest.len < n → e.args.cells.drop (i * 7) = rest.cells →
    i + rest.len = e.args.len → (rest.All fun a => ∀ m : Int, ∃ b, call 87 [.agg a.enc, .int .i64 m] [] = some (.ret (.int .i64 b) [])) → ∀ s, I87 e most i s → ∃ s' j, loopN (exec TE call k body87) n s = some (.exit 0, s') ∧ I87 e most j s'
  | _, 0, _, hn, _, _, _ => by omega
  | .nil z, n + 1, i, hn, hcs, hlen, hall => by
    intro s hs
    simp only [Exs.len, Nat.add_zero] at hlen
    rcases round87 (call := call) (k := k) hs (by omega) (fun a rest m ha => by
        rw [hcs] at ha
        have := congrArg List.length ha
        simp [Exs.cells, Ex.enc_length] at this; omega) (fun h => by omega) with ⟨s', h1, h2⟩ | ⟨h, _⟩
    · exact ⟨s', i, by simp [loopN, h1], h2⟩
    · omega
  | .cons a r, n + 1, i, hn, hcs, hlen, hall => by
    intro s hs
    simp only [Exs.len] at hlen hn
    simp only [Exs.cells] at hcs
    rcases round87 (call := call) (k := k) hs (by omega) (fun a' rest m ha => by
        rw [hcs] at ha
        have hh := (List.append_inj ha (by rw [Ex.enc_length, Ex.enc_length])).1
        rw [← hh]
        exact hall.1 m) (fun _ => ⟨a, r.cells, hcs⟩) with ⟨s', h1, h2⟩ | ⟨_, s', h1, h2⟩
    · exact ⟨s', i, by simp [loopN, h1], h2⟩
    · have hd : e.args.cells.drop ((i + 1) * 7) = r.cells := by
        rw [Nat.add_mul, Nat.one_mul, ← List.drop_drop, hcs, List.drop_left' (Ex.enc_length a)]
      obtain ⟨s'', j, h3, h5⟩ := loop87 (call := call) (k := k) hlb hcall r n (i + 1) (by omega) hd (by omega) hall.2 s' h2
      exact ⟨s'', j, by simp [loopN, h1, h3], h5⟩

theorem run87 {n : Nat} (e : Ex) (most : Int) (hln : e.args.len < n) (hb : e.args.len < 2 ^ 61) (hall : e.args.All fun a => ∀ m : Int, ∃ b, callN TE n 87 [.agg a.enc, .int .i64 m] [] = some (.ret (.int .i64 b) [])) :
    ∃ b, callN TE (n + 1) 87 [.agg e.enc, .int .i64 most] [] = some (.ret (.int .i64 b) []) := by
  rw [callN_eq (xf := f87) rfl]
  obtain ⟨op, at_, bb, ii, ff, name, args⟩ := e
  have key : ∀ m0 x7 x8 x9 x10 x11 x12 x13, ∃ s' j, loopN (exec TE (callN TE n) n body87) n ⟨[.agg (Ex.mk op at_ bb ii ff name args).enc, .int .i64 most, .ptr 0 0, und, .int .i64 0, .int .i64 m0, .int .i64 0, x7, x8, x9, x10, x11, x12, x13, und, und, und, und, und, und, und, und, und, und, und, und, und, und, und, und, und, und, und, und, und, und, und, und], [.tcells (Ex.mk op at_ bb ii ff name args).enc 78 true], []⟩ = some (.exit 0, s') ∧ I87 (Ex.mk op at_ bb ii ff name args) most j s' := fun m0 x7 x8 x9 x10 x11 x12 x13 =>
    loop87 (call := callN TE n) (k := n) (by omega) hall (Ex.mk op at_ bb ii ff name args).args n 0 hln (by simp) (by simp) hall _ ⟨rfl, rfl, rfl, rfl, rfl, ⟨_, rfl⟩, rfl⟩
  have hf : frame0 f87 [.agg (Ex.mk op at_ bb ii ff name args).enc, .int .i64 most] = [.agg (Ex.mk op at_ bb ii ff name args).enc, .int .i64 most, und, und, und, und, und, und, und, und, und, und, und, und, und, und, und, und, und, und, und, und, und, und, und, und, und, und, und, und, und, und, und, und, und, und, und, und] := rfl
  have hbd : f87.body = .seq (.region f87.r0) (.seq (.region f87.r1) (.seq (.seq (.region f87.r2) (.block 0 (.loop body87))) (.seq (.region f87.r6) .ret))) := rfl
  simp only [Ex.enc] at key hf ⊢
  have hmin : ∀ a b : Int, fold2 min2 (.int .i64 a) [.int .i64 b] = some (.int .i64 (if b < a then b else a)) := fun a b => by simp [fold2, min2]
  obtain ⟨⟨T2, H2, D2⟩, j, h1, hI⟩ := key (IntKind.i64.wrap (1 + if IntKind.i64.wrap (most + 1) < (name.length : Int) then IntKind.i64.wrap (most + 1) else (name.length : Int))) (.ptr 0 5) (.str name) (.int .i64 (name.length : Int)) (.int .i64 most) (.int .i64 (IntKind.i64.wrap (most + 1)))
    (.int .i64 (if IntKind.i64.wrap (most + 1) < (name.length : Int) then IntKind.i64.wrap (most + 1) else (name.length : Int))) (.int .i64 (IntKind.i64.wrap (1 + if IntKind.i64.wrap (most + 1) < (name.length : Int) then IntKind.i64.wrap (most + 1) else (name.length : Int))))
  obtain ⟨rfl, hl, rfl, h2, h3, ⟨m, h5⟩, h6⟩ := hI
  simp only at hl h2 h3 h5 h6
  refine ⟨m, runF_iso (T := (T2.set 37 (.int .i64 m)).set 4 (.int .i64 m)) (K := [.tcells (Ex.mk op at_ bb ii ff name args).enc 78 true]) (vs := [.int .i64 m]) (vis := []) rfl ?_ ?_ (frz_depth rfl _)⟩
  · rw [hf, hbd]
    simp [f87.r0, f87.r1, f87.r2, f87.r6, h1, hl, h5, cellsAt, lenOf, hmin, Ex.enc, exec, xops, xoper, want, putT, xop, ev, bin, intBin, isShift, okv, asNat_nat, takeAt, one, cellsOf, cellsAt_new, setCs_new, set_new, putAt, -List.getD_eq_getElem?_getD, rd_ne, rd_eq, List.length_set, List.getD_cons_zero, List.getD_cons_succ]
  · simp [f87, resOf, hl, exec, xops, xoper, want, putT, xop, ev, bin, intBin, isShift, okv, asNat_nat, takeAt, one, cellsOf, cellsAt_new, setCs_new, set_new, putAt, -List.getD_eq_getElem?_getD, rd_ne, rd_eq, List.length_set, List.getD_cons_zero, List.getD_cons_succ]

mutual
theorem weighE_ok : ∀ (e : Ex) (n : Nat), e.sz < n → e.sz < 2 ^ 61 → ∀ m : Int, ∃ b, callN TE n 87 [.agg e.enc, .int .i64 m] [] = some (.ret (.int .i64 b) [])
  | .mk op at_ bb ii ff name args, 0, hn, _ => by omega
  | .mk op at_ bb ii ff name args, n + 1, hn, hb => by
    simp only [Ex.sz] at hn hb
    have := Exs.len_le args
    exact fun m => run87 (.mk op at_ bb ii ff name args) m (by show args.len < n; omega) (by show args.len < 2 ^ 61; omega) (weighE_all args n (by omega) (by omega))
theorem weighE_all : ∀ (l : Exs) (n : Nat), l.sz ≤ n → l.sz < 2 ^ 61 → l.All fun e => ∀ m : Int, ∃ b, callN TE n 87 [.agg e.enc, .int .i64 m] [] = some (.ret (.int .i64 b) [])
  | .nil _, _, _, _ => trivial
  | .cons e r, n, hn, hb => by
    simp only [Exs.sz] at hn hb
    exact ⟨weighE_ok e n (by omega) (by omega), weighE_all r n (by omega) (by omega)⟩
end

end Go.Proofs.YtnifjgdhgnmhmaaGreatDoor
namespace Go.Proofs.YtnifjgdhgnmhmaaGreatDoor
open Go Go.X
set_option linter.unusedSimpArgs false

theorem Exs.x_vs {l : Exs} {i : Nat} (h : i < l.len) : l.x = .vs l.len l.cells := by
  cases l with
  | nil z => simp [Exs.len] at h
  | cons e r => rfl

/-- The one at a place. -/
theorem Exs.get {P : Ex → Prop} : ∀ {l : Exs} {i : Nat}, i < l.len → l.All P → ∃ (a : Ex) (rest : List XV), l.cells.drop (i * 7) = a.enc ++ rest ∧ P a
  | .nil _, _, h, _ => by simp [Exs.len] at h
  | .cons e r, 0, _, hall => ⟨e, r.cells, by simp [Exs.cells], hall.1⟩
  | .cons e r, i + 1, h, hall => by
    obtain ⟨a, rest, h1, h2⟩ := Exs.get (l := r) (i := i) (by simpa [Exs.len] using h) hall.2
    refine ⟨a, rest, ?_, h2⟩
    rw [show (i + 1) * 7 = 7 + i * 7 by omega, ← List.drop_drop]
    simp only [Exs.cells]
    rw [List.drop_left' (Ex.enc_length e), h1]

/-- A loop whose rounds are counted. -/
theorem loop_count {body : St → Option (XE × St)} {I : Nat → St → Prop} {len : Nat} {x : XE} (hx : x ≠ .norm) (hr : ∀ i s, i ≤ len → I i s → (∃ s' j, body s = some (x, s') ∧ I j s') ∨ (i < len ∧ ∃ s', body s = some (.norm, s') ∧ I (i + 1) s')) :
    ∀ (n i : Nat) (s : St), len < n + i → i ≤ len → I i s → ∃ s' j, loopN body n s = some (x, s') ∧ I j s'
  | 0, i, s, hn, hi, _ => by omega
  | n + 1, i, s, hn, hi, hs => by
    rcases hr i s hi hs with ⟨s', j, h1, h2⟩ | ⟨hlt, s', h1, h2⟩
    · refine ⟨s', j, ?_, h2⟩
      simp only [loopN, h1]
      cases x <;> first | rfl | exact absurd rfl hx
    · obtain ⟨s'', j, h3, h4⟩ := loop_count hx hr n (i + 1) s' (by omega) (by omega) h2
      exact ⟨s'', j, by simp [loopN, h1, h3], h4⟩

def WE (call : CallF) (a : Ex) : Prop := ∀ m : Int, ∃ b, call 87 [.agg a.enc, .int .i64 m] [] = some (.ret (.int .i64 b) [])

def body144 : XC := (.seq (.seq (.region f144.r3) (.cond (.t 15) (.skip) (.exit 0))) (.seq (.block 1 (.region f144.r4)) (.region f144.r5)))

def I144 (l : Exs) (most : Int) (i : Nat) (s : St) : Prop :=
  s.D = [] ∧ s.T.length = 29 ∧ s.T.getD 0 und = l.x ∧ s.T.getD 1 und = .int .i64 most ∧ (∃ m, s.T.getD 5 und = .int .i64 m) ∧ s.T.getD 6 und = .int .i64 (i : Int)

theorem round144 {call : CallF} {k i : Nat} {l : Exs} {most : Int} {s : St} (hs : I144 l most i s) (hi : i + 1 < 2 ^ 63) (hall : l.All (WE call)) :
    (∃ s' j, exec TE call k body144 s = some (.exit 0, s') ∧ I144 l most j s') ∨ (i < l.len ∧ ∃ s', exec TE call k body144 s = some (.norm, s') ∧ I144 l most (i + 1) s') := by
  obtain ⟨T, H, D⟩ := s
  obtain ⟨rfl, hl, h0, h1, ⟨m, h5⟩, h6⟩ := hs
  simp only at hl h0 h1 h5 h6
  have hlen := Exs.lenOf_x l
  by_cases hlt : i < l.len
  · by_cases hm : m ≤ most
    · right
      refine ⟨hlt, ?_⟩
      obtain ⟨a, rest, ha, hwe⟩ := Exs.get hlt hall
      obtain ⟨b, hb⟩ := hwe (IntKind.i64.wrap (most - m))
      have hx := Exs.x_vs hlt
      rw [hx] at h0
      have hcl := Exs.cells_length l
      have hle : i * 7 ≤ l.cells.length := by omega
      have hw2 : IntKind.i64.wrap ((i : Int) + 1) = (i : Int) + 1 := wrap_small (by omega) (by omega)
      have hlv : lenOf false (.vs l.len l.cells) = some l.len := rfl
      obtain ⟨op2, at2, bb2, ii2, ff2, name2, args2⟩ := a
      simp only [Ex.enc, List.cons_append, List.nil_append] at ha hb
      have hdc : ∀ H, docall TE call 87 [.agg [.int .u8 op2, .int .i64 at2, .bool bb2, .int .i32 ii2, .int .u64 ff2, .str name2, args2.ptr args2.cells], .int .i64 (IntKind.i64.wrap (most - m))] H = some (.ret (.int .i64 b) H) := fun H =>
        docall_iso (E := TE) rfl rfl (by simp [bares, leafs]) (by simp) hb H
      refine ⟨?s1, ?e1, ?i1⟩
      case e1 =>
        simp [body144, f144.r3, f144.r4, f144.r5, hlv, hlt, hm, hle, ha, hdc, hw2, hl, h0, h1, h5, h6, cellsAt, List.getElem?_set, exec, xops, xoper, want, putT, xop, ev, bin, intBin, isShift, okv, asNat_nat, takeAt, one, cellsOf, cellsAt_new, setCs_new, set_new, putAt, -List.getD_eq_getElem?_getD, rd_ne, rd_eq, List.length_set, List.getD_cons_zero, List.getD_cons_succ]
        rfl
      case i1 => simp [I144, hx, hl, h0, h1, h5, h6, exec, xops, xoper, want, putT, xop, ev, bin, intBin, isShift, okv, asNat_nat, takeAt, one, cellsOf, cellsAt_new, setCs_new, set_new, putAt, -List.getD_eq_getElem?_getD, rd_ne, rd_eq, List.length_set, List.getD_cons_zero, List.getD_cons_succ]
    · left
      refine ⟨?s2, i, ?e2, ?i2⟩
      case e2 =>
        simp [body144, f144.r3, hlen, hlt, hm, hl, h0, h1, h5, h6, cellsAt, List.getElem?_set, exec, xops, xoper, want, putT, xop, ev, bin, intBin, isShift, okv, asNat_nat, takeAt, one, cellsOf, cellsAt_new, setCs_new, set_new, putAt, -List.getD_eq_getElem?_getD, rd_ne, rd_eq, List.length_set, List.getD_cons_zero, List.getD_cons_succ]
        rfl
      case i2 => simp [I144, hl, h0, h1, h5, h6, exec, xops, xoper, want, putT, xop, ev, bin, intBin, isShift, okv, asNat_nat, takeAt, one, cellsOf, cellsAt_new, setCs_new, set_new, putAt, -List.getD_eq_getElem?_getD, rd_ne, rd_eq, List.length_set, List.getD_cons_zero, List.getD_cons_succ]
  · left
    refine ⟨?s3, i, ?e3, ?i3⟩
    case e3 =>
      simp [body144, f144.r3, hlen, hlt, hl, h0, h1, h5, h6, cellsAt, List.getElem?_set, exec, xops, xoper, want, putT, xop, ev, bin, intBin, isShift, okv, asNat_nat, takeAt, one, cellsOf, cellsAt_new, setCs_new, set_new, putAt, -List.getD_eq_getElem?_getD, rd_ne, rd_eq, List.length_set, List.getD_cons_zero, List.getD_cons_succ]
      rfl
    case i3 => simp [I144, hl, h0, h1, h5, h6, exec, xops, xoper, want, putT, xop, ev, bin, intBin, isShift, okv, asNat_nat, takeAt, one, cellsOf, cellsAt_new, setCs_new, set_new, putAt, -List.getD_eq_getElem?_getD, rd_ne, rd_eq, List.length_set, List.getD_cons_zero, List.getD_cons_succ]

theorem run144 {n : Nat} (l : Exs) (most : Int) (hln : l.len < n) (hb : l.len < 2 ^ 61) (hall : l.All (WE (callN TE n))) : ∃ b, callN TE (n + 1) 144 [l.x, .int .i64 most] [] = some (.ret (.int .i64 b) []) := by
  rw [callN_eq (xf := f144) rfl]
  have hf : frame0 f144 [l.x, .int .i64 most] = [l.x, .int .i64 most, und, und, und, und, und, und, und, und, und, und, und, und, und, und, und, und, und, und, und, und, und, und, und, und, und, und, und] := rfl
  have hbd : f144.body = .seq (.region f144.r0) (.seq (.region f144.r1) (.seq (.seq (.region f144.r2) (.block 0 (.loop body144))) (.seq (.region f144.r6) .ret))) := rfl
  obtain ⟨⟨T2, H2, D2⟩, j, h1, rfl, hl, h0, h3, ⟨m, h5⟩, h6⟩ := loop_count (body := exec TE (callN TE n) n body144) (I := I144 l most) (len := l.len) (x := .exit 0) (by simp) (fun i s hi hs => round144 hs (by omega) hall) n 0
    ⟨[l.x, .int .i64 most, und, und, .int .i64 0, .int .i64 0, .int .i64 0, und, und, und, und, und, und, und, und, und, und, und, und, und, und, und, und, und, und, und, und, und, und], [], []⟩ (by omega) (by omega) ⟨rfl, rfl, rfl, rfl, ⟨_, rfl⟩, rfl⟩
  simp only at hl h3 h5 h6
  refine ⟨m, runF_iso (T := (T2.set 28 (.int .i64 m)).set 4 (.int .i64 m)) (K := H2) (vs := [.int .i64 m]) (vis := []) rfl ?_ ?_ (frz_depth rfl _)⟩
  · rw [hf, hbd]
    simp [f144.r0, f144.r1, f144.r2, f144.r6, h1, hl, h5, exec, xops, xoper, want, putT, xop, ev, bin, intBin, isShift, okv, asNat_nat, takeAt, one, cellsOf, cellsAt_new, setCs_new, set_new, putAt, -List.getD_eq_getElem?_getD, rd_ne, rd_eq, List.length_set, List.getD_cons_zero, List.getD_cons_succ]
  · simp [f144, resOf, hl, exec, xops, xoper, want, putT, xop, ev, bin, intBin, isShift, okv, asNat_nat, takeAt, one, cellsOf, cellsAt_new, setCs_new, set_new, putAt, -List.getD_eq_getElem?_getD, rd_ne, rd_eq, List.length_set, List.getD_cons_zero, List.getD_cons_succ]

theorem weighEs_ok (l : Exs) (n : Nat) (hn : l.sz < n) (hb : l.sz < 2 ^ 61) (m : Int) : ∃ b, callN TE n 144 [l.x, .int .i64 m] [] = some (.ret (.int .i64 b) []) := by
  obtain ⟨n, rfl⟩ : ∃ k, n = k + 1 := ⟨n - 1, by omega⟩
  have := Exs.len_le l
  exact run144 l m (by omega) (by omega) (weighE_all l n (by omega) hb)

/-! ### statements -/
mutual
inductive Sm where
  | mk (kind at_ : Int) (name : List UInt8) (index : Exs) (e : Ex) (lo hi : Int) (th el : Sms)
inductive Sms where
  | nil (z : Bool)
  | cons (e : Sm) (r : Sms)
end

def Sms.len : Sms → Nat
  | .nil _ => 0
  | .cons _ r => r.len + 1

def Sms.ptr (cs : List XV) : Sms → XV
  | .nil true => .nils
  | .nil false => .vs 0 []
  | .cons _ r => .vs (r.len + 1) cs

mutual
def Sm.enc : Sm → List XV
  | .mk kind a name index e lo hi th el => .int .u8 kind :: .int .i64 a :: .str name :: index.x :: (e.enc ++ [.int .i32 lo, .int .i32 hi, th.ptr th.cells, el.ptr el.cells])
def Sms.cells : Sms → List XV
  | .nil _ => []
  | .cons e r => e.enc ++ r.cells
end

def Sms.x (l : Sms) : XV := l.ptr l.cells

mutual
def Sm.sz : Sm → Nat
  | .mk _ _ _ index e _ _ th el => index.sz + e.sz + th.sz + el.sz + 1
def Sms.sz : Sms → Nat
  | .nil _ => 1
  | .cons e r => e.sz + r.sz + 1
end

theorem Sm.enc_length (e : Sm) : e.enc.length = 15 := by cases e; simp [Sm.enc, Ex.enc_length]
theorem Sms.cells_length : ∀ l : Sms, l.cells.length = l.len * 15
  | .nil _ => by simp [Sms.cells, Sms.len]
  | .cons e r => by simp [Sms.cells, Sms.len, Sm.enc_length, Sms.cells_length r]; omega
theorem Sms.len_le : ∀ l : Sms, l.len + 1 ≤ l.sz
  | .nil _ => by simp [Sms.len, Sms.sz]
  | .cons e r => by have := Sms.len_le r; simp [Sms.len, Sms.sz]; omega
theorem Sms.lenOf_x (l : Sms) : lenOf false l.x = some l.len := by
  cases l with
  | nil z => cases z <;> rfl
  | cons e r => rfl
theorem Sms.x_vs {l : Sms} {i : Nat} (h : i < l.len) : l.x = .vs l.len l.cells := by
  cases l with
  | nil z => simp [Sms.len] at h
  | cons e r => rfl
theorem Sms.leaf_x (l : Sms) : leaf l.x = true := by
  cases l with
  | nil z => cases z <;> rfl
  | cons e r => rfl
@[simp] theorem Sms.leaf_ptr (l : Sms) : leaf (l.ptr l.cells) = true := Sms.leaf_x l
@[simp] theorem Sms.bare_ptr (l : Sms) : bare (l.ptr l.cells) = true := bare_leaf (Sms.leaf_x l)
@[simp] theorem Sms.bare_x (l : Sms) : bare l.x = true := bare_leaf (Sms.leaf_x l)
@[simp] theorem Sms.leaf_x' (l : Sms) : leaf l.x = true := Sms.leaf_x l
@[simp] theorem Exs.leaf_x' (l : Exs) : leaf l.x = true := Exs.leaf_x l
@[simp] theorem Sms.oneCell_ptr (l : Sms) (cs : List XV) : oneCell (l.ptr cs) = true := by
  cases l with
  | nil z => cases z <;> rfl
  | cons e r => rfl
@[simp] theorem Exs.oneCell_x (l : Exs) : oneCell l.x = true := Exs.oneCell_ptr l _
@[simp] theorem Sms.oneCell_x (l : Sms) : oneCell l.x = true := Sms.oneCell_ptr l _
theorem leafs_append : ∀ {a b : List XV}, leafs a = true → leafs b = true → leafs (a ++ b) = true
  | [], _, _, h => h
  | x :: a, b, h1, h2 => by
    simp only [leafs, Bool.and_eq_true] at h1
    simp only [List.cons_append, leafs, Bool.and_eq_true]
    exact ⟨h1.1, leafs_append h1.2 h2⟩
theorem Sm.leafs_enc (e : Sm) : leafs e.enc = true := by
  obtain ⟨kind, a, name, index, e, lo, hi, th, el⟩ := e
  simp only [Sm.enc, leafs, leaf_int, leaf_str, Exs.leaf_x', Bool.true_and]
  exact leafs_append (Ex.leafs_enc e) (by simp [leafs])
@[simp] theorem Sm.bare_enc (e : Sm) : bare (.agg e.enc) = true := by simp [Sm.leafs_enc, Sm.enc_length]

def Sms.All (p : Sm → Prop) : Sms → Prop
  | .nil _ => True
  | .cons e r => p e ∧ r.All p

theorem Sms.get {P : Sm → Prop} : ∀ {l : Sms} {i : Nat}, i < l.len → l.All P → ∃ (a : Sm) (rest : List XV), l.cells.drop (i * 15) = a.enc ++ rest ∧ P a
  | .nil _, _, h, _ => by simp [Sms.len] at h
  | .cons e r, 0, _, hall => ⟨e, r.cells, by simp [Sms.cells], hall.1⟩
  | .cons e r, i + 1, h, hall => by
    obtain ⟨a, rest, h1, h2⟩ := Sms.get (l := r) (i := i) (by simpa [Sms.len] using h) hall.2
    refine ⟨a, rest, ?_, h2⟩
    rw [show (i + 1) * 15 = 15 + i * 15 by omega, ← List.drop_drop]
    simp only [Sms.cells]
    rw [List.drop_left' (Sm.enc_length e), h1]

/-! ### declarations -/
structure De where
  a : Int
  input : Bool
  name : List UInt8
  ty : Int
  len : Int
  range : Bool
  lo : Ex
  hi : Ex

def De.enc (d : De) : List XV := .int .i64 d.a :: .bool d.input :: .str d.name :: .int .u8 d.ty :: .int .i64 d.len :: .bool d.range :: (d.lo.enc ++ d.hi.enc)
theorem De.enc_length (d : De) : d.enc.length = 20 := by simp [De.enc, Ex.enc_length]
def desCells : List De → List XV
  | [] => []
  | d :: r => d.enc ++ desCells r
def desX (z : Bool) (l : List De) : XV := match l with
  | [] => if z then .nils else .vs 0 []
  | l => .vs l.length (desCells l)
theorem desCells_length : ∀ l : List De, (desCells l).length = l.length * 20
  | [] => rfl
  | d :: r => by simp [desCells, De.enc_length, desCells_length r]; omega

structure Pr where
  ticks : Int
  z : Bool
  decls : List De
  init : Sms
  step : Sms

def Pr.enc (p : Pr) : List XV := [.int .i64 p.ticks, desX p.z p.decls, p.init.x, p.step.x]

def De.sz (d : De) : Nat := d.lo.sz + d.hi.sz + 1
def desSz : List De → Nat
  | [] => 1
  | d :: r => d.sz + desSz r + 1
def Pr.sz (p : Pr) : Nat := desSz p.decls + p.init.sz + p.step.sz + 1

end Go.Proofs.YtnifjgdhgnmhmaaGreatDoor
namespace Go.Proofs.YtnifjgdhgnmhmaaGreatDoor
open Go Go.X
set_option linter.unusedSimpArgs false

def IntC (call : CallF) (f : Nat) (x : XV) : Prop := ∀ m : Int, ∃ b, call f [x, .int .i64 m] [] = some (.ret (.int .i64 b) [])

def WS (call : CallF) : Sm → Prop
  | .mk _ _ _ index e _ _ th el => IntC call 144 index.x ∧ IntC call 87 (.agg e.enc) ∧ IntC call 88 th.x ∧ IntC call 88 el.x

def I88 (l : Sms) (most : Int) (i : Nat) (s : St) : Prop :=
  s.D = [] ∧ s.T.length = 87 ∧ s.T.getD 0 und = l.x ∧ s.T.getD 1 und = .int .i64 most ∧ (∃ m, s.T.getD 5 und = .int .i64 m) ∧ s.T.getD 6 und = .int .i64 (i : Int)

theorem f88.p1 {call : CallF} {k i : Nat} {l : Sms} {most : Int} {s : St} (hs : I88 l most i s) (hlt : i < l.len) (hall : l.All (WS call)) :
    ∃ s', exec TE call k (.seq (.region f88.r5) (.cond (.t 32) (.region f88.r6) .skip)) s = some (.norm, s') ∧ I88 l most i s' := by
  obtain ⟨T, H, D⟩ := s
  obtain ⟨rfl, hl, h0, h1, ⟨m, h5⟩, h6⟩ := hs
  simp only at hl h0 h1 h5 h6
  by_cases hm : m ≤ most
  · obtain ⟨a, rest, ha, hW⟩ := Sms.get hlt hall
    have hx := Sms.x_vs hlt
    rw [hx] at h0
    have hcl := Sms.cells_length l
    have hle : i * 15 ≤ l.cells.length := by omega
    obtain ⟨kind, at_, name, index, ⟨op, eat, bb, ii, ff, ename, args⟩, lo, hi, th, el⟩ := a
    simp only [WS, IntC, Ex.enc, Sms.x] at hW
    simp only [Sm.enc, Ex.enc, List.cons_append, List.nil_append] at ha
    obtain ⟨b, hb⟩ := hW.1 (IntKind.i64.wrap (most - m))
    have hdc : ∀ H, docall TE call 144 [index.x, .int .i64 (IntKind.i64.wrap (most - m))] H = some (.ret (.int .i64 b) H) := fun H =>
      docall_iso (E := TE) rfl rfl (by simp [bares, leafs]) (by simp) hb H
    refine ⟨?s1, ?e1, ?i1⟩
    case e1 =>
      simp [f88.r5, f88.r6, hlt, hm, hle, ha, hdc, hl, h0, h1, h5, h6, cellsAt, List.getElem?_set, exec, xops, xoper, want, putT, xop, ev, bin, intBin, isShift, okv, asNat_nat, takeAt, one, cellsOf, cellsAt_new, setCs_new, set_new, putAt, -List.getD_eq_getElem?_getD, rd_ne, rd_eq, List.length_set, List.getD_cons_zero, List.getD_cons_succ]
      rfl
    case i1 => simp [I88, hx, hl, h0, h1, h5, h6, exec, xops, xoper, want, putT, xop, ev, bin, intBin, isShift, okv, asNat_nat, takeAt, one, cellsOf, cellsAt_new, setCs_new, set_new, putAt, -List.getD_eq_getElem?_getD, rd_ne, rd_eq, List.length_set, List.getD_cons_zero, List.getD_cons_succ]
  · refine ⟨?s2, ?e2, ?i2⟩
    case e2 =>
      simp [f88.r5, hm, hl, h0, h1, h5, h6, cellsAt, List.getElem?_set, exec, xops, xoper, want, putT, xop, ev, bin, intBin, isShift, okv, asNat_nat, takeAt, one, cellsOf, cellsAt_new, setCs_new, set_new, putAt, -List.getD_eq_getElem?_getD, rd_ne, rd_eq, List.length_set, List.getD_cons_zero, List.getD_cons_succ]
      rfl
    case i2 => simp [I88, hl, h0, h1, h5, h6, exec, xops, xoper, want, putT, xop, ev, bin, intBin, isShift, okv, asNat_nat, takeAt, one, cellsOf, cellsAt_new, setCs_new, set_new, putAt, -List.getD_eq_getElem?_getD, rd_ne, rd_eq, List.length_set, List.getD_cons_zero, List.getD_cons_succ]

theorem f88.p2 {call : CallF} {k i : Nat} {l : Sms} {most : Int} {s : St} (hs : I88 l most i s) (hlt : i < l.len) (hall : l.All (WS call)) :
    ∃ s', exec TE call k (.seq (.region f88.r7) (.cond (.t 46) (.region f88.r8) .skip)) s = some (.norm, s') ∧ I88 l most i s' := by
  obtain ⟨T, H, D⟩ := s
  obtain ⟨rfl, hl, h0, h1, ⟨m, h5⟩, h6⟩ := hs
  simp only at hl h0 h1 h5 h6
  by_cases hm : m ≤ most
  · obtain ⟨a, rest, ha, hW⟩ := Sms.get hlt hall
    have hx := Sms.x_vs hlt
    rw [hx] at h0
    have hcl := Sms.cells_length l
    have hle : i * 15 ≤ l.cells.length := by omega
    obtain ⟨kind, at_, name, index, ⟨op, eat, bb, ii, ff, ename, args⟩, lo, hi, th, el⟩ := a
    simp only [WS, IntC, Ex.enc, Sms.x] at hW
    simp only [Sm.enc, Ex.enc, List.cons_append, List.nil_append] at ha
    obtain ⟨b, hb⟩ := hW.2.1 (IntKind.i64.wrap (most - m))
    have hdc : ∀ H, docall TE call 87 [.agg [.int .u8 op, .int .i64 eat, .bool bb, .int .i32 ii, .int .u64 ff, .str ename, args.ptr args.cells], .int .i64 (IntKind.i64.wrap (most - m))] H = some (.ret (.int .i64 b) H) := fun H =>
      docall_iso (E := TE) rfl rfl (by simp [bares, leafs]) (by simp) hb H
    refine ⟨?s3, ?e3, ?i3⟩
    case e3 =>
      simp [f88.r7, f88.r8, hlt, hm, hle, ha, hdc, hl, h0, h1, h5, h6, cellsAt, List.getElem?_set, exec, xops, xoper, want, putT, xop, ev, bin, intBin, isShift, okv, asNat_nat, takeAt, one, cellsOf, cellsAt_new, setCs_new, set_new, putAt, -List.getD_eq_getElem?_getD, rd_ne, rd_eq, List.length_set, List.getD_cons_zero, List.getD_cons_succ]
      rfl
    case i3 => simp [I88, hx, hl, h0, h1, h5, h6, exec, xops, xoper, want, putT, xop, ev, bin, intBin, isShift, okv, asNat_nat, takeAt, one, cellsOf, cellsAt_new, setCs_new, set_new, putAt, -List.getD_eq_getElem?_getD, rd_ne, rd_eq, List.length_set, List.getD_cons_zero, List.getD_cons_succ]
  · refine ⟨?s4, ?e4, ?i4⟩
    case e4 =>
      simp [f88.r7, hm, hl, h0, h1, h5, h6, cellsAt, List.getElem?_set, exec, xops, xoper, want, putT, xop, ev, bin, intBin, isShift, okv, asNat_nat, takeAt, one, cellsOf, cellsAt_new, setCs_new, set_new, putAt, -List.getD_eq_getElem?_getD, rd_ne, rd_eq, List.length_set, List.getD_cons_zero, List.getD_cons_succ]
      rfl
    case i4 => simp [I88, hl, h0, h1, h5, h6, exec, xops, xoper, want, putT, xop, ev, bin, intBin, isShift, okv, asNat_nat, takeAt, one, cellsOf, cellsAt_new, setCs_new, set_new, putAt, -List.getD_eq_getElem?_getD, rd_ne, rd_eq, List.length_set, List.getD_cons_zero, List.getD_cons_succ]

theorem f88.p3 {call : CallF} {k i : Nat} {l : Sms} {most : Int} {s : St} (hs : I88 l most i s) (hlt : i < l.len) (hall : l.All (WS call)) :
    ∃ s', exec TE call k (.seq (.region f88.r9) (.cond (.t 60) (.region f88.r10) .skip)) s = some (.norm, s') ∧ I88 l most i s' := by
  obtain ⟨T, H, D⟩ := s
  obtain ⟨rfl, hl, h0, h1, ⟨m, h5⟩, h6⟩ := hs
  simp only at hl h0 h1 h5 h6
  by_cases hm : m ≤ most
  · obtain ⟨a, rest, ha, hW⟩ := Sms.get hlt hall
    have hx := Sms.x_vs hlt
    rw [hx] at h0
    have hcl := Sms.cells_length l
    have hle : i * 15 ≤ l.cells.length := by omega
    obtain ⟨kind, at_, name, index, ⟨op, eat, bb, ii, ff, ename, args⟩, lo, hi, th, el⟩ := a
    simp only [WS, IntC, Ex.enc, Sms.x] at hW
    simp only [Sm.enc, Ex.enc, List.cons_append, List.nil_append] at ha
    obtain ⟨b, hb⟩ := hW.2.2.1 (IntKind.i64.wrap (most - m))
    have hdc : ∀ H, docall TE call 88 [th.ptr th.cells, .int .i64 (IntKind.i64.wrap (most - m))] H = some (.ret (.int .i64 b) H) := fun H =>
      docall_iso (E := TE) rfl rfl (by simp [bares, leafs]) (by simp) hb H
    refine ⟨?s5, ?e5, ?i5⟩
    case e5 =>
      simp [f88.r9, f88.r10, hlt, hm, hle, ha, hdc, hl, h0, h1, h5, h6, cellsAt, List.getElem?_set, exec, xops, xoper, want, putT, xop, ev, bin, intBin, isShift, okv, asNat_nat, takeAt, one, cellsOf, cellsAt_new, setCs_new, set_new, putAt, -List.getD_eq_getElem?_getD, rd_ne, rd_eq, List.length_set, List.getD_cons_zero, List.getD_cons_succ]
      rfl
    case i5 => simp [I88, hx, hl, h0, h1, h5, h6, exec, xops, xoper, want, putT, xop, ev, bin, intBin, isShift, okv, asNat_nat, takeAt, one, cellsOf, cellsAt_new, setCs_new, set_new, putAt, -List.getD_eq_getElem?_getD, rd_ne, rd_eq, List.length_set, List.getD_cons_zero, List.getD_cons_succ]
  · refine ⟨?s6, ?e6, ?i6⟩
    case e6 =>
      simp [f88.r9, hm, hl, h0, h1, h5, h6, cellsAt, List.getElem?_set, exec, xops, xoper, want, putT, xop, ev, bin, intBin, isShift, okv, asNat_nat, takeAt, one, cellsOf, cellsAt_new, setCs_new, set_new, putAt, -List.getD_eq_getElem?_getD, rd_ne, rd_eq, List.length_set, List.getD_cons_zero, List.getD_cons_succ]
      rfl
    case i6 => simp [I88, hl, h0, h1, h5, h6, exec, xops, xoper, want, putT, xop, ev, bin, intBin, isShift, okv, asNat_nat, takeAt, one, cellsOf, cellsAt_new, setCs_new, set_new, putAt, -List.getD_eq_getElem?_getD, rd_ne, rd_eq, List.length_set, List.getD_cons_zero, List.getD_cons_succ]

theorem f88.p4 {call : CallF} {k i : Nat} {l : Sms} {most : Int} {s : St} (hs : I88 l most i s) (hlt : i < l.len) (hall : l.All (WS call)) :
    ∃ s', exec TE call k (.seq (.region f88.r11) (.cond (.t 74) (.region f88.r12) .skip)) s = some (.norm, s') ∧ I88 l most i s' := by
  obtain ⟨T, H, D⟩ := s
  obtain ⟨rfl, hl, h0, h1, ⟨m, h5⟩, h6⟩ := hs
  simp only at hl h0 h1 h5 h6
  by_cases hm : m ≤ most
  · obtain ⟨a, rest, ha, hW⟩ := Sms.get hlt hall
    have hx := Sms.x_vs hlt
    rw [hx] at h0
    have hcl := Sms.cells_length l
    have hle : i * 15 ≤ l.cells.length := by omega
    obtain ⟨kind, at_, name, index, ⟨op, eat, bb, ii, ff, ename, args⟩, lo, hi, th, el⟩ := a
    simp only [WS, IntC, Ex.enc, Sms.x] at hW
    simp only [Sm.enc, Ex.enc, List.cons_append, List.nil_append] at ha
    obtain ⟨b, hb⟩ := hW.2.2.2 (IntKind.i64.wrap (most - m))
    have hdc : ∀ H, docall TE call 88 [el.ptr el.cells, .int .i64 (IntKind.i64.wrap (most - m))] H = some (.ret (.int .i64 b) H) := fun H =>
      docall_iso (E := TE) rfl rfl (by simp [bares, leafs]) (by simp) hb H
    refine ⟨?s7, ?e7, ?i7⟩
    case e7 =>
      simp [f88.r11, f88.r12, hlt, hm, hle, ha, hdc, hl, h0, h1, h5, h6, cellsAt, List.getElem?_set, exec, xops, xoper, want, putT, xop, ev, bin, intBin, isShift, okv, asNat_nat, takeAt, one, cellsOf, cellsAt_new, setCs_new, set_new, putAt, -List.getD_eq_getElem?_getD, rd_ne, rd_eq, List.length_set, List.getD_cons_zero, List.getD_cons_succ]
      rfl
    case i7 => simp [I88, hx, hl, h0, h1, h5, h6, exec, xops, xoper, want, putT, xop, ev, bin, intBin, isShift, okv, asNat_nat, takeAt, one, cellsOf, cellsAt_new, setCs_new, set_new, putAt, -List.getD_eq_getElem?_getD, rd_ne, rd_eq, List.length_set, List.getD_cons_zero, List.getD_cons_succ]
  · refine ⟨?s8, ?e8, ?i8⟩
    case e8 =>
      simp [f88.r11, hm, hl, h0, h1, h5, h6, cellsAt, List.getElem?_set, exec, xops, xoper, want, putT, xop, ev, bin, intBin, isShift, okv, asNat_nat, takeAt, one, cellsOf, cellsAt_new, setCs_new, set_new, putAt, -List.getD_eq_getElem?_getD, rd_ne, rd_eq, List.length_set, List.getD_cons_zero, List.getD_cons_succ]
      rfl
    case i8 => simp [I88, hl, h0, h1, h5, h6, exec, xops, xoper, want, putT, xop, ev, bin, intBin, isShift, okv, asNat_nat, takeAt, one, cellsOf, cellsAt_new, setCs_new, set_new, putAt, -List.getD_eq_getElem?_getD, rd_ne, rd_eq, List.length_set, List.getD_cons_zero, List.getD_cons_succ]

theorem f88.p0 {call : CallF} {k i : Nat} {l : Sms} {most : Int} {s : St} (hs : I88 l most i s) (hlt : i < l.len) :
    ∃ s', exec TE call k (.region f88.r4) s = some (.norm, s') ∧ I88 l most i s' := by
  obtain ⟨T, H, D⟩ := s
  obtain ⟨rfl, hl, h0, h1, ⟨m, h5⟩, h6⟩ := hs
  simp only at hl h0 h1 h5 h6
  have hall : l.All (fun _ => True) := by
    clear h0 hlt
    induction l using Sms.rec (motive_1 := fun _ => True) <;> simp_all [Sms.All]
  obtain ⟨a, rest, ha, _⟩ := Sms.get hlt hall
  have hx := Sms.x_vs hlt
  rw [hx] at h0
  have hcl := Sms.cells_length l
  have hle : i * 15 ≤ l.cells.length := by omega
  obtain ⟨kind, at_, name, index, ⟨op, eat, bb, ii, ff, ename, args⟩, lo, hi, th, el⟩ := a
  simp only [Sm.enc, Ex.enc, List.cons_append, List.nil_append] at ha
  have hmin : ∀ a b : Int, fold2 min2 (.int .i64 a) [.int .i64 b] = some (.int .i64 (if b < a then b else a)) := fun a b => by simp [fold2, min2]
  refine ⟨?s9, ?e9, ?i9⟩
  case e9 =>
    simp [f88.r4, hlt, hle, ha, hmin, lenOf, hl, h0, h1, h5, h6, cellsAt, List.getElem?_set, exec, xops, xoper, want, putT, xop, ev, bin, intBin, isShift, okv, asNat_nat, takeAt, one, cellsOf, cellsAt_new, setCs_new, set_new, putAt, -List.getD_eq_getElem?_getD, rd_ne, rd_eq, List.length_set, List.getD_cons_zero, List.getD_cons_succ]
    rfl
  case i9 => simp [I88, hx, hl, h0, h1, h5, h6, exec, xops, xoper, want, putT, xop, ev, bin, intBin, isShift, okv, asNat_nat, takeAt, one, cellsOf, cellsAt_new, setCs_new, set_new, putAt, -List.getD_eq_getElem?_getD, rd_ne, rd_eq, List.length_set, List.getD_cons_zero, List.getD_cons_succ]

def tail88 : XC := .seq (.region f88.r4) (.seq (.seq (.region f88.r5) (.cond (.t 32) (.region f88.r6) (.skip))) (.seq (.seq (.region f88.r7) (.cond (.t 46) (.region f88.r8) (.skip))) (.seq (.seq (.region f88.r9) (.cond (.t 60) (.region f88.r10) (.skip))) (.seq (.region f88.r11) (.cond (.t 74) (.region f88.r12) (.skip))))))

theorem tail88_ok {call : CallF} {k i : Nat} {l : Sms} {most : Int} {s : St} (hs : I88 l most i s) (hlt : i < l.len) (hall : l.All (WS call)) : ∃ s', exec TE call k tail88 s = some (.norm, s') ∧ I88 l most i s' := by
  obtain ⟨s0, e0, i0⟩ := f88.p0 (call := call) (k := k) hs hlt
  obtain ⟨s1, e1, i1⟩ := f88.p1 (k := k) i0 hlt hall
  obtain ⟨s2, e2, i2⟩ := f88.p2 (k := k) i1 hlt hall
  obtain ⟨s3, e3, i3⟩ := f88.p3 (k := k) i2 hlt hall
  obtain ⟨s4, e4, i4⟩ := f88.p4 (k := k) i3 hlt hall
  refine ⟨s4, ?_, i4⟩
  unfold tail88
  rw [exec_seq_norm e0, exec_seq_norm e1, exec_seq_norm e2, exec_seq_norm e3, e4]

def body88 : XC := (.seq (.seq (.region f88.r3) (.cond (.t 15) (.skip) (.exit 0))) (.seq (.block 1 tail88) (.region f88.r13)))

theorem round88 {call : CallF} {k i : Nat} {l : Sms} {most : Int} {s : St} (hs : I88 l most i s) (hi : i + 1 < 2 ^ 63) (hall : l.All (WS call)) :
    (∃ s' j, exec TE call k body88 s = some (.exit 0, s') ∧ I88 l most j s') ∨ (i < l.len ∧ ∃ s', exec TE call k body88 s = some (.norm, s') ∧ I88 l most (i + 1) s') := by
  have hs0 := hs
  obtain ⟨T, H, D⟩ := s
  obtain ⟨rfl, hl, h0, h1, ⟨m, h5⟩, h6⟩ := hs
  simp only at hl h0 h1 h5 h6
  have hlen := Sms.lenOf_x l
  by_cases hlt : i < l.len
  · by_cases hm : m ≤ most
    · right
      refine ⟨hlt, ?_⟩
      have hw2 : IntKind.i64.wrap ((i : Int) + 1) = (i : Int) + 1 := wrap_small (by omega) (by omega)
      have head : ∃ s', exec TE call k (.seq (.region f88.r3) (.cond (.t 15) (.skip) (.exit 0))) ⟨T, H, []⟩ = some (.norm, s') ∧ I88 l most i s' := by
        refine ⟨?s10, ?e10, ?i10⟩
        case e10 =>
          simp [f88.r3, hlen, hlt, hm, hl, h0, h1, h5, h6, cellsAt, List.getElem?_set, exec, xops, xoper, want, putT, xop, ev, bin, intBin, isShift, okv, asNat_nat, takeAt, one, cellsOf, cellsAt_new, setCs_new, set_new, putAt, -List.getD_eq_getElem?_getD, rd_ne, rd_eq, List.length_set, List.getD_cons_zero, List.getD_cons_succ]
          rfl
        case i10 => simp [I88, hl, h0, h1, h5, h6, exec, xops, xoper, want, putT, xop, ev, bin, intBin, isShift, okv, asNat_nat, takeAt, one, cellsOf, cellsAt_new, setCs_new, set_new, putAt, -List.getD_eq_getElem?_getD, rd_ne, rd_eq, List.length_set, List.getD_cons_zero, List.getD_cons_succ]
      obtain ⟨s1, e1, i1⟩ := head
      obtain ⟨s2, e2, i2⟩ := tail88_ok (k := k) i1 hlt hall
      obtain ⟨T2, H2, D2⟩ := s2
      obtain ⟨rfl, gl, g0, g1, ⟨m2, g5⟩, g6⟩ := i2
      simp only at gl g0 g1 g5 g6
      refine ⟨⟨(T2.set 16 (.int .i64 (i : Int))).set 17 (.int .i64 ((i : Int) + 1)) |>.set 6 (.int .i64 ((i : Int) + 1)), H2, []⟩, ?_, ?_⟩
      · unfold body88
        rw [exec_seq_norm e1, exec_seq_norm (exec_block_norm e2)]
        simp [f88.r13, hw2, gl, g0, g1, g5, g6, exec, xops, xoper, want, putT, xop, ev, bin, intBin, isShift, okv, asNat_nat, takeAt, one, cellsOf, cellsAt_new, setCs_new, set_new, putAt, -List.getD_eq_getElem?_getD, rd_ne, rd_eq, List.length_set, List.getD_cons_zero, List.getD_cons_succ]
      · simp [I88, gl, g0, g1, g5, g6, exec, xops, xoper, want, putT, xop, ev, bin, intBin, isShift, okv, asNat_nat, takeAt, one, cellsOf, cellsAt_new, setCs_new, set_new, putAt, -List.getD_eq_getElem?_getD, rd_ne, rd_eq, List.length_set, List.getD_cons_zero, List.getD_cons_succ]
    · left
      refine ⟨?s11, i, ?e11, ?i11⟩
      case e11 =>
        simp [body88, f88.r3, hlen, hlt, hm, hl, h0, h1, h5, h6, cellsAt, List.getElem?_set, exec, xops, xoper, want, putT, xop, ev, bin, intBin, isShift, okv, asNat_nat, takeAt, one, cellsOf, cellsAt_new, setCs_new, set_new, putAt, -List.getD_eq_getElem?_getD, rd_ne, rd_eq, List.length_set, List.getD_cons_zero, List.getD_cons_succ]
        rfl
      case i11 => simp [I88, hl, h0, h1, h5, h6, exec, xops, xoper, want, putT, xop, ev, bin, intBin, isShift, okv, asNat_nat, takeAt, one, cellsOf, cellsAt_new, setCs_new, set_new, putAt, -List.getD_eq_getElem?_getD, rd_ne, rd_eq, List.length_set, List.getD_cons_zero, List.getD_cons_succ]
  · left
    refine ⟨?s12, i, ?e12, ?i12⟩
    case e12 =>
      simp [body88, f88.r3, hlen, hlt, hl, h0, h1, h5, h6, cellsAt, List.getElem?_set, exec, xops, xoper, want, putT, xop, ev, bin, intBin, isShift, okv, asNat_nat, takeAt, one, cellsOf, cellsAt_new, setCs_new, set_new, putAt, -List.getD_eq_getElem?_getD, rd_ne, rd_eq, List.length_set, List.getD_cons_zero, List.getD_cons_succ]
      rfl
    case i12 => simp [I88, hl, h0, h1, h5, h6, exec, xops, xoper, want, putT, xop, ev, bin, intBin, isShift, okv, asNat_nat, takeAt, one, cellsOf, cellsAt_new, setCs_new, set_new, putAt, -List.getD_eq_getElem?_getD, rd_ne, rd_eq, List.length_set, List.getD_cons_zero, List.getD_cons_succ]

theorem run88 {n : Nat} (l : Sms) (most : Int) (hln : l.len < n) (hb : l.len < 2 ^ 61) (hall : l.All (WS (callN TE n))) : ∃ b, callN TE (n + 1) 88 [l.x, .int .i64 most] [] = some (.ret (.int .i64 b) []) := by
  rw [callN_eq (xf := f88) rfl]
  have hf : frame0 f88 [l.x, .int .i64 most] = [l.x, .int .i64 most, und, und, und, und, und, und, und, und, und, und, und, und, und, und, und, und, und, und, und, und, und, und, und, und, und, und, und, und, und, und, und, und, und, und, und, und, und, und, und, und, und, und, und, und, und, und, und, und, und, und, und, und, und, und, und, und, und, und, und, und, und, und, und, und, und, und, und, und, und, und, und, und, und, und, und, und, und, und, und, und, und, und, und, und, und] := rfl
  have hbd : f88.body = .seq (.region f88.r0) (.seq (.region f88.r1) (.seq (.seq (.region f88.r2) (.block 0 (.loop body88))) (.seq (.region f88.r14) .ret))) := rfl
  obtain ⟨⟨T2, H2, D2⟩, j, h1, rfl, hl, h0, h3, ⟨m, h5⟩, h6⟩ := loop_count (body := exec TE (callN TE n) n body88) (I := I88 l most) (len := l.len) (x := .exit 0) (by simp) (fun i s hi hs => round88 hs (by omega) hall) n 0
    ⟨[l.x, .int .i64 most, und, und, .int .i64 0, .int .i64 0, .int .i64 0, und, und, und, und, und, und, und, und, und, und, und, und, und, und, und, und, und, und, und, und, und, und, und, und, und, und, und, und, und, und, und, und, und, und, und, und, und, und, und, und, und, und, und, und, und, und, und, und, und, und, und, und, und, und, und, und, und, und, und, und, und, und, und, und, und, und, und, und, und, und, und, und, und, und, und, und, und, und, und, und], [], []⟩ (by omega) (by omega) ⟨rfl, rfl, rfl, rfl, ⟨_, rfl⟩, rfl⟩
  simp only at hl h3 h5 h6
  refine ⟨m, runF_iso (T := (T2.set 86 (.int .i64 m)).set 4 (.int .i64 m)) (K := H2) (vs := [.int .i64 m]) (vis := []) rfl ?_ ?_ (frz_depth rfl _)⟩
  · rw [hf, hbd]
    simp [f88.r0, f88.r1, f88.r2, f88.r14, h1, hl, h5, exec, xops, xoper, want, putT, xop, ev, bin, intBin, isShift, okv, asNat_nat, takeAt, one, cellsOf, cellsAt_new, setCs_new, set_new, putAt, -List.getD_eq_getElem?_getD, rd_ne, rd_eq, List.length_set, List.getD_cons_zero, List.getD_cons_succ]
  · simp [f88, resOf, hl, exec, xops, xoper, want, putT, xop, ev, bin, intBin, isShift, okv, asNat_nat, takeAt, one, cellsOf, cellsAt_new, setCs_new, set_new, putAt, -List.getD_eq_getElem?_getD, rd_ne, rd_eq, List.length_set, List.getD_cons_zero, List.getD_cons_succ]

mutual
theorem weighS_one : ∀ (e : Sm) (n : Nat), e.sz < n → e.sz < 2 ^ 61 → WS (callN TE n) e
  | .mk kind at_ name index e lo hi th el, n, hn, hb => by
    simp only [Sm.sz] at hn hb
    exact ⟨weighEs_ok index n (by omega) (by omega), weighE_ok e n (by omega) (by omega), weighS_ok th n (by omega) (by omega), weighS_ok el n (by omega) (by omega)⟩
theorem weighS_all : ∀ (l : Sms) (n : Nat), l.sz ≤ n → l.sz < 2 ^ 61 → l.All (WS (callN TE n))
  | .nil _, _, _, _ => trivial
  | .cons e r, n, hn, hb => by
    simp only [Sms.sz] at hn hb
    exact ⟨weighS_one e n (by omega) (by omega), weighS_all r n (by omega) (by omega)⟩
theorem weighS_ok : ∀ (l : Sms) (n : Nat), l.sz < n → l.sz < 2 ^ 61 → IntC (callN TE n) 88 l.x
  | l, 0, hn, _ => by omega
  | l, n + 1, hn, hb => by
    have := Sms.len_le l
    exact fun m => run88 l m (by omega) (by omega) (weighS_all l n (by omega) hb)
end

end Go.Proofs.YtnifjgdhgnmhmaaGreatDoor
namespace Go.Proofs.YtnifjgdhgnmhmaaGreatDoor
open Go Go.X
set_option linter.unusedSimpArgs false

theorem desX_vs {z : Bool} {l : List De} {i : Nat} (h : i < l.length) : desX z l = .vs l.length (desCells l) := by
  cases l with
  | nil => simp at h
  | cons d r => rfl
theorem lenOf_des (z : Bool) (l : List De) : lenOf false (desX z l) = some l.length := by
  cases l with
  | nil => cases z <;> rfl
  | cons d r => rfl
@[simp] theorem leaf_des (z : Bool) (l : List De) : leaf (desX z l) = true := by
  cases l with
  | nil => cases z <;> rfl
  | cons d r => rfl
@[simp] theorem oneCell_des (z : Bool) (l : List De) : oneCell (desX z l) = true := by
  cases l with
  | nil => cases z <;> rfl
  | cons d r => rfl
@[simp] theorem bare_des (z : Bool) (l : List De) : bare (desX z l) = true := bare_leaf (leaf_des z l)
theorem desGet : ∀ {l : List De} {i : Nat}, i < l.length → ∃ d rest, (desCells l).drop (i * 20) = De.enc d ++ rest ∧ d ∈ l ∧ l[i]? = some d
  | [], _, h => by simp at h
  | d :: r, 0, _ => ⟨d, desCells r, by simp [desCells], by simp, rfl⟩
  | d :: r, i + 1, h => by
    obtain ⟨a, rest, h1, h2, h3⟩ := desGet (l := r) (i := i) (by simpa using h)
    refine ⟨a, rest, ?_, by simp [h2], by simpa using h3⟩
    rw [show (i + 1) * 20 = 20 + i * 20 by omega, ← List.drop_drop]
    simp only [desCells]
    rw [List.drop_left' (De.enc_length d), h1]
theorem Pr.leafs_enc (p : Pr) : leafs p.enc = true := by simp [Pr.enc, leafs]
@[simp] theorem Pr.bare_enc (p : Pr) : bare (.agg p.enc) = true := by simp [Pr.leafs_enc]; simp [Pr.enc]

def WP (call : CallF) (p : Pr) : Prop := (∀ d ∈ p.decls, IntC call 87 (.agg d.lo.enc) ∧ IntC call 87 (.agg d.hi.enc)) ∧ IntC call 88 p.init.x ∧ IntC call 88 p.step.x

def I39 (p : Pr) (most : Int) (i : Nat) (s : St) : Prop :=
  s.D = [] ∧ s.T.length = 85 ∧ s.H = [.tcells p.enc 66 true] ∧ s.T.getD 2 und = .ptr 0 0 ∧ s.T.getD 1 und = .int .i64 most ∧ (∃ m, s.T.getD 5 und = .int .i64 m) ∧ s.T.getD 6 und = .int .i64 (i : Int)

theorem f39.d1 {call : CallF} {k i : Nat} {p : Pr} {most : Int} {s : St} (hs : I39 p most i s) (hlt : i < p.decls.length) (hall : WP call p) :
    ∃ s', exec TE call k (.seq (.region f39.r5) (.cond (.t 34) (.region f39.r6) .skip)) s = some (.norm, s') ∧ I39 p most i s' := by
  obtain ⟨T, H, D⟩ := s
  obtain ⟨rfl, hl, rfl, h2, h1, ⟨m, h5⟩, h6⟩ := hs
  simp only at hl h2 h1 h5 h6
  by_cases hm : m ≤ most
  · obtain ⟨d, rest, hd, hmem, _⟩ := desGet hlt
    have hW := hall.1 d hmem
    have hx := desX_vs (z := p.z) hlt
    have hcl := desCells_length p.decls
    have hle : i * 20 ≤ (desCells p.decls).length := by omega
    obtain ⟨da, input, dname, ty, dlen, range, ⟨lop, loat, lob, loi, lof, lon, loargs⟩, ⟨hip, hiat, hib, hii, hif, hin, hiargs⟩⟩ := d
    simp only [IntC, Ex.enc] at hW
    simp only [De.enc, Ex.enc, List.cons_append, List.nil_append] at hd
    obtain ⟨b, hb⟩ := hW.1 (IntKind.i64.wrap (most - m))
    have hdc : ∀ H, docall TE call 87 [.agg [.int .u8 lop, .int .i64 loat, .bool lob, .int .i32 loi, .int .u64 lof, .str lon, loargs.ptr loargs.cells], .int .i64 (IntKind.i64.wrap (most - m))] H = some (.ret (.int .i64 b) H) := fun H =>
      docall_iso (E := TE) rfl rfl (by simp [bares, leafs]) (by simp) hb H
    refine ⟨?s1, ?e1, ?i1⟩
    case e1 =>
      simp [f39.r5, f39.r6, Pr.enc, hx, hlt, hm, hle, hd, hdc, hl, h2, h1, h5, h6, cellsAt, List.getElem?_set, exec, xops, xoper, want, putT, xop, ev, bin, intBin, isShift, okv, asNat_nat, takeAt, one, cellsOf, cellsAt_new, setCs_new, set_new, putAt, -List.getD_eq_getElem?_getD, rd_ne, rd_eq, List.length_set, List.getD_cons_zero, List.getD_cons_succ]
      rfl
    case i1 => simp [I39, Pr.enc, hx, hl, h2, h1, h5, h6, exec, xops, xoper, want, putT, xop, ev, bin, intBin, isShift, okv, asNat_nat, takeAt, one, cellsOf, cellsAt_new, setCs_new, set_new, putAt, -List.getD_eq_getElem?_getD, rd_ne, rd_eq, List.length_set, List.getD_cons_zero, List.getD_cons_succ]
  · refine ⟨?s2, ?e2, ?i2⟩
    case e2 =>
      simp [f39.r5, hm, hl, h2, h1, h5, h6, cellsAt, List.getElem?_set, exec, xops, xoper, want, putT, xop, ev, bin, intBin, isShift, okv, asNat_nat, takeAt, one, cellsOf, cellsAt_new, setCs_new, set_new, putAt, -List.getD_eq_getElem?_getD, rd_ne, rd_eq, List.length_set, List.getD_cons_zero, List.getD_cons_succ]
      rfl
    case i2 => simp [I39, hl, h2, h1, h5, h6, exec, xops, xoper, want, putT, xop, ev, bin, intBin, isShift, okv, asNat_nat, takeAt, one, cellsOf, cellsAt_new, setCs_new, set_new, putAt, -List.getD_eq_getElem?_getD, rd_ne, rd_eq, List.length_set, List.getD_cons_zero, List.getD_cons_succ]

theorem f39.d2 {call : CallF} {k i : Nat} {p : Pr} {most : Int} {s : St} (hs : I39 p most i s) (hlt : i < p.decls.length) (hall : WP call p) :
    ∃ s', exec TE call k (.seq (.region f39.r7) (.cond (.t 49) (.region f39.r8) .skip)) s = some (.norm, s') ∧ I39 p most i s' := by
  obtain ⟨T, H, D⟩ := s
  obtain ⟨rfl, hl, rfl, h2, h1, ⟨m, h5⟩, h6⟩ := hs
  simp only at hl h2 h1 h5 h6
  by_cases hm : m ≤ most
  · obtain ⟨d, rest, hd, hmem, _⟩ := desGet hlt
    have hW := hall.1 d hmem
    have hx := desX_vs (z := p.z) hlt
    have hcl := desCells_length p.decls
    have hle : i * 20 ≤ (desCells p.decls).length := by omega
    obtain ⟨da, input, dname, ty, dlen, range, ⟨lop, loat, lob, loi, lof, lon, loargs⟩, ⟨hip, hiat, hib, hii, hif, hin, hiargs⟩⟩ := d
    simp only [IntC, Ex.enc] at hW
    simp only [De.enc, Ex.enc, List.cons_append, List.nil_append] at hd
    obtain ⟨b, hb⟩ := hW.2 (IntKind.i64.wrap (most - m))
    have hdc : ∀ H, docall TE call 87 [.agg [.int .u8 hip, .int .i64 hiat, .bool hib, .int .i32 hii, .int .u64 hif, .str hin, hiargs.ptr hiargs.cells], .int .i64 (IntKind.i64.wrap (most - m))] H = some (.ret (.int .i64 b) H) := fun H =>
      docall_iso (E := TE) rfl rfl (by simp [bares, leafs]) (by simp) hb H
    refine ⟨?s3, ?e3, ?i3⟩
    case e3 =>
      simp [f39.r7, f39.r8, Pr.enc, hx, hlt, hm, hle, hd, hdc, hl, h2, h1, h5, h6, cellsAt, List.getElem?_set, exec, xops, xoper, want, putT, xop, ev, bin, intBin, isShift, okv, asNat_nat, takeAt, one, cellsOf, cellsAt_new, setCs_new, set_new, putAt, -List.getD_eq_getElem?_getD, rd_ne, rd_eq, List.length_set, List.getD_cons_zero, List.getD_cons_succ]
      rfl
    case i3 => simp [I39, Pr.enc, hx, hl, h2, h1, h5, h6, exec, xops, xoper, want, putT, xop, ev, bin, intBin, isShift, okv, asNat_nat, takeAt, one, cellsOf, cellsAt_new, setCs_new, set_new, putAt, -List.getD_eq_getElem?_getD, rd_ne, rd_eq, List.length_set, List.getD_cons_zero, List.getD_cons_succ]
  · refine ⟨?s4, ?e4, ?i4⟩
    case e4 =>
      simp [f39.r7, hm, hl, h2, h1, h5, h6, cellsAt, List.getElem?_set, exec, xops, xoper, want, putT, xop, ev, bin, intBin, isShift, okv, asNat_nat, takeAt, one, cellsOf, cellsAt_new, setCs_new, set_new, putAt, -List.getD_eq_getElem?_getD, rd_ne, rd_eq, List.length_set, List.getD_cons_zero, List.getD_cons_succ]
      rfl
    case i4 => simp [I39, hl, h2, h1, h5, h6, exec, xops, xoper, want, putT, xop, ev, bin, intBin, isShift, okv, asNat_nat, takeAt, one, cellsOf, cellsAt_new, setCs_new, set_new, putAt, -List.getD_eq_getElem?_getD, rd_ne, rd_eq, List.length_set, List.getD_cons_zero, List.getD_cons_succ]

theorem f39.e1 {call : CallF} {k i : Nat} {p : Pr} {most : Int} {s : St} (hs : I39 p most i s) (hall : WP call p) :
    ∃ s', exec TE call k (.seq (.region f39.r10) (.cond (.t 64) (.region f39.r11) .skip)) s = some (.norm, s') ∧ I39 p most i s' := by
  obtain ⟨T, H, D⟩ := s
  obtain ⟨rfl, hl, rfl, h2, h1, ⟨m, h5⟩, h6⟩ := hs
  simp only at hl h2 h1 h5 h6
  by_cases hm : m ≤ most
  · obtain ⟨b, hb⟩ := hall.2.1 (IntKind.i64.wrap (most - m))
    have hdc : ∀ H, docall TE call 88 [p.init.x, .int .i64 (IntKind.i64.wrap (most - m))] H = some (.ret (.int .i64 b) H) := fun H =>
      docall_iso (E := TE) rfl rfl (by simp [bares, leafs]) (by simp) hb H
    refine ⟨?s5, ?e5, ?i5⟩
    case e5 =>
      simp [f39.r10, f39.r11, Pr.enc, hm, hdc, hl, h2, h1, h5, h6, cellsAt, List.getElem?_set, exec, xops, xoper, want, putT, xop, ev, bin, intBin, isShift, okv, asNat_nat, takeAt, one, cellsOf, cellsAt_new, setCs_new, set_new, putAt, -List.getD_eq_getElem?_getD, rd_ne, rd_eq, List.length_set, List.getD_cons_zero, List.getD_cons_succ]
      rfl
    case i5 => simp [I39, Pr.enc, hl, h2, h1, h5, h6, exec, xops, xoper, want, putT, xop, ev, bin, intBin, isShift, okv, asNat_nat, takeAt, one, cellsOf, cellsAt_new, setCs_new, set_new, putAt, -List.getD_eq_getElem?_getD, rd_ne, rd_eq, List.length_set, List.getD_cons_zero, List.getD_cons_succ]
  · refine ⟨?s6, ?e6, ?i6⟩
    case e6 =>
      simp [f39.r10, hm, hl, h2, h1, h5, h6, cellsAt, List.getElem?_set, exec, xops, xoper, want, putT, xop, ev, bin, intBin, isShift, okv, asNat_nat, takeAt, one, cellsOf, cellsAt_new, setCs_new, set_new, putAt, -List.getD_eq_getElem?_getD, rd_ne, rd_eq, List.length_set, List.getD_cons_zero, List.getD_cons_succ]
      rfl
    case i6 => simp [I39, hl, h2, h1, h5, h6, exec, xops, xoper, want, putT, xop, ev, bin, intBin, isShift, okv, asNat_nat, takeAt, one, cellsOf, cellsAt_new, setCs_new, set_new, putAt, -List.getD_eq_getElem?_getD, rd_ne, rd_eq, List.length_set, List.getD_cons_zero, List.getD_cons_succ]

theorem f39.e2 {call : CallF} {k i : Nat} {p : Pr} {most : Int} {s : St} (hs : I39 p most i s) (hall : WP call p) :
    ∃ s', exec TE call k (.seq (.region f39.r12) (.cond (.t 75) (.region f39.r13) .skip)) s = some (.norm, s') ∧ I39 p most i s' := by
  obtain ⟨T, H, D⟩ := s
  obtain ⟨rfl, hl, rfl, h2, h1, ⟨m, h5⟩, h6⟩ := hs
  simp only at hl h2 h1 h5 h6
  by_cases hm : m ≤ most
  · obtain ⟨b, hb⟩ := hall.2.2 (IntKind.i64.wrap (most - m))
    have hdc : ∀ H, docall TE call 88 [p.step.x, .int .i64 (IntKind.i64.wrap (most - m))] H = some (.ret (.int .i64 b) H) := fun H =>
      docall_iso (E := TE) rfl rfl (by simp [bares, leafs]) (by simp) hb H
    refine ⟨?s7, ?e7, ?i7⟩
    case e7 =>
      simp [f39.r12, f39.r13, Pr.enc, hm, hdc, hl, h2, h1, h5, h6, cellsAt, List.getElem?_set, exec, xops, xoper, want, putT, xop, ev, bin, intBin, isShift, okv, asNat_nat, takeAt, one, cellsOf, cellsAt_new, setCs_new, set_new, putAt, -List.getD_eq_getElem?_getD, rd_ne, rd_eq, List.length_set, List.getD_cons_zero, List.getD_cons_succ]
      rfl
    case i7 => simp [I39, Pr.enc, hl, h2, h1, h5, h6, exec, xops, xoper, want, putT, xop, ev, bin, intBin, isShift, okv, asNat_nat, takeAt, one, cellsOf, cellsAt_new, setCs_new, set_new, putAt, -List.getD_eq_getElem?_getD, rd_ne, rd_eq, List.length_set, List.getD_cons_zero, List.getD_cons_succ]
  · refine ⟨?s8, ?e8, ?i8⟩
    case e8 =>
      simp [f39.r12, hm, hl, h2, h1, h5, h6, cellsAt, List.getElem?_set, exec, xops, xoper, want, putT, xop, ev, bin, intBin, isShift, okv, asNat_nat, takeAt, one, cellsOf, cellsAt_new, setCs_new, set_new, putAt, -List.getD_eq_getElem?_getD, rd_ne, rd_eq, List.length_set, List.getD_cons_zero, List.getD_cons_succ]
      rfl
    case i8 => simp [I39, hl, h2, h1, h5, h6, exec, xops, xoper, want, putT, xop, ev, bin, intBin, isShift, okv, asNat_nat, takeAt, one, cellsOf, cellsAt_new, setCs_new, set_new, putAt, -List.getD_eq_getElem?_getD, rd_ne, rd_eq, List.length_set, List.getD_cons_zero, List.getD_cons_succ]

theorem f39.p0 {call : CallF} {k i : Nat} {p : Pr} {most : Int} {s : St} (hs : I39 p most i s) (hlt : i < p.decls.length) :
    ∃ s', exec TE call k (.region f39.r4) s = some (.norm, s') ∧ I39 p most i s' := by
  obtain ⟨T, H, D⟩ := s
  obtain ⟨rfl, hl, rfl, h2, h1, ⟨m, h5⟩, h6⟩ := hs
  simp only at hl h2 h1 h5 h6
  obtain ⟨d, rest, hd, hmem, _⟩ := desGet hlt
  have hx := desX_vs (z := p.z) hlt
  have hcl := desCells_length p.decls
  have hle : i * 20 ≤ (desCells p.decls).length := by omega
  obtain ⟨da, input, dname, ty, dlen, range, ⟨lop, loat, lob, loi, lof, lon, loargs⟩, ⟨hip, hiat, hib, hii, hif, hin, hiargs⟩⟩ := d
  simp only [De.enc, Ex.enc, List.cons_append, List.nil_append] at hd
  have hmin : ∀ a b : Int, fold2 min2 (.int .i64 a) [.int .i64 b] = some (.int .i64 (if b < a then b else a)) := fun a b => by simp [fold2, min2]
  refine ⟨?s9, ?e9, ?i9⟩
  case e9 =>
    simp [f39.r4, Pr.enc, hx, hlt, hle, hd, hmin, lenOf, hl, h2, h1, h5, h6, cellsAt, List.getElem?_set, exec, xops, xoper, want, putT, xop, ev, bin, intBin, isShift, okv, asNat_nat, takeAt, one, cellsOf, cellsAt_new, setCs_new, set_new, putAt, -List.getD_eq_getElem?_getD, rd_ne, rd_eq, List.length_set, List.getD_cons_zero, List.getD_cons_succ]
    rfl
  case i9 => simp [I39, Pr.enc, hx, hl, h2, h1, h5, h6, exec, xops, xoper, want, putT, xop, ev, bin, intBin, isShift, okv, asNat_nat, takeAt, one, cellsOf, cellsAt_new, setCs_new, set_new, putAt, -List.getD_eq_getElem?_getD, rd_ne, rd_eq, List.length_set, List.getD_cons_zero, List.getD_cons_succ]

def tail39 : XC := .seq (.region f39.r4) (.seq (.seq (.region f39.r5) (.cond (.t 34) (.region f39.r6) (.skip))) (.seq (.region f39.r7) (.cond (.t 49) (.region f39.r8) (.skip))))

theorem tail39_ok {call : CallF} {k i : Nat} {p : Pr} {most : Int} {s : St} (hs : I39 p most i s) (hlt : i < p.decls.length) (hall : WP call p) : ∃ s', exec TE call k tail39 s = some (.norm, s') ∧ I39 p most i s' := by
  obtain ⟨s0, e0, i0⟩ := f39.p0 (call := call) (k := k) hs hlt
  obtain ⟨s1, e1, i1⟩ := f39.d1 (k := k) i0 hlt hall
  obtain ⟨s2, e2, i2⟩ := f39.d2 (k := k) i1 hlt hall
  refine ⟨s2, ?_, i2⟩
  unfold tail39
  rw [exec_seq_norm e0, exec_seq_norm e1, e2]

def body39 : XC := (.seq (.seq (.region f39.r3) (.cond (.t 16) (.skip) (.exit 0))) (.seq (.block 1 tail39) (.region f39.r9)))

theorem round39 {call : CallF} {k i : Nat} {p : Pr} {most : Int} {s : St} (hs : I39 p most i s) (hi : i + 1 < 2 ^ 63) (hall : WP call p) :
    (∃ s' j, exec TE call k body39 s = some (.exit 0, s') ∧ I39 p most j s') ∨ (i < p.decls.length ∧ ∃ s', exec TE call k body39 s = some (.norm, s') ∧ I39 p most (i + 1) s') := by
  have hs0 := hs
  obtain ⟨T, H, D⟩ := s
  obtain ⟨rfl, hl, rfl, h2, h1, ⟨m, h5⟩, h6⟩ := hs
  simp only at hl h2 h1 h5 h6
  have hlen := lenOf_des p.z p.decls
  by_cases hlt : i < p.decls.length
  · by_cases hm : m ≤ most
    · right
      refine ⟨hlt, ?_⟩
      have hw2 : IntKind.i64.wrap ((i : Int) + 1) = (i : Int) + 1 := wrap_small (by omega) (by omega)
      have head : ∃ s', exec TE call k (.seq (.region f39.r3) (.cond (.t 16) (.skip) (.exit 0))) ⟨T, [.tcells p.enc 66 true], []⟩ = some (.norm, s') ∧ I39 p most i s' := by
        refine ⟨?s10, ?e10, ?i10⟩
        case e10 =>
          simp [f39.r3, Pr.enc, hlen, hlt, hm, hl, h2, h1, h5, h6, cellsAt, List.getElem?_set, exec, xops, xoper, want, putT, xop, ev, bin, intBin, isShift, okv, asNat_nat, takeAt, one, cellsOf, cellsAt_new, setCs_new, set_new, putAt, -List.getD_eq_getElem?_getD, rd_ne, rd_eq, List.length_set, List.getD_cons_zero, List.getD_cons_succ]
          rfl
        case i10 => simp [I39, Pr.enc, hl, h2, h1, h5, h6, exec, xops, xoper, want, putT, xop, ev, bin, intBin, isShift, okv, asNat_nat, takeAt, one, cellsOf, cellsAt_new, setCs_new, set_new, putAt, -List.getD_eq_getElem?_getD, rd_ne, rd_eq, List.length_set, List.getD_cons_zero, List.getD_cons_succ]
      obtain ⟨s1, e1, i1⟩ := head
      obtain ⟨s2, e2, i2⟩ := tail39_ok (k := k) i1 hlt hall
      obtain ⟨T2, H2, D2⟩ := s2
      obtain ⟨rfl, gl, rfl, g2, g1, ⟨m2, g5⟩, g6⟩ := i2
      simp only at gl g2 g1 g5 g6
      refine ⟨⟨(T2.set 17 (.int .i64 (i : Int))).set 18 (.int .i64 ((i : Int) + 1)) |>.set 6 (.int .i64 ((i : Int) + 1)), [.tcells p.enc 66 true], []⟩, ?_, ?_⟩
      · unfold body39
        rw [exec_seq_norm e1, exec_seq_norm (exec_block_norm e2)]
        simp [f39.r9, hw2, gl, g2, g1, g5, g6, exec, xops, xoper, want, putT, xop, ev, bin, intBin, isShift, okv, asNat_nat, takeAt, one, cellsOf, cellsAt_new, setCs_new, set_new, putAt, -List.getD_eq_getElem?_getD, rd_ne, rd_eq, List.length_set, List.getD_cons_zero, List.getD_cons_succ]
      · simp [I39, gl, g2, g1, g5, g6, exec, xops, xoper, want, putT, xop, ev, bin, intBin, isShift, okv, asNat_nat, takeAt, one, cellsOf, cellsAt_new, setCs_new, set_new, putAt, -List.getD_eq_getElem?_getD, rd_ne, rd_eq, List.length_set, List.getD_cons_zero, List.getD_cons_succ]
    · left
      refine ⟨?s11, i, ?e11, ?i11⟩
      case e11 =>
        simp [body39, f39.r3, Pr.enc, hlen, hlt, hm, hl, h2, h1, h5, h6, cellsAt, List.getElem?_set, exec, xops, xoper, want, putT, xop, ev, bin, intBin, isShift, okv, asNat_nat, takeAt, one, cellsOf, cellsAt_new, setCs_new, set_new, putAt, -List.getD_eq_getElem?_getD, rd_ne, rd_eq, List.length_set, List.getD_cons_zero, List.getD_cons_succ]
        rfl
      case i11 => simp [I39, Pr.enc, hl, h2, h1, h5, h6, exec, xops, xoper, want, putT, xop, ev, bin, intBin, isShift, okv, asNat_nat, takeAt, one, cellsOf, cellsAt_new, setCs_new, set_new, putAt, -List.getD_eq_getElem?_getD, rd_ne, rd_eq, List.length_set, List.getD_cons_zero, List.getD_cons_succ]
  · left
    refine ⟨?s12, i, ?e12, ?i12⟩
    case e12 =>
      simp [body39, f39.r3, Pr.enc, hlen, hlt, hl, h2, h1, h5, h6, cellsAt, List.getElem?_set, exec, xops, xoper, want, putT, xop, ev, bin, intBin, isShift, okv, asNat_nat, takeAt, one, cellsOf, cellsAt_new, setCs_new, set_new, putAt, -List.getD_eq_getElem?_getD, rd_ne, rd_eq, List.length_set, List.getD_cons_zero, List.getD_cons_succ]
      rfl
    case i12 => simp [I39, Pr.enc, hl, h2, h1, h5, h6, exec, xops, xoper, want, putT, xop, ev, bin, intBin, isShift, okv, asNat_nat, takeAt, one, cellsOf, cellsAt_new, setCs_new, set_new, putAt, -List.getD_eq_getElem?_getD, rd_ne, rd_eq, List.length_set, List.getD_cons_zero, List.getD_cons_succ]

theorem run39 {n : Nat} (p : Pr) (most : Int) (hln : p.decls.length < n) (hb : p.decls.length < 2 ^ 61) (hall : WP (callN TE n) p) : ∃ b, callN TE (n + 1) 39 [.agg p.enc, .int .i64 most] [] = some (.ret (.int .i64 b) []) := by
  rw [callN_eq (xf := f39) rfl]
  have hf : frame0 f39 [.agg p.enc, .int .i64 most] = [.agg p.enc, .int .i64 most, und, und, und, und, und, und, und, und, und, und, und, und, und, und, und, und, und, und, und, und, und, und, und, und, und, und, und, und, und, und, und, und, und, und, und, und, und, und, und, und, und, und, und, und, und, und, und, und, und, und, und, und, und, und, und, und, und, und, und, und, und, und, und, und, und, und, und, und, und, und, und, und, und, und, und, und, und, und, und, und, und, und, und] := rfl
  have hbd : f39.body = .seq (.region f39.r0) (.seq (.region f39.r1) (.seq (.seq (.region f39.r2) (.block 0 (.loop body39))) (.seq (.seq (.region f39.r10) (.cond (.t 64) (.region f39.r11) (.skip))) (.seq (.seq (.region f39.r12) (.cond (.t 75) (.region f39.r13) (.skip))) (.seq (.region f39.r14) (.ret)))))) := rfl
  obtain ⟨s1, j, h1, i1⟩ := loop_count (body := exec TE (callN TE n) n body39) (I := I39 p most) (len := p.decls.length) (x := .exit 0) (by simp) (fun i s hi hs => round39 hs (by omega) hall) n 0
    ⟨[.agg p.enc, .int .i64 most, .ptr 0 0, und, .int .i64 0, .int .i64 0, .int .i64 0, und, und, und, und, und, und, und, und, und, und, und, und, und, und, und, und, und, und, und, und, und, und, und, und, und, und, und, und, und, und, und, und, und, und, und, und, und, und, und, und, und, und, und, und, und, und, und, und, und, und, und, und, und, und, und, und, und, und, und, und, und, und, und, und, und, und, und, und, und, und, und, und, und, und, und, und, und, und], [.tcells p.enc 66 true], []⟩ (by omega) (by omega) ⟨rfl, rfl, rfl, rfl, rfl, ⟨_, rfl⟩, rfl⟩
  obtain ⟨s2, e2, i2⟩ := f39.e1 (k := n) i1 hall
  obtain ⟨⟨T3, H3, D3⟩, e3, rfl, hl, rfl, h2, h3, ⟨m, h5⟩, h6⟩ := f39.e2 (k := n) i2 hall
  simp only at hl h2 h3 h5 h6
  refine ⟨m, runF_iso (T := (T3.set 84 (.int .i64 m)).set 4 (.int .i64 m)) (K := [.tcells p.enc 66 true]) (vs := [.int .i64 m]) (vis := []) rfl ?_ ?_ (frz_depth rfl _)⟩
  · rw [hf, hbd]
    have a0 : exec TE (callN TE n) n (.region f39.r0) ⟨[.agg p.enc, .int .i64 most, und, und, und, und, und, und, und, und, und, und, und, und, und, und, und, und, und, und, und, und, und, und, und, und, und, und, und, und, und, und, und, und, und, und, und, und, und, und, und, und, und, und, und, und, und, und, und, und, und, und, und, und, und, und, und, und, und, und, und, und, und, und, und, und, und, und, und, und, und, und, und, und, und, und, und, und, und, und, und, und, und, und, und], [], []⟩ = some (.norm, ⟨[.agg p.enc, .int .i64 most, .ptr 0 0, und, .int .i64 0, und, und, und, und, und, und, und, und, und, und, und, und, und, und, und, und, und, und, und, und, und, und, und, und, und, und, und, und, und, und, und, und, und, und, und, und, und, und, und, und, und, und, und, und, und, und, und, und, und, und, und, und, und, und, und, und, und, und, und, und, und, und, und, und, und, und, und, und, und, und, und, und, und, und, und, und, und, und, und, und], [.tcells p.enc 66 true], []⟩) := rfl
    have a1 : exec TE (callN TE n) n (.region f39.r1) ⟨[.agg p.enc, .int .i64 most, .ptr 0 0, und, .int .i64 0, und, und, und, und, und, und, und, und, und, und, und, und, und, und, und, und, und, und, und, und, und, und, und, und, und, und, und, und, und, und, und, und, und, und, und, und, und, und, und, und, und, und, und, und, und, und, und, und, und, und, und, und, und, und, und, und, und, und, und, und, und, und, und, und, und, und, und, und, und, und, und, und, und, und, und, und, und, und, und, und], [.tcells p.enc 66 true], []⟩ = some (.norm, ⟨[.agg p.enc, .int .i64 most, .ptr 0 0, und, .int .i64 0, .int .i64 0, und, und, und, und, und, und, und, und, und, und, und, und, und, und, und, und, und, und, und, und, und, und, und, und, und, und, und, und, und, und, und, und, und, und, und, und, und, und, und, und, und, und, und, und, und, und, und, und, und, und, und, und, und, und, und, und, und, und, und, und, und, und, und, und, und, und, und, und, und, und, und, und, und, und, und, und, und, und, und], [.tcells p.enc 66 true], []⟩) := rfl
    have a2 : exec TE (callN TE n) n (.seq (.region f39.r2) (.block 0 (.loop body39))) ⟨[.agg p.enc, .int .i64 most, .ptr 0 0, und, .int .i64 0, .int .i64 0, und, und, und, und, und, und, und, und, und, und, und, und, und, und, und, und, und, und, und, und, und, und, und, und, und, und, und, und, und, und, und, und, und, und, und, und, und, und, und, und, und, und, und, und, und, und, und, und, und, und, und, und, und, und, und, und, und, und, und, und, und, und, und, und, und, und, und, und, und, und, und, und, und, und, und, und, und, und, und], [.tcells p.enc 66 true], []⟩ = some (.norm, s1) := by
      have b0 : exec TE (callN TE n) n (.region f39.r2) ⟨[.agg p.enc, .int .i64 most, .ptr 0 0, und, .int .i64 0, .int .i64 0, und, und, und, und, und, und, und, und, und, und, und, und, und, und, und, und, und, und, und, und, und, und, und, und, und, und, und, und, und, und, und, und, und, und, und, und, und, und, und, und, und, und, und, und, und, und, und, und, und, und, und, und, und, und, und, und, und, und, und, und, und, und, und, und, und, und, und, und, und, und, und, und, und, und, und, und, und, und, und], [.tcells p.enc 66 true], []⟩ = some (.norm, ⟨[.agg p.enc, .int .i64 most, .ptr 0 0, und, .int .i64 0, .int .i64 0, .int .i64 0, und, und, und, und, und, und, und, und, und, und, und, und, und, und, und, und, und, und, und, und, und, und, und, und, und, und, und, und, und, und, und, und, und, und, und, und, und, und, und, und, und, und, und, und, und, und, und, und, und, und, und, und, und, und, und, und, und, und, und, und, und, und, und, und, und, und, und, und, und, und, und, und, und, und, und, und, und, und], [.tcells p.enc 66 true], []⟩) := rfl
      rw [exec_seq_norm b0]
      exact exec_block_loop h1
    rw [exec_seq_norm a0, exec_seq_norm a1, exec_seq_norm a2, exec_seq_norm e2, exec_seq_norm e3]
    simp [f39.r14, hl, h5, exec, xops, xoper, want, putT, xop, ev, bin, intBin, isShift, okv, asNat_nat, takeAt, one, cellsOf, cellsAt_new, setCs_new, set_new, putAt, -List.getD_eq_getElem?_getD, rd_ne, rd_eq, List.length_set, List.getD_cons_zero, List.getD_cons_succ]
  · simp [f39, resOf, hl, exec, xops, xoper, want, putT, xop, ev, bin, intBin, isShift, okv, asNat_nat, takeAt, one, cellsOf, cellsAt_new, setCs_new, set_new, putAt, -List.getD_eq_getElem?_getD, rd_ne, rd_eq, List.length_set, List.getD_cons_zero, List.getD_cons_succ]

theorem desSz_mem : ∀ {l : List De} {d : De}, d ∈ l → d.sz < desSz l
  | [], _, h => by simp at h
  | a :: r, d, h => by
    rcases List.mem_cons.1 h with rfl | h
    · simp [desSz]; omega
    · have := desSz_mem h; simp [desSz]; omega
theorem desSz_len : ∀ l : List De, l.length < desSz l
  | [] => by simp [desSz]
  | a :: r => by have := desSz_len r; simp [desSz]; omega

/-- A PROGRAM IS WEIGHED: it comes to a whole number. -/
theorem weigh_ok (p : Pr) (n : Nat) (hn : p.sz < n) (hb : p.sz < 2 ^ 61) : IntC (callN TE n) 39 (.agg p.enc) := by
  obtain ⟨n, rfl⟩ : ∃ k, n = k + 1 := ⟨n - 1, by omega⟩
  simp only [Pr.sz] at hn hb
  have := desSz_len p.decls
  refine fun m => run39 p m (by omega) (by omega) ⟨fun d hd => ?_, weighS_ok p.init n (by omega) (by omega), weighS_ok p.step n (by omega) (by omega)⟩
  have h := desSz_mem hd
  simp only [De.sz] at h
  exact ⟨weighE_ok d.lo n (by omega) (by omega), weighE_ok d.hi n (by omega) (by omega)⟩

end Go.Proofs.YtnifjgdhgnmhmaaGreatDoor
namespace Go.Proofs.YtnifjgdhgnmhmaaGreatDoor
open Go Go.X
set_option linter.unusedSimpArgs false

mutual
def Ex.same : Ex → Ex → Bool
  | .mk op _ b i f nm args, .mk op2 _ b2 i2 f2 nm2 args2 => decide (op = op2) && (decide (b = b2) && (decide (i = i2) && (decide (f = f2) && (decide (nm = nm2) && args.same args2))))
def Exs.same : Exs → Exs → Bool
  | .nil _, .nil _ => true
  | .cons a r, .cons b s => a.same b && r.same s
  | _, _ => false
end

theorem Exs.same_len : ∀ {a b : Exs}, a.same b = true → a.len = b.len
  | .nil _, .nil _, _ => rfl
  | .cons a r, .cons b s, h => by
    simp only [Exs.same, Bool.and_eq_true] at h
    simp only [Exs.len, Exs.same_len h.2]
  | .nil _, .cons _ _, h => by simp [Exs.same] at h
  | .cons _ _, .nil _, h => by simp [Exs.same] at h

def SameC (call : CallF) (f : Nat) (a b : Ex) : Prop := call f [.agg a.enc, .agg b.enc] [] = some (.ret (.bool (a.same b)) [])

def I110 (a b : Exs) (i : Nat) (s : St) : Prop :=
  s.D = [] ∧ s.T.length = 30 ∧ s.T.getD 0 und = a.x ∧ s.T.getD 1 und = b.x ∧ s.T.getD 2 und = .fn (.func 49) [] [] ∧ s.T.getD 14 und = .int .i64 (a.len : Int) ∧ s.T.getD 15 und = .int .i64 (i : Int)

def F110 (s : St) : Prop := s.D = [] ∧ s.T.length = 30 ∧ s.T.getD 6 und = .bool false

def body110 : XC := (.seq (.region f110.r4) (.seq (.cond (.t 16) (.skip) (.exit 0)) (.seq (.block 1 (.seq (.region f110.r5) (.seq (.regionD f110.r6 [0, 0, 0, 6, 14, 0, 0, 96, 224, 511, 1023]) (.cond (.t 28) (.seq (.region f110.r7) (.ret)) (.skip))))) (.region f110.r8))))

theorem exit110 {call : CallF} {k i : Nat} {a b : Exs} {s : St} (hs : I110 a b i s) (h : ¬ i < a.len) : ∃ s', exec TE call k body110 s = some (.exit 0, s') ∧ I110 a b i s' := by
  obtain ⟨T, H, D⟩ := s
  obtain ⟨rfl, hl, h0, h1, h2, h14, h15⟩ := hs
  simp only at hl h0 h1 h2 h14 h15
  refine ⟨?s1, ?e1, ?i1⟩
  case e1 =>
    simp [body110, f110.r4, h, hl, h0, h1, h2, h14, h15, exec, xops, xoper, want, putT, xop, ev, bin, intBin, isShift, okv, asNat_nat, takeAt, one, cellsOf, cellsAt_new, setCs_new, set_new, putAt, -List.getD_eq_getElem?_getD, rd_ne, rd_eq, List.length_set, List.getD_cons_zero, List.getD_cons_succ]
    rfl
  case i1 => simp [I110, hl, h0, h1, h2, h14, h15, exec, xops, xoper, want, putT, xop, ev, bin, intBin, isShift, okv, asNat_nat, takeAt, one, cellsOf, cellsAt_new, setCs_new, set_new, putAt, -List.getD_eq_getElem?_getD, rd_ne, rd_eq, List.length_set, List.getD_cons_zero, List.getD_cons_succ]

theorem step110 {call : CallF} {k i : Nat} {a b : Exs} {s : St} (hs : I110 a b i s) (h : i < a.len) (hlen : a.len = b.len) (e f : Ex) (r t : List XV) (he : a.cells.drop (i * 7) = e.enc ++ r) (hf : b.cells.drop (i * 7) = f.enc ++ t) (hi : i + 1 < 2 ^ 63)
    (hc : SameC call 49 e f) : (e.same f = true ∧ ∃ s', exec TE call k body110 s = some (.norm, s') ∧ I110 a b (i + 1) s') ∨ (e.same f = false ∧ ∃ s', exec TE call k body110 s = some (.ret, s') ∧ F110 s') := by
  obtain ⟨T, H, D⟩ := s
  obtain ⟨rfl, hl, h0, h1, h2, h14, h15⟩ := hs
  simp only at hl h0 h1 h2 h14 h15
  have hxa := Exs.x_vs h
  have hxb := Exs.x_vs (show i < b.len by omega)
  rw [hxa] at h0
  rw [hxb] at h1
  have hca := Exs.cells_length a
  have hcb := Exs.cells_length b
  have hla : i * 7 ≤ a.cells.length := by omega
  have hlb : i * 7 ≤ b.cells.length := by omega
  have hib : i < b.len := by omega
  have hw2 : IntKind.i64.wrap ((i : Int) + 1) = (i : Int) + 1 := wrap_small (by omega) (by omega)
  have hfr : ∀ H, frzL depth H [.agg e.enc, .agg f.enc] = some ([.agg e.enc, .agg f.enc], []) := fun H => frzL_depth (by simp [bares, Ex.leafs_enc, Ex.enc_length]) (by simp) H
  have hdc : ∀ H, docall TE call 49 [.agg e.enc, .agg f.enc] H = some (.ret (.bool (e.same f)) H) := fun H => docall_iso (E := TE) rfl rfl (by simp [bares, Ex.leafs_enc, Ex.enc_length]) (by simp) hc H
  have hiso : TE.iso 49 = true := rfl
  have hte : ∀ r : List XV, takeAt (e.enc ++ r) 0 7 = some e.enc := fun r => by simp [takeAt, Ex.enc_length, List.take_left' (Ex.enc_length e)]
  have htf : ∀ r : List XV, takeAt (f.enc ++ r) 0 7 = some f.enc := fun r => by simp [takeAt, Ex.enc_length, List.take_left' (Ex.enc_length f)]
  -- ahead of the question
  have head : ∃ s', exec TE call k (.region f110.r4) ⟨T, H, []⟩ = some (.norm, s') ∧ s'.T.getD 16 und = .bool true ∧ s'.H = H ∧ I110 a b i s' := by
    refine ⟨?s2, ?e2, ?i2⟩
    case e2 =>
      simp [f110.r4, h, hl, h0, h1, h2, h14, h15, exec, xops, xoper, want, putT, xop, ev, bin, intBin, isShift, okv, asNat_nat, takeAt, one, cellsOf, cellsAt_new, setCs_new, set_new, putAt, -List.getD_eq_getElem?_getD, rd_ne, rd_eq, List.length_set, List.getD_cons_zero, List.getD_cons_succ]
      rfl
    case i2 => simp [I110, hxa, hxb, hl, h0, h1, h2, h14, h15, exec, xops, xoper, want, putT, xop, ev, bin, intBin, isShift, okv, asNat_nat, takeAt, one, cellsOf, cellsAt_new, setCs_new, set_new, putAt, -List.getD_eq_getElem?_getD, rd_ne, rd_eq, List.length_set, List.getD_cons_zero, List.getD_cons_succ]
  obtain ⟨⟨T1, H1, D1⟩, e1, g16, rfl, rfl, gl, g0, g1, g2, g14, g15⟩ := head
  simp only at g16 gl g0 g1 g2 g14 g15
  rw [hxa] at g0
  rw [hxb] at g1
  have ask : ∃ T', xopsL TE call f110.r6 ((T1.set 17 (.int .i64 (i : Int))).set 7 (.int .i64 (i : Int))) H1 = some (T', H1) ∧ T'.getD 28 und = .bool (!(e.same f)) ∧ I110 a b i ⟨T', H1, []⟩ := by
    refine ⟨?s3, ?e3, ?i3⟩
    case e3 =>
      simp [xopsL, f110.r6, kindO, un, hfr, hiso, hdc, hla, hlb, he, hf, hte, htf, h, hib, gl, g0, g1, g2, g14, g15, exec, xops, xoper, want, putT, xop, ev, bin, intBin, isShift, okv, asNat_nat, one, cellsOf, -List.getD_eq_getElem?_getD, rd_ne, rd_eq, List.length_set]
      rfl
    case i3 => simp [I110, hxa, hxb, gl, g0, g1, g2, g14, g15, exec, xops, xoper, want, putT, xop, ev, bin, intBin, isShift, okv, asNat_nat, takeAt, one, cellsOf, cellsAt_new, setCs_new, set_new, putAt, -List.getD_eq_getElem?_getD, rd_ne, rd_eq, List.length_set, List.getD_cons_zero, List.getD_cons_succ]
  obtain ⟨T2, a1, a28, _, al, a0, a1', a2, a14, a15⟩ := ask
  simp only at a28 al a0 a1' a2 a14 a15
  have e2 : exec TE call k (.cond (.t 16) (.skip) (.exit 0)) ⟨T1, H1, []⟩ = some (.norm, ⟨T1, H1, []⟩) := by simp [exec, ev, g16, -List.getD_eq_getElem?_getD]
  have e3 : exec TE call k (.region f110.r5) ⟨T1, H1, []⟩ = some (.norm, ⟨(T1.set 17 (.int .i64 (i : Int))).set 7 (.int .i64 (i : Int)), H1, []⟩) := by
    simp [f110.r5, gl, g0, g1, g2, g14, g15, exec, xops, xoper, want, putT, xop, ev, bin, intBin, isShift, okv, asNat_nat, takeAt, one, cellsOf, cellsAt_new, setCs_new, set_new, putAt, -List.getD_eq_getElem?_getD, rd_ne, rd_eq, List.length_set, List.getD_cons_zero, List.getD_cons_succ]
  have e4 : exec TE call k (.regionD f110.r6 [0, 0, 0, 6, 14, 0, 0, 96, 224, 511, 1023]) ⟨(T1.set 17 (.int .i64 (i : Int))).set 7 (.int .i64 (i : Int)), H1, []⟩ = some (.norm, ⟨T2, H1, []⟩) := runD_of_L a1
  cases hsm : e.same f with
  | true =>
    left
    refine ⟨rfl, ⟨(T2.set 29 (.int .i64 ((i : Int) + 1))).set 15 (.int .i64 ((i : Int) + 1)), H1, []⟩, ?_, ?_⟩
    · have e5 : exec TE call k (.cond (.t 28) (.seq (.region f110.r7) (.ret)) (.skip)) ⟨T2, H1, []⟩ = some (.norm, ⟨T2, H1, []⟩) := by simp [exec, ev, a28, hsm, -List.getD_eq_getElem?_getD]
      unfold body110
      rw [exec_seq_norm e1, exec_seq_norm e2, exec_seq_norm (exec_block_norm (by rw [exec_seq_norm e3, exec_seq_norm e4, e5]))]
      simp [f110.r8, hw2, al, a15, exec, xops, xoper, want, putT, xop, ev, bin, intBin, isShift, okv, asNat_nat, takeAt, one, cellsOf, cellsAt_new, setCs_new, set_new, putAt, -List.getD_eq_getElem?_getD, rd_ne, rd_eq, List.length_set, List.getD_cons_zero, List.getD_cons_succ]
    · simp [I110, al, a0, a1', a2, a14, a15, exec, xops, xoper, want, putT, xop, ev, bin, intBin, isShift, okv, asNat_nat, takeAt, one, cellsOf, cellsAt_new, setCs_new, set_new, putAt, -List.getD_eq_getElem?_getD, rd_ne, rd_eq, List.length_set, List.getD_cons_zero, List.getD_cons_succ]
  | false =>
    right
    refine ⟨rfl, ⟨T2.set 6 (.bool false), H1, []⟩, ?_, ?_⟩
    · have e5 : exec TE call k (.cond (.t 28) (.seq (.region f110.r7) (.ret)) (.skip)) ⟨T2, H1, []⟩ = some (.ret, ⟨T2.set 6 (.bool false), H1, []⟩) := by simp [f110.r7, a28, hsm, exec, xops, xoper, want, putT, xop, ev, bin, intBin, isShift, okv, asNat_nat, takeAt, one, cellsOf, cellsAt_new, setCs_new, set_new, putAt, -List.getD_eq_getElem?_getD, rd_ne, rd_eq, List.length_set, List.getD_cons_zero, List.getD_cons_succ]
      unfold body110
      rw [exec_seq_norm e1, exec_seq_norm e2]
      have : exec TE call k (.block 1 (.seq (.region f110.r5) (.seq (.regionD f110.r6 [0, 0, 0, 6, 14, 0, 0, 96, 224, 511, 1023]) (.cond (.t 28) (.seq (.region f110.r7) (.ret)) (.skip))))) ⟨T1, H1, []⟩ = some (.ret, ⟨T2.set 6 (.bool false), H1, []⟩) :=
        exec_block_ret (by rw [exec_seq_norm e3, exec_seq_norm e4, e5])
      exact exec_seq_ret this
    · simp [F110, al, exec, xops, xoper, want, putT, xop, ev, bin, intBin, isShift, okv, asNat_nat, takeAt, one, cellsOf, cellsAt_new, setCs_new, set_new, putAt, -List.getD_eq_getElem?_getD, rd_ne, rd_eq, List.length_set, List.getD_cons_zero, List.getD_cons_succ]

def Exs.All2 (p : Ex → Ex → Prop) : Exs → Exs → Prop
  | .cons a r, .cons b s => p a b ∧ r.All2 p s
  | _, _ => True

theorem loop110 {call : CallF} {k : Nat} {a b : Exs} (hlen : a.len = b.len) (hlb : a.len + 1 < 2 ^ 63) : ∀ (r t : Exs) (n i : Nat), r.len < n → a.cells.drop (i * 7) = r.cells → b.cells.drop (i * 7) = t.cells → i + r.len = a.len → r.len = t.len → r.All2 (SameC call 49) t →
    ∀ s, I110 a b i s → (r.same t = true ∧ ∃ s', loopN (exec TE call k body110) n s = some (.exit 0, s') ∧ I110 a b a.len s') ∨ (r.same t = false ∧ ∃ s', loopN (exec TE call k body110) n s = some (.ret, s') ∧ F110 s')
  | _, _, 0, _, hn, _, _, _, _, _ => by omega
  | .nil _, .cons _ _, n + 1, i, hn, hcs, hct, hl1, hl2, hall => by simp [Exs.len] at hl2
  | .cons _ _, .nil _, n + 1, i, hn, hcs, hct, hl1, hl2, hall => by simp [Exs.len] at hl2
  | .nil z, .nil z', n + 1, i, hn, hcs, hct, hl1, hl2, hall => by
    intro s hs
    simp only [Exs.len, Nat.add_zero] at hl1
    subst hl1
    obtain ⟨s', h1, h2⟩ := exit110 (call := call) (k := k) hs (by omega)
    exact .inl ⟨by simp [Exs.same], s', by simp [loopN, h1], h2⟩
  | .cons e r, .cons f t, n + 1, i, hn, hcs, hct, hl1, hl2, hall => by
    intro s hs
    simp only [Exs.len] at hl1 hl2 hn
    simp only [Exs.cells] at hcs hct
    rcases step110 (call := call) (k := k) hs (by omega) hlen e f r.cells t.cells hcs hct (by omega) hall.1 with ⟨hsm, s', h1, h2⟩ | ⟨hsm, s', h1, h2⟩
    · have hd : a.cells.drop ((i + 1) * 7) = r.cells := by
        rw [Nat.add_mul, Nat.one_mul, ← List.drop_drop, hcs, List.drop_left' (Ex.enc_length e)]
      have hd' : b.cells.drop ((i + 1) * 7) = t.cells := by
        rw [Nat.add_mul, Nat.one_mul, ← List.drop_drop, hct, List.drop_left' (Ex.enc_length f)]
      rcases loop110 (call := call) (k := k) hlen hlb r t n (i + 1) (by omega) hd hd' (by omega) (by omega) hall.2 s' h2 with ⟨h3, s'', h4, h5⟩ | ⟨h3, s'', h4, h5⟩
      · exact .inl ⟨by simp [Exs.same, hsm, h3], s'', by simp [loopN, h1, h4], h5⟩
      · exact .inr ⟨by simp [Exs.same, hsm, h3], s'', by simp [loopN, h1, h4], h5⟩
    · exact .inr ⟨by simp [Exs.same, hsm], s', by simp [loopN, h1], h2⟩

end Go.Proofs.YtnifjgdhgnmhmaaGreatDoor
namespace Go.Proofs.YtnifjgdhgnmhmaaGreatDoor
open Go Go.X
set_option linter.unusedSimpArgs false

theorem Exs.same_ne {a b : Exs} (h : a.len ≠ b.len) : a.same b = false := by
  cases hs : a.same b with
  | false => rfl
  | true => exact absurd (Exs.same_len hs) h

theorem run110 {n : Nat} (a b : Exs) (hln : a.len < n) (hb : a.len < 2 ^ 61) (hall : a.All2 (SameC (callN TE n) 49) b) : callN TE (n + 1) 110 [a.x, b.x, .fn (.func 49) [] []] [] = some (.ret (.bool (a.same b)) []) := by
  rw [callN_eq (xf := f110) rfl]
  have hf : frame0 f110 [a.x, b.x, .fn (.func 49) [] []] = [a.x, b.x, .fn (.func 49) [] [], und, und, und, und, und, und, und, und, und, und, und, und, und, und, und, und, und, und, und, und, und, und, und, und, und, und, und] := rfl
  have hbd : f110.body = .seq (.region f110.r0) (.seq (.seq (.region f110.r1) (.cond (.t 12) (.seq (.region f110.r2) (.ret)) (.skip))) (.seq (.seq (.region f110.r3) (.block 0 (.loop body110))) (.seq (.region f110.r9) (.ret)))) := rfl
  have hla := Exs.lenOf_x a
  have hlb := Exs.lenOf_x b
  have a0 : exec TE (callN TE n) n (.region f110.r0) ⟨[a.x, b.x, .fn (.func 49) [] [], und, und, und, und, und, und, und, und, und, und, und, und, und, und, und, und, und, und, und, und, und, und, und, und, und, und, und], [], []⟩ = some (.norm, ⟨[a.x, b.x, .fn (.func 49) [] [], und, und, und, .bool false, und, und, und, und, und, und, und, und, und, und, und, und, und, und, und, und, und, und, und, und, und, und, und], [], []⟩) := rfl
  have a1 : exec TE (callN TE n) n (.region f110.r1) ⟨[a.x, b.x, .fn (.func 49) [] [], und, und, und, .bool false, und, und, und, und, und, und, und, und, und, und, und, und, und, und, und, und, und, und, und, und, und, und, und], [], []⟩ = some (.norm, ⟨[a.x, b.x, .fn (.func 49) [] [], und, und, und, .bool false, und, a.x, .int .i64 (a.len : Int), b.x, .int .i64 (b.len : Int), .bool ((a.len : Int) != (b.len : Int)), und, und, und, und, und, und, und, und, und, und, und, und, und, und, und, und, und], [], []⟩) := by
    simp [f110.r1, hla, hlb, exec, xops, xoper, want, putT, xop, ev, bin, intBin, isShift, okv, asNat_nat, takeAt, one, cellsOf, cellsAt_new, setCs_new, set_new, putAt, -List.getD_eq_getElem?_getD, rd_ne, rd_eq, List.length_set, List.getD_cons_zero, List.getD_cons_succ]
  by_cases hlen : a.len = b.len
  · have a2 : exec TE (callN TE n) n (.cond (.t 12) (.seq (.region f110.r2) (.ret)) (.skip)) ⟨[a.x, b.x, .fn (.func 49) [] [], und, und, und, .bool false, und, a.x, .int .i64 (a.len : Int), b.x, .int .i64 (b.len : Int), .bool ((a.len : Int) != (b.len : Int)), und, und, und, und, und, und, und, und, und, und, und, und, und, und, und, und, und], [], []⟩ = some (.norm, ⟨[a.x, b.x, .fn (.func 49) [] [], und, und, und, .bool false, und, a.x, .int .i64 (a.len : Int), b.x, .int .i64 (b.len : Int), .bool ((a.len : Int) != (b.len : Int)), und, und, und, und, und, und, und, und, und, und, und, und, und, und, und, und, und], [], []⟩) := by
      simp [hlen, exec, xops, xoper, want, putT, xop, ev, bin, intBin, isShift, okv, asNat_nat, takeAt, one, cellsOf, cellsAt_new, setCs_new, set_new, putAt, -List.getD_eq_getElem?_getD, rd_ne, rd_eq, List.length_set, List.getD_cons_zero, List.getD_cons_succ]
    have a3 : exec TE (callN TE n) n (.region f110.r3) ⟨[a.x, b.x, .fn (.func 49) [] [], und, und, und, .bool false, und, a.x, .int .i64 (a.len : Int), b.x, .int .i64 (b.len : Int), .bool ((a.len : Int) != (b.len : Int)), und, und, und, und, und, und, und, und, und, und, und, und, und, und, und, und, und], [], []⟩ = some (.norm, ⟨[a.x, b.x, .fn (.func 49) [] [], und, und, und, .bool false, und, a.x, .int .i64 (a.len : Int), b.x, .int .i64 (b.len : Int), .bool ((a.len : Int) != (b.len : Int)), a.x, .int .i64 (a.len : Int), .int .i64 0, und, und, und, und, und, und, und, und, und, und, und, und, und, und], [], []⟩) := by
      simp [f110.r3, hla, hlb, exec, xops, xoper, want, putT, xop, ev, bin, intBin, isShift, okv, asNat_nat, takeAt, one, cellsOf, cellsAt_new, setCs_new, set_new, putAt, -List.getD_eq_getElem?_getD, rd_ne, rd_eq, List.length_set, List.getD_cons_zero, List.getD_cons_succ]
    rcases loop110 (call := callN TE n) (k := n) hlen (by omega) a b n 0 hln (by simp) (by simp) (by simp) hlen hall
      ⟨[a.x, b.x, .fn (.func 49) [] [], und, und, und, .bool false, und, a.x, .int .i64 (a.len : Int), b.x, .int .i64 (b.len : Int), .bool ((a.len : Int) != (b.len : Int)), a.x, .int .i64 (a.len : Int), .int .i64 0, und, und, und, und, und, und, und, und, und, und, und, und, und, und], [], []⟩ ⟨rfl, rfl, rfl, rfl, rfl, rfl, rfl⟩ with ⟨hsm, ⟨T2, H2, D2⟩, h1, rfl, hl, _⟩ | ⟨hsm, ⟨T2, H2, D2⟩, h1, rfl, hl, h6⟩
    · simp only at hl
      rw [hsm]
      refine runF_iso (T := T2.set 6 (.bool true)) (K := H2) (vs := [.bool true]) (vis := []) rfl ?_ ?_ (frz_depth rfl _)
      · rw [hf, hbd, exec_seq_norm a0, exec_seq_norm (by rw [exec_seq_norm a1, a2]), exec_seq_norm (by rw [exec_seq_norm a3]; exact exec_block_loop h1)]
        simp [f110.r9, hl, exec, xops, xoper, want, putT, xop, ev, bin, intBin, isShift, okv, asNat_nat, takeAt, one, cellsOf, cellsAt_new, setCs_new, set_new, putAt, -List.getD_eq_getElem?_getD, rd_ne, rd_eq, List.length_set, List.getD_cons_zero, List.getD_cons_succ]
      · simp [f110, resOf, hl, exec, xops, xoper, want, putT, xop, ev, bin, intBin, isShift, okv, asNat_nat, takeAt, one, cellsOf, cellsAt_new, setCs_new, set_new, putAt, -List.getD_eq_getElem?_getD, rd_ne, rd_eq, List.length_set, List.getD_cons_zero, List.getD_cons_succ]
    · simp only at hl h6
      rw [hsm]
      refine runF_iso (T := T2) (K := H2) (vs := [.bool false]) (vis := []) rfl ?_ ?_ (frz_depth rfl _)
      · rw [hf, hbd, exec_seq_norm a0, exec_seq_norm (by rw [exec_seq_norm a1, a2])]
        exact exec_seq_ret (by rw [exec_seq_norm a3]; exact exec_block_ret (by simpa only [exec] using h1))
      · simp [f110, resOf, hl, h6, exec, xops, xoper, want, putT, xop, ev, bin, intBin, isShift, okv, asNat_nat, takeAt, one, cellsOf, cellsAt_new, setCs_new, set_new, putAt, -List.getD_eq_getElem?_getD, rd_ne, rd_eq, List.length_set, List.getD_cons_zero, List.getD_cons_succ]
  · rw [Exs.same_ne hlen]
    have hne : ((a.len : Int) != (b.len : Int)) = true := by simp; omega
    refine runF_iso (T := [a.x, b.x, .fn (.func 49) [] [], und, und, und, .bool false, und, a.x, .int .i64 (a.len : Int), b.x, .int .i64 (b.len : Int), .bool ((a.len : Int) != (b.len : Int)), und, und, und, und, und, und, und, und, und, und, und, und, und, und, und, und, und]) (K := []) (vs := [.bool false]) (vis := []) rfl ?_ ?_ (frz_depth rfl _)
    · rw [hf, hbd, exec_seq_norm a0]
      refine exec_seq_ret ?_
      rw [exec_seq_norm a1]
      simp [f110.r2, hne, exec, xops, xoper, want, putT, xop, ev, bin, intBin, isShift, okv, asNat_nat, takeAt, one, cellsOf, cellsAt_new, setCs_new, set_new, putAt, -List.getD_eq_getElem?_getD, rd_ne, rd_eq, List.length_set, List.getD_cons_zero, List.getD_cons_succ]
    · simp [f110, resOf, exec, xops, xoper, want, putT, xop, ev, bin, intBin, isShift, okv, asNat_nat, takeAt, one, cellsOf, cellsAt_new, setCs_new, set_new, putAt, -List.getD_eq_getElem?_getD, rd_ne, rd_eq, List.length_set, List.getD_cons_zero, List.getD_cons_succ]

theorem run49 {n : Nat} (e f : Ex) (hc : callN TE n 110 [e.args.x, f.args.x, .fn (.func 49) [] []] [] = some (.ret (.bool (e.args.same f.args)) [])) : SameC (callN TE (n + 1)) 49 e f := by
  unfold SameC
  rw [callN_eq (xf := f49) rfl]
  obtain ⟨op, at_, b, i, ff, nm, args⟩ := e
  obtain ⟨op2, at2, b2, i2, ff2, nm2, args2⟩ := f
  simp only [Ex.args, Exs.x] at hc
  have hdc : ∀ H, docall TE (callN TE n) 110 [args.ptr args.cells, args2.ptr args2.cells, .fn (.func 49) [] []] H = some (.ret (.bool (args.same args2)) H) := fun H => docall_iso (E := TE) rfl rfl (by simp [bares]) (by simp) hc H
  have hf : frame0 f49 [.agg (Ex.mk op at_ b i ff nm args).enc, .agg (Ex.mk op2 at2 b2 i2 ff2 nm2 args2).enc] = [.agg (Ex.mk op at_ b i ff nm args).enc, .agg (Ex.mk op2 at2 b2 i2 ff2 nm2 args2).enc, und, und, und, und, und, und, und, und, und, und, und, und, und, und, und, und, und, und, und, und, und, und, und, und, und, und, und, und, und, und, und, und, und, und, und, und, und, und, und, und, und, und, und] := rfl
  have key : ∃ T, exec TE (callN TE n) n f49.body ⟨[.agg (Ex.mk op at_ b i ff nm args).enc, .agg (Ex.mk op2 at2 b2 i2 ff2 nm2 args2).enc, und, und, und, und, und, und, und, und, und, und, und, und, und, und, und, und, und, und, und, und, und, und, und, und, und, und, und, und, und, und, und, und, und, und, und, und, und, und, und, und, und, und, und], [], []⟩ = some (.ret, ⟨T, [.tcells (Ex.mk op at_ b i ff nm args).enc 78 true, .tcells (Ex.mk op2 at2 b2 i2 ff2 nm2 args2).enc 78 true], []⟩) ∧
      T.getD 4 und = .bool ((Ex.mk op at_ b i ff nm args).same (Ex.mk op2 at2 b2 i2 ff2 nm2 args2)) := by
    simp only [Ex.enc, Ex.same]
    by_cases h1 : op = op2
    · by_cases h2 : b = b2
      · by_cases h3 : i = i2
        · by_cases h4 : ff = ff2
          · by_cases h5 : nm = nm2
            · refine ⟨?s1, ?e1, ?i1⟩
              case e1 =>
                simp [f49, f49.r0, f49.r1, h1, h2, h3, h4, h5, xeq, strBin, cellsAt, hdc, List.getElem?_set, exec, xops, xoper, want, putT, xop, ev, bin, intBin, isShift, okv, asNat_nat, takeAt, one, cellsOf, cellsAt_new, setCs_new, set_new, putAt, -List.getD_eq_getElem?_getD, rd_ne, rd_eq, List.length_set, List.getD_cons_zero, List.getD_cons_succ]
                rfl
              case i1 => simp [h1, h2, h3, h4, h5, exec, xops, xoper, want, putT, xop, ev, bin, intBin, isShift, okv, asNat_nat, takeAt, one, cellsOf, cellsAt_new, setCs_new, set_new, putAt, -List.getD_eq_getElem?_getD, rd_ne, rd_eq, List.length_set, List.getD_cons_zero, List.getD_cons_succ]
            · refine ⟨?s2, ?e2, ?i2⟩
              case e2 =>
                simp [f49, f49.r0, f49.r1, h1, h2, h3, h4, h5, xeq, strBin, cellsAt, hdc, List.getElem?_set, exec, xops, xoper, want, putT, xop, ev, bin, intBin, isShift, okv, asNat_nat, takeAt, one, cellsOf, cellsAt_new, setCs_new, set_new, putAt, -List.getD_eq_getElem?_getD, rd_ne, rd_eq, List.length_set, List.getD_cons_zero, List.getD_cons_succ]
                rfl
              case i2 => simp [h1, h2, h3, h4, h5, exec, xops, xoper, want, putT, xop, ev, bin, intBin, isShift, okv, asNat_nat, takeAt, one, cellsOf, cellsAt_new, setCs_new, set_new, putAt, -List.getD_eq_getElem?_getD, rd_ne, rd_eq, List.length_set, List.getD_cons_zero, List.getD_cons_succ]
          · refine ⟨?s3, ?e3, ?i3⟩
            case e3 =>
              simp [f49, f49.r0, f49.r1, h1, h2, h3, h4, xeq, strBin, cellsAt, hdc, List.getElem?_set, exec, xops, xoper, want, putT, xop, ev, bin, intBin, isShift, okv, asNat_nat, takeAt, one, cellsOf, cellsAt_new, setCs_new, set_new, putAt, -List.getD_eq_getElem?_getD, rd_ne, rd_eq, List.length_set, List.getD_cons_zero, List.getD_cons_succ]
              rfl
            case i3 => simp [h1, h2, h3, h4, exec, xops, xoper, want, putT, xop, ev, bin, intBin, isShift, okv, asNat_nat, takeAt, one, cellsOf, cellsAt_new, setCs_new, set_new, putAt, -List.getD_eq_getElem?_getD, rd_ne, rd_eq, List.length_set, List.getD_cons_zero, List.getD_cons_succ]
        · refine ⟨?s4, ?e4, ?i4⟩
          case e4 =>
            simp [f49, f49.r0, f49.r1, h1, h2, h3, xeq, strBin, cellsAt, hdc, List.getElem?_set, exec, xops, xoper, want, putT, xop, ev, bin, intBin, isShift, okv, asNat_nat, takeAt, one, cellsOf, cellsAt_new, setCs_new, set_new, putAt, -List.getD_eq_getElem?_getD, rd_ne, rd_eq, List.length_set, List.getD_cons_zero, List.getD_cons_succ]
            rfl
          case i4 => simp [h1, h2, h3, exec, xops, xoper, want, putT, xop, ev, bin, intBin, isShift, okv, asNat_nat, takeAt, one, cellsOf, cellsAt_new, setCs_new, set_new, putAt, -List.getD_eq_getElem?_getD, rd_ne, rd_eq, List.length_set, List.getD_cons_zero, List.getD_cons_succ]
      · refine ⟨?s5, ?e5, ?i5⟩
        case e5 =>
          simp [f49, f49.r0, f49.r1, h1, h2, xeq, strBin, cellsAt, hdc, List.getElem?_set, exec, xops, xoper, want, putT, xop, ev, bin, intBin, isShift, okv, asNat_nat, takeAt, one, cellsOf, cellsAt_new, setCs_new, set_new, putAt, -List.getD_eq_getElem?_getD, rd_ne, rd_eq, List.length_set, List.getD_cons_zero, List.getD_cons_succ]
          rfl
        case i5 => simp [h1, h2, exec, xops, xoper, want, putT, xop, ev, bin, intBin, isShift, okv, asNat_nat, takeAt, one, cellsOf, cellsAt_new, setCs_new, set_new, putAt, -List.getD_eq_getElem?_getD, rd_ne, rd_eq, List.length_set, List.getD_cons_zero, List.getD_cons_succ]
    · refine ⟨?s6, ?e6, ?i6⟩
      case e6 =>
        simp [f49, f49.r0, f49.r1, h1, xeq, strBin, cellsAt, hdc, List.getElem?_set, exec, xops, xoper, want, putT, xop, ev, bin, intBin, isShift, okv, asNat_nat, takeAt, one, cellsOf, cellsAt_new, setCs_new, set_new, putAt, -List.getD_eq_getElem?_getD, rd_ne, rd_eq, List.length_set, List.getD_cons_zero, List.getD_cons_succ]
        rfl
      case i6 => simp [h1, exec, xops, xoper, want, putT, xop, ev, bin, intBin, isShift, okv, asNat_nat, takeAt, one, cellsOf, cellsAt_new, setCs_new, set_new, putAt, -List.getD_eq_getElem?_getD, rd_ne, rd_eq, List.length_set, List.getD_cons_zero, List.getD_cons_succ]
  obtain ⟨T, h1, h4⟩ := key
  refine runF_iso (T := T) (K := _) (vs := [.bool ((Ex.mk op at_ b i ff nm args).same (Ex.mk op2 at2 b2 i2 ff2 nm2 args2))]) (vis := []) rfl (by rw [hf]; exact h1) ?_ (frz_depth rfl _)
  simp [f49, resOf, h4, -List.getD_eq_getElem?_getD]

mutual
theorem sameE_ok : ∀ (e f : Ex) (n : Nat), 2 * e.sz < n → e.sz < 2 ^ 60 → SameC (callN TE n) 49 e f
  | .mk op at_ b i ff nm args, f, 0, hn, _ => by omega
  | .mk op at_ b i ff nm args, f, n + 1, hn, hb => by
    simp only [Ex.sz] at hn hb
    exact run49 _ f (sameEs_ok args f.args n (by omega) (by omega))
theorem sameE_all : ∀ (a b : Exs) (n : Nat), 2 * a.sz ≤ n → a.sz < 2 ^ 60 → a.All2 (SameC (callN TE n) 49) b
  | .nil _, _, _, _, _ => by simp [Exs.All2]
  | .cons e r, .nil _, n, hn, hb => by simp [Exs.All2]
  | .cons e r, .cons f t, n, hn, hb => by
    simp only [Exs.sz] at hn hb
    exact ⟨sameE_ok e f n (by omega) (by omega), sameE_all r t n (by omega) (by omega)⟩
theorem sameEs_ok : ∀ (a b : Exs) (n : Nat), 2 * a.sz < n → a.sz < 2 ^ 60 → callN TE n 110 [a.x, b.x, .fn (.func 49) [] []] [] = some (.ret (.bool (a.same b)) [])
  | a, b, 0, hn, _ => by omega
  | a, b, n + 1, hn, hb => by
    have := Exs.len_le a
    exact run110 a b (by omega) (by omega) (sameE_all a b n (by omega) hb)
end

end Go.Proofs.YtnifjgdhgnmhmaaGreatDoor
namespace Go.Proofs.YtnifjgdhgnmhmaaGreatDoor
open Go Go.X
set_option linter.unusedSimpArgs false

def I111 (a b : Exs) (i : Nat) (s : St) : Prop :=
  s.D = [] ∧ s.T.length = 29 ∧ s.T.getD 0 und = a.x ∧ s.T.getD 1 und = b.x ∧ s.T.getD 5 und = .int .i64 (i : Int)

def F111 (s : St) : Prop := s.D = [] ∧ s.T.length = 29 ∧ s.T.getD 4 und = .bool false

def body111 : XC := (.seq (.seq (.region f111.r4) (.cond (.t 15) (.skip) (.exit 0))) (.seq (.block 1 (.seq (.regionD f111.r5 [0, 0, 3, 7, 0, 0, 48, 112, 255, 511]) (.seq (.region f111.r6) (.cond (.t 28) (.seq (.region f111.r7) (.ret)) (.skip))))) (.region f111.r8)))

theorem exit111 {call : CallF} {k i : Nat} {a b : Exs} {s : St} (hs : I111 a b i s) (h : ¬ i < a.len) : ∃ s', exec TE call k body111 s = some (.exit 0, s') ∧ I111 a b i s' := by
  obtain ⟨T, H, D⟩ := s
  obtain ⟨rfl, hl, h0, h1, h5⟩ := hs
  simp only at hl h0 h1 h5
  have hla := Exs.lenOf_x a
  refine ⟨?s1, ?e1, ?i1⟩
  case e1 =>
    simp [body111, f111.r4, h, hla, hl, h0, h1, h5, exec, xops, xoper, want, putT, xop, ev, bin, intBin, isShift, okv, asNat_nat, takeAt, one, cellsOf, cellsAt_new, setCs_new, set_new, putAt, -List.getD_eq_getElem?_getD, rd_ne, rd_eq, List.length_set, List.getD_cons_zero, List.getD_cons_succ]
    rfl
  case i1 => simp [I111, hl, h0, h1, h5, exec, xops, xoper, want, putT, xop, ev, bin, intBin, isShift, okv, asNat_nat, takeAt, one, cellsOf, cellsAt_new, setCs_new, set_new, putAt, -List.getD_eq_getElem?_getD, rd_ne, rd_eq, List.length_set, List.getD_cons_zero, List.getD_cons_succ]

theorem step111 {call : CallF} {k i : Nat} {a b : Exs} {s : St} (hs : I111 a b i s) (h : i < a.len) (hlen : a.len = b.len) (e f : Ex) (r t : List XV) (he : a.cells.drop (i * 7) = e.enc ++ r) (hf : b.cells.drop (i * 7) = f.enc ++ t) (hi : i + 1 < 2 ^ 63)
    (hc : SameC call 50 e f) : (e.same f = true ∧ ∃ s', exec TE call k body111 s = some (.norm, s') ∧ I111 a b (i + 1) s') ∨ (e.same f = false ∧ ∃ s', exec TE call k body111 s = some (.ret, s') ∧ F111 s') := by
  obtain ⟨T, H, D⟩ := s
  obtain ⟨rfl, hl, h0, h1, h5⟩ := hs
  simp only at hl h0 h1 h5
  have hxa := Exs.x_vs h
  have hxb := Exs.x_vs (show i < b.len by omega)
  rw [hxa] at h0
  rw [hxb] at h1
  have hca := Exs.cells_length a
  have hcb := Exs.cells_length b
  have hla : i * 7 ≤ a.cells.length := by omega
  have hlb : i * 7 ≤ b.cells.length := by omega
  have hib : i < b.len := by omega
  have hlv : lenOf false (.vs a.len a.cells) = some a.len := rfl
  have hlv' : lenOf false (.vs b.len a.cells) = some b.len := rfl
  have hw2 : IntKind.i64.wrap ((i : Int) + 1) = (i : Int) + 1 := wrap_small (by omega) (by omega)
  have hfr : ∀ H, frzL depth H [.agg e.enc, .agg f.enc] = some ([.agg e.enc, .agg f.enc], []) := fun H => frzL_depth (by simp [bares, Ex.leafs_enc, Ex.enc_length]) (by simp) H
  have hdc : ∀ H, docall TE call 50 [.agg e.enc, .agg f.enc] H = some (.ret (.bool (e.same f)) H) := fun H => docall_iso (E := TE) rfl rfl (by simp [bares, Ex.leafs_enc, Ex.enc_length]) (by simp) hc H
  have hiso : TE.iso 50 = true := rfl
  have hte : ∀ r : List XV, takeAt (e.enc ++ r) 0 7 = some e.enc := fun r => by simp [takeAt, Ex.enc_length, List.take_left' (Ex.enc_length e)]
  have htf : ∀ r : List XV, takeAt (f.enc ++ r) 0 7 = some f.enc := fun r => by simp [takeAt, Ex.enc_length, List.take_left' (Ex.enc_length f)]
  have head : ∃ s', exec TE call k (.seq (.region f111.r4) (.cond (.t 15) (.skip) (.exit 0))) ⟨T, H, []⟩ = some (.norm, s') ∧ s'.H = H ∧ I111 a b i s' := by
    refine ⟨?s2, ?e2, ?i2⟩
    case e2 =>
      simp [f111.r4, h, hlv, hlv', hib, hl, h0, h1, h5, exec, xops, xoper, want, putT, xop, ev, bin, intBin, isShift, okv, asNat_nat, takeAt, one, cellsOf, cellsAt_new, setCs_new, set_new, putAt, -List.getD_eq_getElem?_getD, rd_ne, rd_eq, List.length_set, List.getD_cons_zero, List.getD_cons_succ]
      rfl
    case i2 => simp [I111, hxa, hxb, hl, h0, h1, h5, exec, xops, xoper, want, putT, xop, ev, bin, intBin, isShift, okv, asNat_nat, takeAt, one, cellsOf, cellsAt_new, setCs_new, set_new, putAt, -List.getD_eq_getElem?_getD, rd_ne, rd_eq, List.length_set, List.getD_cons_zero, List.getD_cons_succ]
  obtain ⟨⟨T1, H1, D1⟩, e1, rfl, rfl, gl, g0, g1, g5⟩ := head
  simp only at gl g0 g1 g5
  rw [hxa] at g0
  rw [hxb] at g1
  have ask : ∃ T', xopsL TE call f111.r5 T1 H1 = some (T', H1) ∧ T'.getD 6 und = .bool (e.same f) ∧ I111 a b i ⟨T', H1, []⟩ := by
    refine ⟨?s3, ?e3, ?i3⟩
    case e3 =>
      simp [xopsL, f111.r5, kindO, un, hfr, hiso, hdc, hla, hlb, he, hf, hte, htf, h, hib, gl, g0, g1, g5, exec, xops, xoper, want, putT, xop, ev, bin, intBin, isShift, okv, asNat_nat, one, cellsOf, -List.getD_eq_getElem?_getD, rd_ne, rd_eq, List.length_set]
      rfl
    case i3 => simp [I111, hxa, hxb, gl, g0, g1, g5, exec, xops, xoper, want, putT, xop, ev, bin, intBin, isShift, okv, asNat_nat, takeAt, one, cellsOf, cellsAt_new, setCs_new, set_new, putAt, -List.getD_eq_getElem?_getD, rd_ne, rd_eq, List.length_set, List.getD_cons_zero, List.getD_cons_succ]
  obtain ⟨T2, a1, a6, _, al, a0, a1', a5⟩ := ask
  simp only at a6 al a0 a1' a5
  have e4 : exec TE call k (.regionD f111.r5 [0, 0, 3, 7, 0, 0, 48, 112, 255, 511]) ⟨T1, H1, []⟩ = some (.norm, ⟨T2, H1, []⟩) := runD_of_L a1
  have e3 : exec TE call k (.region f111.r6) ⟨T2, H1, []⟩ = some (.norm, ⟨(T2.set 27 (.bool (e.same f))).set 28 (.bool (!(e.same f))), H1, []⟩) := by
    simp [f111.r6, un, al, a6, exec, xops, xoper, want, putT, xop, ev, bin, intBin, isShift, okv, asNat_nat, takeAt, one, cellsOf, cellsAt_new, setCs_new, set_new, putAt, -List.getD_eq_getElem?_getD, rd_ne, rd_eq, List.length_set, List.getD_cons_zero, List.getD_cons_succ]
  cases hsm : e.same f with
  | true =>
    left
    rw [hsm] at e3
    refine ⟨rfl, ⟨((((T2.set 27 (.bool true)).set 28 (.bool (!true))).set 16 (.int .i64 (i : Int))).set 17 (.int .i64 ((i : Int) + 1))).set 5 (.int .i64 ((i : Int) + 1)), H1, []⟩, ?_, ?_⟩
    · have e5 : exec TE call k (.cond (.t 28) (.seq (.region f111.r7) (.ret)) (.skip)) ⟨(T2.set 27 (.bool true)).set 28 (.bool (!true)), H1, []⟩ = some (.norm, ⟨(T2.set 27 (.bool true)).set 28 (.bool (!true)), H1, []⟩) := by simp [al, exec, xops, xoper, want, putT, xop, ev, bin, intBin, isShift, okv, asNat_nat, takeAt, one, cellsOf, cellsAt_new, setCs_new, set_new, putAt, -List.getD_eq_getElem?_getD, rd_ne, rd_eq, List.length_set, List.getD_cons_zero, List.getD_cons_succ]
      unfold body111
      rw [exec_seq_norm e1, exec_seq_norm (exec_block_norm (by rw [exec_seq_norm e4, exec_seq_norm e3, e5]))]
      simp [f111.r8, hw2, al, a5, exec, xops, xoper, want, putT, xop, ev, bin, intBin, isShift, okv, asNat_nat, takeAt, one, cellsOf, cellsAt_new, setCs_new, set_new, putAt, -List.getD_eq_getElem?_getD, rd_ne, rd_eq, List.length_set, List.getD_cons_zero, List.getD_cons_succ]
    · simp [I111, al, a0, a1', a5, exec, xops, xoper, want, putT, xop, ev, bin, intBin, isShift, okv, asNat_nat, takeAt, one, cellsOf, cellsAt_new, setCs_new, set_new, putAt, -List.getD_eq_getElem?_getD, rd_ne, rd_eq, List.length_set, List.getD_cons_zero, List.getD_cons_succ]
  | false =>
    right
    rw [hsm] at e3
    refine ⟨rfl, ⟨((T2.set 27 (.bool false)).set 28 (.bool (!false))).set 4 (.bool false), H1, []⟩, ?_, ?_⟩
    · have e5 : exec TE call k (.cond (.t 28) (.seq (.region f111.r7) (.ret)) (.skip)) ⟨(T2.set 27 (.bool false)).set 28 (.bool (!false)), H1, []⟩ = some (.ret, ⟨((T2.set 27 (.bool false)).set 28 (.bool (!false))).set 4 (.bool false), H1, []⟩) := by simp [f111.r7, al, exec, xops, xoper, want, putT, xop, ev, bin, intBin, isShift, okv, asNat_nat, takeAt, one, cellsOf, cellsAt_new, setCs_new, set_new, putAt, -List.getD_eq_getElem?_getD, rd_ne, rd_eq, List.length_set, List.getD_cons_zero, List.getD_cons_succ]
      unfold body111
      rw [exec_seq_norm e1]
      exact exec_seq_ret (exec_block_ret (by rw [exec_seq_norm e4, exec_seq_norm e3, e5]))
    · simp [F111, al, exec, xops, xoper, want, putT, xop, ev, bin, intBin, isShift, okv, asNat_nat, takeAt, one, cellsOf, cellsAt_new, setCs_new, set_new, putAt, -List.getD_eq_getElem?_getD, rd_ne, rd_eq, List.length_set, List.getD_cons_zero, List.getD_cons_succ]

theorem loop111 {call : CallF} {k : Nat} {a b : Exs} (hlen : a.len = b.len) (hlb : a.len + 1 < 2 ^ 63) : ∀ (r t : Exs) (n i : Nat), r.len < n → a.cells.drop (i * 7) = r.cells → b.cells.drop (i * 7) = t.cells → i + r.len = a.len → r.len = t.len → r.All2 (SameC call 50) t →
    ∀ s, I111 a b i s → (r.same t = true ∧ ∃ s', loopN (exec TE call k body111) n s = some (.exit 0, s') ∧ I111 a b a.len s') ∨ (r.same t = false ∧ ∃ s', loopN (exec TE call k body111) n s = some (.ret, s') ∧ F111 s')
  | _, _, 0, _, hn, _, _, _, _, _ => by omega
  | .nil _, .cons _ _, n + 1, i, hn, hcs, hct, hl1, hl2, hall => by simp [Exs.len] at hl2
  | .cons _ _, .nil _, n + 1, i, hn, hcs, hct, hl1, hl2, hall => by simp [Exs.len] at hl2
  | .nil z, .nil z', n + 1, i, hn, hcs, hct, hl1, hl2, hall => by
    intro s hs
    simp only [Exs.len, Nat.add_zero] at hl1
    subst hl1
    obtain ⟨s', h1, h2⟩ := exit111 (call := call) (k := k) hs (by omega)
    exact .inl ⟨by simp [Exs.same], s', by simp [loopN, h1], h2⟩
  | .cons e r, .cons f t, n + 1, i, hn, hcs, hct, hl1, hl2, hall => by
    intro s hs
    simp only [Exs.len] at hl1 hl2 hn
    simp only [Exs.cells] at hcs hct
    rcases step111 (call := call) (k := k) hs (by omega) hlen e f r.cells t.cells hcs hct (by omega) hall.1 with ⟨hsm, s', h1, h2⟩ | ⟨hsm, s', h1, h2⟩
    · have hd : a.cells.drop ((i + 1) * 7) = r.cells := by
        rw [Nat.add_mul, Nat.one_mul, ← List.drop_drop, hcs, List.drop_left' (Ex.enc_length e)]
      have hd' : b.cells.drop ((i + 1) * 7) = t.cells := by
        rw [Nat.add_mul, Nat.one_mul, ← List.drop_drop, hct, List.drop_left' (Ex.enc_length f)]
      rcases loop111 (call := call) (k := k) hlen hlb r t n (i + 1) (by omega) hd hd' (by omega) (by omega) hall.2 s' h2 with ⟨h3, s'', h4, h5⟩ | ⟨h3, s'', h4, h5⟩
      · exact .inl ⟨by simp [Exs.same, hsm, h3], s'', by simp [loopN, h1, h4], h5⟩
      · exact .inr ⟨by simp [Exs.same, hsm, h3], s'', by simp [loopN, h1, h4], h5⟩
    · exact .inr ⟨by simp [Exs.same, hsm], s', by simp [loopN, h1], h2⟩

theorem run111 {n : Nat} (a b : Exs) (hln : a.len < n) (hb : a.len < 2 ^ 61) (hall : a.All2 (SameC (callN TE n) 50) b) : callN TE (n + 1) 111 [a.x, b.x] [] = some (.ret (.bool (a.same b)) []) := by
  rw [callN_eq (xf := f111) rfl]
  have hf : frame0 f111 [a.x, b.x] = [a.x, b.x, und, und, und, und, und, und, und, und, und, und, und, und, und, und, und, und, und, und, und, und, und, und, und, und, und, und, und] := rfl
  have hbd : f111.body = .seq (.region f111.r0) (.seq (.seq (.region f111.r1) (.cond (.t 11) (.seq (.region f111.r2) (.ret)) (.skip))) (.seq (.seq (.region f111.r3) (.block 0 (.loop body111))) (.seq (.region f111.r9) (.ret)))) := rfl
  have hla := Exs.lenOf_x a
  have hlb := Exs.lenOf_x b
  have a0 : exec TE (callN TE n) n (.region f111.r0) ⟨[a.x, b.x, und, und, und, und, und, und, und, und, und, und, und, und, und, und, und, und, und, und, und, und, und, und, und, und, und, und, und], [], []⟩ = some (.norm, ⟨[a.x, b.x, und, und, .bool false, und, und, und, und, und, und, und, und, und, und, und, und, und, und, und, und, und, und, und, und, und, und, und, und], [], []⟩) := rfl
  have a1 : exec TE (callN TE n) n (.region f111.r1) ⟨[a.x, b.x, und, und, .bool false, und, und, und, und, und, und, und, und, und, und, und, und, und, und, und, und, und, und, und, und, und, und, und, und], [], []⟩ = some (.norm, ⟨[a.x, b.x, und, und, .bool false, und, und, a.x, .int .i64 (a.len : Int), b.x, .int .i64 (b.len : Int), .bool ((a.len : Int) != (b.len : Int)), und, und, und, und, und, und, und, und, und, und, und, und, und, und, und, und, und], [], []⟩) := by
    simp [f111.r1, hla, hlb, exec, xops, xoper, want, putT, xop, ev, bin, intBin, isShift, okv, asNat_nat, takeAt, one, cellsOf, cellsAt_new, setCs_new, set_new, putAt, -List.getD_eq_getElem?_getD, rd_ne, rd_eq, List.length_set, List.getD_cons_zero, List.getD_cons_succ]
  by_cases hlen : a.len = b.len
  · have a2 : exec TE (callN TE n) n (.cond (.t 11) (.seq (.region f111.r2) (.ret)) (.skip)) ⟨[a.x, b.x, und, und, .bool false, und, und, a.x, .int .i64 (a.len : Int), b.x, .int .i64 (b.len : Int), .bool ((a.len : Int) != (b.len : Int)), und, und, und, und, und, und, und, und, und, und, und, und, und, und, und, und, und], [], []⟩ = some (.norm, ⟨[a.x, b.x, und, und, .bool false, und, und, a.x, .int .i64 (a.len : Int), b.x, .int .i64 (b.len : Int), .bool ((a.len : Int) != (b.len : Int)), und, und, und, und, und, und, und, und, und, und, und, und, und, und, und, und, und], [], []⟩) := by
      simp [hlen, exec, xops, xoper, want, putT, xop, ev, bin, intBin, isShift, okv, asNat_nat, takeAt, one, cellsOf, cellsAt_new, setCs_new, set_new, putAt, -List.getD_eq_getElem?_getD, rd_ne, rd_eq, List.length_set, List.getD_cons_zero, List.getD_cons_succ]
    have a3 : exec TE (callN TE n) n (.region f111.r3) ⟨[a.x, b.x, und, und, .bool false, und, und, a.x, .int .i64 (a.len : Int), b.x, .int .i64 (b.len : Int), .bool ((a.len : Int) != (b.len : Int)), und, und, und, und, und, und, und, und, und, und, und, und, und, und, und, und, und], [], []⟩ = some (.norm, ⟨[a.x, b.x, und, und, .bool false, .int .i64 0, und, a.x, .int .i64 (a.len : Int), b.x, .int .i64 (b.len : Int), .bool ((a.len : Int) != (b.len : Int)), und, und, und, und, und, und, und, und, und, und, und, und, und, und, und, und, und], [], []⟩) := rfl
    rcases loop111 (call := callN TE n) (k := n) hlen (by omega) a b n 0 hln (by simp) (by simp) (by simp) hlen hall
      ⟨[a.x, b.x, und, und, .bool false, .int .i64 0, und, a.x, .int .i64 (a.len : Int), b.x, .int .i64 (b.len : Int), .bool ((a.len : Int) != (b.len : Int)), und, und, und, und, und, und, und, und, und, und, und, und, und, und, und, und, und], [], []⟩ ⟨rfl, rfl, rfl, rfl, rfl⟩ with ⟨hsm, ⟨T2, H2, D2⟩, h1, rfl, hl, _⟩ | ⟨hsm, ⟨T2, H2, D2⟩, h1, rfl, hl, h6⟩
    · simp only at hl
      rw [hsm]
      refine runF_iso (T := T2.set 4 (.bool true)) (K := H2) (vs := [.bool true]) (vis := []) rfl ?_ ?_ (frz_depth rfl _)
      · rw [hf, hbd, exec_seq_norm a0, exec_seq_norm (by rw [exec_seq_norm a1, a2]), exec_seq_norm (by rw [exec_seq_norm a3]; exact exec_block_loop h1)]
        simp [f111.r9, hl, exec, xops, xoper, want, putT, xop, ev, bin, intBin, isShift, okv, asNat_nat, takeAt, one, cellsOf, cellsAt_new, setCs_new, set_new, putAt, -List.getD_eq_getElem?_getD, rd_ne, rd_eq, List.length_set, List.getD_cons_zero, List.getD_cons_succ]
      · simp [f111, resOf, hl, exec, xops, xoper, want, putT, xop, ev, bin, intBin, isShift, okv, asNat_nat, takeAt, one, cellsOf, cellsAt_new, setCs_new, set_new, putAt, -List.getD_eq_getElem?_getD, rd_ne, rd_eq, List.length_set, List.getD_cons_zero, List.getD_cons_succ]
    · simp only at hl h6
      rw [hsm]
      refine runF_iso (T := T2) (K := H2) (vs := [.bool false]) (vis := []) rfl ?_ ?_ (frz_depth rfl _)
      · rw [hf, hbd, exec_seq_norm a0, exec_seq_norm (by rw [exec_seq_norm a1, a2])]
        exact exec_seq_ret (by rw [exec_seq_norm a3]; exact exec_block_ret (by simpa only [exec] using h1))
      · simp [f111, resOf, hl, h6, exec, xops, xoper, want, putT, xop, ev, bin, intBin, isShift, okv, asNat_nat, takeAt, one, cellsOf, cellsAt_new, setCs_new, set_new, putAt, -List.getD_eq_getElem?_getD, rd_ne, rd_eq, List.length_set, List.getD_cons_zero, List.getD_cons_succ]
  · rw [Exs.same_ne hlen]
    have hne : ((a.len : Int) != (b.len : Int)) = true := by simp; omega
    refine runF_iso (T := [a.x, b.x, und, und, .bool false, und, und, a.x, .int .i64 (a.len : Int), b.x, .int .i64 (b.len : Int), .bool ((a.len : Int) != (b.len : Int)), und, und, und, und, und, und, und, und, und, und, und, und, und, und, und, und, und]) (K := []) (vs := [.bool false]) (vis := []) rfl ?_ ?_ (frz_depth rfl _)
    · rw [hf, hbd, exec_seq_norm a0]
      refine exec_seq_ret ?_
      rw [exec_seq_norm a1]
      simp [f111.r2, hne, exec, xops, xoper, want, putT, xop, ev, bin, intBin, isShift, okv, asNat_nat, takeAt, one, cellsOf, cellsAt_new, setCs_new, set_new, putAt, -List.getD_eq_getElem?_getD, rd_ne, rd_eq, List.length_set, List.getD_cons_zero, List.getD_cons_succ]
    · simp [f111, resOf, exec, xops, xoper, want, putT, xop, ev, bin, intBin, isShift, okv, asNat_nat, takeAt, one, cellsOf, cellsAt_new, setCs_new, set_new, putAt, -List.getD_eq_getElem?_getD, rd_ne, rd_eq, List.length_set, List.getD_cons_zero, List.getD_cons_succ]

theorem run50 {n : Nat} (e f : Ex) (hc : callN TE n 111 [e.args.x, f.args.x] [] = some (.ret (.bool (e.args.same f.args)) [])) : SameC (callN TE (n + 1)) 50 e f := by
  unfold SameC
  rw [callN_eq (xf := f50) rfl]
  obtain ⟨op, at_, b, i, ff, nm, args⟩ := e
  obtain ⟨op2, at2, b2, i2, ff2, nm2, args2⟩ := f
  simp only [Ex.args, Exs.x] at hc
  have hdc : ∀ H, docall TE (callN TE n) 111 [args.ptr args.cells, args2.ptr args2.cells] H = some (.ret (.bool (args.same args2)) H) := fun H => docall_iso (E := TE) rfl rfl (by simp [bares]) (by simp) hc H
  have hf : frame0 f50 [.agg (Ex.mk op at_ b i ff nm args).enc, .agg (Ex.mk op2 at2 b2 i2 ff2 nm2 args2).enc] = [.agg (Ex.mk op at_ b i ff nm args).enc, .agg (Ex.mk op2 at2 b2 i2 ff2 nm2 args2).enc, und, und, und, und, und, und, und, und, und, und, und, und, und, und, und, und, und, und, und, und, und, und, und, und, und, und, und, und, und, und, und, und, und, und, und, und, und, und, und, und, und] := rfl
  have key : ∃ T, exec TE (callN TE n) n f50.body ⟨[.agg (Ex.mk op at_ b i ff nm args).enc, .agg (Ex.mk op2 at2 b2 i2 ff2 nm2 args2).enc, und, und, und, und, und, und, und, und, und, und, und, und, und, und, und, und, und, und, und, und, und, und, und, und, und, und, und, und, und, und, und, und, und, und, und, und, und, und, und, und, und], [], []⟩ = some (.ret, ⟨T, [.tcells (Ex.mk op at_ b i ff nm args).enc 78 true, .tcells (Ex.mk op2 at2 b2 i2 ff2 nm2 args2).enc 78 true], []⟩) ∧
      T.getD 4 und = .bool ((Ex.mk op at_ b i ff nm args).same (Ex.mk op2 at2 b2 i2 ff2 nm2 args2)) := by
    simp only [Ex.enc, Ex.same]
    by_cases h1 : op = op2
    · by_cases h2 : b = b2
      · by_cases h3 : i = i2
        · by_cases h4 : ff = ff2
          · by_cases h5 : nm = nm2
            · refine ⟨?s4, ?e4, ?i4⟩
              case e4 =>
                simp [f50, f50.r0, f50.r1, f50.r2, f50.r3, h1, h2, h3, h4, h5, xeq, strBin, cellsAt, hdc, List.getElem?_set, exec, xops, xoper, want, putT, xop, ev, bin, intBin, isShift, okv, asNat_nat, takeAt, one, cellsOf, cellsAt_new, setCs_new, set_new, putAt, -List.getD_eq_getElem?_getD, rd_ne, rd_eq, List.length_set, List.getD_cons_zero, List.getD_cons_succ]
                rfl
              case i4 => simp [h1, h2, h3, h4, h5, exec, xops, xoper, want, putT, xop, ev, bin, intBin, isShift, okv, asNat_nat, takeAt, one, cellsOf, cellsAt_new, setCs_new, set_new, putAt, -List.getD_eq_getElem?_getD, rd_ne, rd_eq, List.length_set, List.getD_cons_zero, List.getD_cons_succ]
            · have hb5 : (nm == nm2) = false := beq_false_of_ne h5
              refine ⟨?s5, ?e5, ?i5⟩
              case e5 =>
                simp [f50, f50.r0, f50.r1, f50.r2, f50.r3, h1, h2, h3, h4, h5, hb5, xeq, strBin, cellsAt, hdc, List.getElem?_set, exec, xops, xoper, want, putT, xop, ev, bin, intBin, isShift, okv, asNat_nat, takeAt, one, cellsOf, cellsAt_new, setCs_new, set_new, putAt, -List.getD_eq_getElem?_getD, rd_ne, rd_eq, List.length_set, List.getD_cons_zero, List.getD_cons_succ]
                rfl
              case i5 => simp [h1, h2, h3, h4, h5, exec, xops, xoper, want, putT, xop, ev, bin, intBin, isShift, okv, asNat_nat, takeAt, one, cellsOf, cellsAt_new, setCs_new, set_new, putAt, -List.getD_eq_getElem?_getD, rd_ne, rd_eq, List.length_set, List.getD_cons_zero, List.getD_cons_succ]
          · refine ⟨?s6, ?e6, ?i6⟩
            case e6 =>
              simp [f50, f50.r0, f50.r1, f50.r2, f50.r3, h1, h2, h3, h4, xeq, strBin, cellsAt, hdc, List.getElem?_set, exec, xops, xoper, want, putT, xop, ev, bin, intBin, isShift, okv, asNat_nat, takeAt, one, cellsOf, cellsAt_new, setCs_new, set_new, putAt, -List.getD_eq_getElem?_getD, rd_ne, rd_eq, List.length_set, List.getD_cons_zero, List.getD_cons_succ]
              rfl
            case i6 => simp [h1, h2, h3, h4, exec, xops, xoper, want, putT, xop, ev, bin, intBin, isShift, okv, asNat_nat, takeAt, one, cellsOf, cellsAt_new, setCs_new, set_new, putAt, -List.getD_eq_getElem?_getD, rd_ne, rd_eq, List.length_set, List.getD_cons_zero, List.getD_cons_succ]
        · refine ⟨?s7, ?e7, ?i7⟩
          case e7 =>
            simp [f50, f50.r0, f50.r1, f50.r2, f50.r3, h1, h2, h3, xeq, strBin, cellsAt, hdc, List.getElem?_set, exec, xops, xoper, want, putT, xop, ev, bin, intBin, isShift, okv, asNat_nat, takeAt, one, cellsOf, cellsAt_new, setCs_new, set_new, putAt, -List.getD_eq_getElem?_getD, rd_ne, rd_eq, List.length_set, List.getD_cons_zero, List.getD_cons_succ]
            rfl
          case i7 => simp [h1, h2, h3, exec, xops, xoper, want, putT, xop, ev, bin, intBin, isShift, okv, asNat_nat, takeAt, one, cellsOf, cellsAt_new, setCs_new, set_new, putAt, -List.getD_eq_getElem?_getD, rd_ne, rd_eq, List.length_set, List.getD_cons_zero, List.getD_cons_succ]
      · refine ⟨?s8, ?e8, ?i8⟩
        case e8 =>
          simp [f50, f50.r0, f50.r1, f50.r2, f50.r3, h1, h2, xeq, strBin, cellsAt, hdc, List.getElem?_set, exec, xops, xoper, want, putT, xop, ev, bin, intBin, isShift, okv, asNat_nat, takeAt, one, cellsOf, cellsAt_new, setCs_new, set_new, putAt, -List.getD_eq_getElem?_getD, rd_ne, rd_eq, List.length_set, List.getD_cons_zero, List.getD_cons_succ]
          rfl
        case i8 => simp [h1, h2, exec, xops, xoper, want, putT, xop, ev, bin, intBin, isShift, okv, asNat_nat, takeAt, one, cellsOf, cellsAt_new, setCs_new, set_new, putAt, -List.getD_eq_getElem?_getD, rd_ne, rd_eq, List.length_set, List.getD_cons_zero, List.getD_cons_succ]
    · refine ⟨?s9, ?e9, ?i9⟩
      case e9 =>
        simp [f50, f50.r0, f50.r1, f50.r2, f50.r3, h1, xeq, strBin, cellsAt, hdc, List.getElem?_set, exec, xops, xoper, want, putT, xop, ev, bin, intBin, isShift, okv, asNat_nat, takeAt, one, cellsOf, cellsAt_new, setCs_new, set_new, putAt, -List.getD_eq_getElem?_getD, rd_ne, rd_eq, List.length_set, List.getD_cons_zero, List.getD_cons_succ]
        rfl
      case i9 => simp [h1, exec, xops, xoper, want, putT, xop, ev, bin, intBin, isShift, okv, asNat_nat, takeAt, one, cellsOf, cellsAt_new, setCs_new, set_new, putAt, -List.getD_eq_getElem?_getD, rd_ne, rd_eq, List.length_set, List.getD_cons_zero, List.getD_cons_succ]
  obtain ⟨T, h1, h4⟩ := key
  refine runF_iso (T := T) (K := _) (vs := [.bool ((Ex.mk op at_ b i ff nm args).same (Ex.mk op2 at2 b2 i2 ff2 nm2 args2))]) (vis := []) rfl (by rw [hf]; exact h1) ?_ (frz_depth rfl _)
  simp [f50, resOf, h4, -List.getD_eq_getElem?_getD]

mutual
theorem rsameE_ok : ∀ (e f : Ex) (n : Nat), 2 * e.sz < n → e.sz < 2 ^ 60 → SameC (callN TE n) 50 e f
  | .mk op at_ b i ff nm args, f, 0, hn, _ => by omega
  | .mk op at_ b i ff nm args, f, n + 1, hn, hb => by
    simp only [Ex.sz] at hn hb
    exact run50 _ f (rsameEs_ok args f.args n (by omega) (by omega))
theorem rsameE_all : ∀ (a b : Exs) (n : Nat), 2 * a.sz ≤ n → a.sz < 2 ^ 60 → a.All2 (SameC (callN TE n) 50) b
  | .nil _, _, _, _, _ => by simp [Exs.All2]
  | .cons e r, .nil _, n, hn, hb => by simp [Exs.All2]
  | .cons e r, .cons f t, n, hn, hb => by
    simp only [Exs.sz] at hn hb
    exact ⟨rsameE_ok e f n (by omega) (by omega), rsameE_all r t n (by omega) (by omega)⟩
theorem rsameEs_ok : ∀ (a b : Exs) (n : Nat), 2 * a.sz < n → a.sz < 2 ^ 60 → callN TE n 111 [a.x, b.x] [] = some (.ret (.bool (a.same b)) [])
  | a, b, 0, hn, _ => by omega
  | a, b, n + 1, hn, hb => by
    have := Exs.len_le a
    exact run111 a b (by omega) (by omega) (rsameE_all a b n (by omega) hb)
end

end Go.Proofs.YtnifjgdhgnmhmaaGreatDoor
