/- Whether two programs are the same: the document's way. Whether two programs are the same: the document's way, the loop. Whether two programs are the same: the document's way, the whole. Whether two programs are the same: the document's way, the function. Whether two programs are the same: the document's way. Whether two programs are the same: the document's way, joined. To be the same: of itself, and the other way round. Statements and expressions are counted: the document's way. Statements are counted: the document's way, a round. Statements are counted: the document's way, the loop. Programs are counted: the document's way. Programs are counted: the tree's own way: a function that calls itself through a variable. Programs are counted: the tree's own way, joined. The law 'TreeSame' itself: its run. The law 'TreeSame' itself: its run, joined. -/
import Derived.Test.YtnifjgdhgnmhmaaGreatDoorM7
import Derived.Test.YtnifjgdhgnmhmaaGreatDoorM6
namespace Go.Proofs.YtnifjgdhgnmhmaaGreatDoor
open Go Go.X
set_option linter.unusedSimpArgs false
set_option linter.unusedVariables false

theorem cellsAt_p0 (P Q : XB) (G : Heap) (cs : List XV) (t : Nat) (f : Bool) (y : XB) : cellsAt (P :: Q :: (G ++ [.tcells cs t f, y])) (G.length + 1 + 1) = some cs := by simp [cellsAt]
theorem cellsAt_p1 (P Q : XB) (G : Heap) (cs : List XV) (t : Nat) (f : Bool) (x : XB) : cellsAt (P :: Q :: (G ++ [x, .tcells cs t f])) (G.length + 1 + 1 + 1) = some cs := by simp [cellsAt, List.getElem?_append]

def I47 (p q : Pr) (i : Nat) (s : St) : Prop :=
  s.D = [] ∧ s.T.length = 100 ∧ (∃ G, s.H = .tcells p.enc 66 true :: .tcells q.enc 66 true :: G) ∧ s.T.getD 2 und = .ptr 0 0 ∧ s.T.getD 3 und = .ptr 1 0 ∧ s.T.getD 5 und = .int .i64 (i : Int)

def F47 (s : St) : Prop := s.D = [] ∧ s.T.length = 100 ∧ s.T.getD 4 und = .bool false

def J47 (p q : Pr) (i : Nat) (e f : De) (s : St) : Prop :=
  s.D = [] ∧ s.T.length = 100 ∧ s.T.getD 2 und = .ptr 0 0 ∧ s.T.getD 3 und = .ptr 1 0 ∧ s.T.getD 5 und = .int .i64 (i : Int) ∧
  ∃ G, s.H = .tcells p.enc 66 true :: .tcells q.enc 66 true :: (G ++ [.tcells e.enc 122 true, .tcells f.enc 122 true]) ∧ s.T.getD 6 und = .ptr (G.length + 1 + 1) 0 ∧ s.T.getD 7 und = .ptr (G.length + 1 + 1 + 1) 0

theorem ask47 {call : CallF} {k i : Nat} {p q : Pr} {e f : De} {s : St} (hs : J47 p q i e f s) (c1 : SameC call 50 e.lo f.lo) (c2 : SameC call 50 e.hi f.hi) :
    (e.same f = true ∧ ∃ s', exec TE call k (.seq (.region f47.r7) (.cond (.t 87) (.seq (.region f47.r8) (.ret)) (.skip))) s = some (.norm, s') ∧ I47 p q i s') ∨
    (e.same f = false ∧ ∃ s', exec TE call k (.seq (.region f47.r7) (.cond (.t 87) (.seq (.region f47.r8) (.ret)) (.skip))) s = some (.ret, s') ∧ F47 s') := by
  obtain ⟨T, H, D⟩ := s
  obtain ⟨rfl, hl, h2, h3, h5, G, rfl, h6, h7⟩ := hs
  simp only at hl h2 h3 h5 h6 h7
  obtain ⟨da, input, name, ty, len, range, ⟨op, eat, bb, ii, ff, en, args⟩, ⟨hop, heat, hbb, hii, hff, hen, hargs⟩⟩ := e
  obtain ⟨da2, input2, name2, ty2, len2, range2, ⟨op2, eat2, bb2, ii2, ff2, en2, args2⟩, ⟨hop2, heat2, hbb2, hii2, hff2, hen2, hargs2⟩⟩ := f
  simp only [SameC, Ex.enc] at c1 c2
  have hd1 : ∀ H, docall TE call 50 [.agg [.int .u8 op, .int .i64 eat, .bool bb, .int .i32 ii, .int .u64 ff, .str en, args.ptr args.cells], .agg [.int .u8 op2, .int .i64 eat2, .bool bb2, .int .i32 ii2, .int .u64 ff2, .str en2, args2.ptr args2.cells]] H =
      some (.ret (.bool ((Ex.mk op eat bb ii ff en args).same (Ex.mk op2 eat2 bb2 ii2 ff2 en2 args2))) H) := fun H => docall_iso (E := TE) rfl rfl (by simp [bares, leafs]) (by simp) c1 H
  have hd2 : ∀ H, docall TE call 50 [.agg [.int .u8 hop, .int .i64 heat, .bool hbb, .int .i32 hii, .int .u64 hff, .str hen, hargs.ptr hargs.cells], .agg [.int .u8 hop2, .int .i64 heat2, .bool hbb2, .int .i32 hii2, .int .u64 hff2, .str hen2, hargs2.ptr hargs2.cells]] H =
      some (.ret (.bool ((Ex.mk hop heat hbb hii hff hen hargs).same (Ex.mk hop2 heat2 hbb2 hii2 hff2 hen2 hargs2))) H) := fun H => docall_iso (E := TE) rfl rfl (by simp [bares, leafs]) (by simp) c2 H
  by_cases q1 : input = input2
  · by_cases q2 : name = name2
    · by_cases q3 : ty = ty2
      · by_cases q4 : len = len2
        · by_cases q5 : range = range2
          · cases b1 : (Ex.mk op eat bb ii ff en args).same (Ex.mk op2 eat2 bb2 ii2 ff2 en2 args2) with
            | true =>
              cases b2 : (Ex.mk hop heat hbb hii hff hen hargs).same (Ex.mk hop2 heat2 hbb2 hii2 hff2 hen2 hargs2) with
              | true =>
                left
                refine ⟨by simp [De.same, q1, q2, q3, q4, q5, b1, b2], ?_⟩
                refine ⟨?s1, ?e1, ?i1⟩
                case e1 =>
                  simp [f47.r7, f47.r8, un, q1, q2, q3, q4, q5, b1, b2, strBin, xeq, hd1, hd2, hl, h2, h3, h5, h6, h7, De.enc, Ex.enc, cellsAt_p0, cellsAt_p1, List.getElem?_set, exec, xops, xoper, want, putT, xop, ev, bin, intBin, isShift, okv, asNat_nat, takeAt, one, cellsOf, cellsAt_new, setCs_new, set_new, putAt, -List.getD_eq_getElem?_getD, rd_ne, rd_eq, List.length_set, List.getD_cons_zero, List.getD_cons_succ]
                  rfl
                case i1 => simp [I47, De.enc, Ex.enc, hl, h2, h3, h5, h6, h7, q1, q2, q3, q4, q5, b1, b2, exec, xops, xoper, want, putT, xop, ev, bin, intBin, isShift, okv, asNat_nat, takeAt, one, cellsOf, cellsAt_new, setCs_new, set_new, putAt, -List.getD_eq_getElem?_getD, rd_ne, rd_eq, List.length_set, List.getD_cons_zero, List.getD_cons_succ]
              | false =>
                right
                refine ⟨by simp [De.same, q1, q2, q3, q4, q5, b1, b2], ?_⟩
                refine ⟨?s2, ?e2, ?i2⟩
                case e2 =>
                  simp [f47.r7, f47.r8, un, q1, q2, q3, q4, q5, b1, b2, strBin, xeq, hd1, hd2, hl, h2, h3, h5, h6, h7, De.enc, Ex.enc, cellsAt_p0, cellsAt_p1, List.getElem?_set, exec, xops, xoper, want, putT, xop, ev, bin, intBin, isShift, okv, asNat_nat, takeAt, one, cellsOf, cellsAt_new, setCs_new, set_new, putAt, -List.getD_eq_getElem?_getD, rd_ne, rd_eq, List.length_set, List.getD_cons_zero, List.getD_cons_succ]
                  rfl
                case i2 => simp [F47, hl, q1, q2, q3, q4, q5, b1, b2, exec, xops, xoper, want, putT, xop, ev, bin, intBin, isShift, okv, asNat_nat, takeAt, one, cellsOf, cellsAt_new, setCs_new, set_new, putAt, -List.getD_eq_getElem?_getD, rd_ne, rd_eq, List.length_set, List.getD_cons_zero, List.getD_cons_succ]
            | false =>
              right
              refine ⟨by simp [De.same, q1, q2, q3, q4, q5, b1], ?_⟩
              refine ⟨?s3, ?e3, ?i3⟩
              case e3 =>
                simp [f47.r7, f47.r8, un, q1, q2, q3, q4, q5, b1, strBin, xeq, hd1, hd2, hl, h2, h3, h5, h6, h7, De.enc, Ex.enc, cellsAt_p0, cellsAt_p1, List.getElem?_set, exec, xops, xoper, want, putT, xop, ev, bin, intBin, isShift, okv, asNat_nat, takeAt, one, cellsOf, cellsAt_new, setCs_new, set_new, putAt, -List.getD_eq_getElem?_getD, rd_ne, rd_eq, List.length_set, List.getD_cons_zero, List.getD_cons_succ]
                rfl
              case i3 => simp [F47, hl, q1, q2, q3, q4, q5, b1, exec, xops, xoper, want, putT, xop, ev, bin, intBin, isShift, okv, asNat_nat, takeAt, one, cellsOf, cellsAt_new, setCs_new, set_new, putAt, -List.getD_eq_getElem?_getD, rd_ne, rd_eq, List.length_set, List.getD_cons_zero, List.getD_cons_succ]
          · right
            have hbn : (range == range2) = false := beq_false_of_ne q5
            have hbm : (range != range2) = true := bne_iff_ne.2 q5
            refine ⟨by simp [De.same, q1, q2, q3, q4, q5, hbn, hbm], ?_⟩
            refine ⟨?s4, ?e4, ?i4⟩
            case e4 =>
              simp [f47.r7, f47.r8, un, q1, q2, q3, q4, q5, hbn, hbm, strBin, xeq, hd1, hd2, hl, h2, h3, h5, h6, h7, De.enc, Ex.enc, cellsAt_p0, cellsAt_p1, List.getElem?_set, exec, xops, xoper, want, putT, xop, ev, bin, intBin, isShift, okv, asNat_nat, takeAt, one, cellsOf, cellsAt_new, setCs_new, set_new, putAt, -List.getD_eq_getElem?_getD, rd_ne, rd_eq, List.length_set, List.getD_cons_zero, List.getD_cons_succ]
              rfl
            case i4 => simp [F47, hl, q1, q2, q3, q4, q5, hbn, hbm, exec, xops, xoper, want, putT, xop, ev, bin, intBin, isShift, okv, asNat_nat, takeAt, one, cellsOf, cellsAt_new, setCs_new, set_new, putAt, -List.getD_eq_getElem?_getD, rd_ne, rd_eq, List.length_set, List.getD_cons_zero, List.getD_cons_succ]
        · right
          have hbn : (len == len2) = false := beq_false_of_ne q4
          have hbm : (len != len2) = true := bne_iff_ne.2 q4
          refine ⟨by simp [De.same, q1, q2, q3, q4, hbn, hbm], ?_⟩
          refine ⟨?s5, ?e5, ?i5⟩
          case e5 =>
            simp [f47.r7, f47.r8, un, q1, q2, q3, q4, hbn, hbm, strBin, xeq, hd1, hd2, hl, h2, h3, h5, h6, h7, De.enc, Ex.enc, cellsAt_p0, cellsAt_p1, List.getElem?_set, exec, xops, xoper, want, putT, xop, ev, bin, intBin, isShift, okv, asNat_nat, takeAt, one, cellsOf, cellsAt_new, setCs_new, set_new, putAt, -List.getD_eq_getElem?_getD, rd_ne, rd_eq, List.length_set, List.getD_cons_zero, List.getD_cons_succ]
            rfl
          case i5 => simp [F47, hl, q1, q2, q3, q4, hbn, hbm, exec, xops, xoper, want, putT, xop, ev, bin, intBin, isShift, okv, asNat_nat, takeAt, one, cellsOf, cellsAt_new, setCs_new, set_new, putAt, -List.getD_eq_getElem?_getD, rd_ne, rd_eq, List.length_set, List.getD_cons_zero, List.getD_cons_succ]
      · right
        have hbn : (ty == ty2) = false := beq_false_of_ne q3
        have hbm : (ty != ty2) = true := bne_iff_ne.2 q3
        refine ⟨by simp [De.same, q1, q2, q3, hbn, hbm], ?_⟩
        refine ⟨?s6, ?e6, ?i6⟩
        case e6 =>
          simp [f47.r7, f47.r8, un, q1, q2, q3, hbn, hbm, strBin, xeq, hd1, hd2, hl, h2, h3, h5, h6, h7, De.enc, Ex.enc, cellsAt_p0, cellsAt_p1, List.getElem?_set, exec, xops, xoper, want, putT, xop, ev, bin, intBin, isShift, okv, asNat_nat, takeAt, one, cellsOf, cellsAt_new, setCs_new, set_new, putAt, -List.getD_eq_getElem?_getD, rd_ne, rd_eq, List.length_set, List.getD_cons_zero, List.getD_cons_succ]
          rfl
        case i6 => simp [F47, hl, q1, q2, q3, hbn, hbm, exec, xops, xoper, want, putT, xop, ev, bin, intBin, isShift, okv, asNat_nat, takeAt, one, cellsOf, cellsAt_new, setCs_new, set_new, putAt, -List.getD_eq_getElem?_getD, rd_ne, rd_eq, List.length_set, List.getD_cons_zero, List.getD_cons_succ]
    · right
      have hbn : (name == name2) = false := beq_false_of_ne q2
      have hbm : (name != name2) = true := bne_iff_ne.2 q2
      refine ⟨by simp [De.same, q1, q2, hbn, hbm], ?_⟩
      refine ⟨?s7, ?e7, ?i7⟩
      case e7 =>
        simp [f47.r7, f47.r8, un, q1, q2, hbn, hbm, strBin, xeq, hd1, hd2, hl, h2, h3, h5, h6, h7, De.enc, Ex.enc, cellsAt_p0, cellsAt_p1, List.getElem?_set, exec, xops, xoper, want, putT, xop, ev, bin, intBin, isShift, okv, asNat_nat, takeAt, one, cellsOf, cellsAt_new, setCs_new, set_new, putAt, -List.getD_eq_getElem?_getD, rd_ne, rd_eq, List.length_set, List.getD_cons_zero, List.getD_cons_succ]
        rfl
      case i7 => simp [F47, hl, q1, q2, hbn, hbm, exec, xops, xoper, want, putT, xop, ev, bin, intBin, isShift, okv, asNat_nat, takeAt, one, cellsOf, cellsAt_new, setCs_new, set_new, putAt, -List.getD_eq_getElem?_getD, rd_ne, rd_eq, List.length_set, List.getD_cons_zero, List.getD_cons_succ]
  · right
    have hbn : (input == input2) = false := beq_false_of_ne q1
    have hbm : (input != input2) = true := bne_iff_ne.2 q1
    refine ⟨by simp [De.same, q1, hbn, hbm], ?_⟩
    refine ⟨?s8, ?e8, ?i8⟩
    case e8 =>
      simp [f47.r7, f47.r8, un, q1, hbn, hbm, strBin, xeq, hd1, hd2, hl, h2, h3, h5, h6, h7, De.enc, Ex.enc, cellsAt_p0, cellsAt_p1, List.getElem?_set, exec, xops, xoper, want, putT, xop, ev, bin, intBin, isShift, okv, asNat_nat, takeAt, one, cellsOf, cellsAt_new, setCs_new, set_new, putAt, -List.getD_eq_getElem?_getD, rd_ne, rd_eq, List.length_set, List.getD_cons_zero, List.getD_cons_succ]
      rfl
    case i8 => simp [F47, hl, q1, hbn, hbm, exec, xops, xoper, want, putT, xop, ev, bin, intBin, isShift, okv, asNat_nat, takeAt, one, cellsOf, cellsAt_new, setCs_new, set_new, putAt, -List.getD_eq_getElem?_getD, rd_ne, rd_eq, List.length_set, List.getD_cons_zero, List.getD_cons_succ]

end Go.Proofs.YtnifjgdhgnmhmaaGreatDoor
namespace Go.Proofs.YtnifjgdhgnmhmaaGreatDoor
open Go Go.X
set_option linter.unusedSimpArgs false
set_option linter.unusedVariables false

theorem cellsAt_pl (P Q : XB) (G : Heap) (cs : List XV) (t : Nat) (f : Bool) : cellsAt (P :: Q :: (G ++ [.tcells cs t f])) (G.length + 1 + 1) = some cs := by simp [cellsAt]
theorem setCs_pl (P Q : XB) (G : Heap) (cs cs' : List XV) (t : Nat) (f : Bool) : setCs (P :: Q :: (G ++ [.tcells cs t f])) (G.length + 1 + 1) cs' = .tcells cs' t f := by simp [setCs]
theorem set_pl (P Q x y : XB) (G : Heap) : (P :: Q :: (G ++ [x])).set (G.length + 1 + 1) y = P :: Q :: (G ++ [y]) := by simp [List.set_append]
theorem setCs_p1 (P Q : XB) (G : Heap) (cs cs' : List XV) (t : Nat) (f : Bool) (x : XB) : setCs (P :: Q :: (G ++ [x, .tcells cs t f])) (G.length + 1 + 1 + 1) cs' = .tcells cs' t f := by simp [setCs, List.getElem?_append]
theorem set_p1 (P Q x y z : XB) (G : Heap) : (P :: Q :: (G ++ [x, y])).set (G.length + 1 + 1 + 1) z = P :: Q :: (G ++ [x, z]) := by simp [List.set_append]
theorem cellsAt_c0 (cs : List XV) (t : Nat) (f : Bool) (G : Heap) : cellsAt (.tcells cs t f :: G) 0 = some cs := rfl
theorem cellsAt_c1 (P : XB) (cs : List XV) (t : Nat) (f : Bool) (G : Heap) : cellsAt (P :: .tcells cs t f :: G) 1 = some cs := rfl

theorem De.all_oneCell (e : De) : e.enc.all oneCell = true := by
  obtain ⟨da, input, name, ty, len, range, ⟨op, eat, bb, ii, ff, en, args⟩, ⟨hop, heat, hbb, hii, hff, hen, hargs⟩⟩ := e
  simp [De.enc, Ex.enc, Exs.oneCell_ptr]

theorem lay47 {call : CallF} {k i : Nat} {p q : Pr} {s : St} (hs : I47 p q i s) (h : i < p.decls.length) (hlen : p.decls.length = q.decls.length) (e f : De) (r t : List XV) (he : (desCells p.decls).drop (i * 20) = e.enc ++ r) (hf : (desCells q.decls).drop (i * 20) = f.enc ++ t) :
    ∃ s', exec TE call k (.seq (.region f47.r5) (.region f47.r6)) s = some (.norm, s') ∧ J47 p q i e f s' := by
  obtain ⟨T, H, D⟩ := s
  obtain ⟨rfl, hl, ⟨G, rfl⟩, h2, h3, h5⟩ := hs
  simp only at hl h2 h3 h5
  have hxa := desX_vs (z := p.z) h
  have hxb := desX_vs (z := q.z) (show i < q.decls.length by omega)
  have hca := desCells_length p.decls
  have hcb := desCells_length q.decls
  have hla : i * 20 ≤ (desCells p.decls).length := by omega
  have hlb : i * 20 ≤ (desCells q.decls).length := by omega
  have hib : i < q.decls.length := by omega
  have hte : ∀ r : List XV, takeAt (e.enc ++ r) 0 20 = some e.enc := fun r => by simp [takeAt, De.enc_length, List.take_left' (De.enc_length e)]
  have htf : ∀ r : List XV, takeAt (f.enc ++ r) 0 20 = some f.enc := fun r => by simp [takeAt, De.enc_length, List.take_left' (De.enc_length f)]
  have ht1 : ∀ a b c d : XV, takeAt [a, b, c, d] 1 1 = some [b] := fun _ _ _ _ => rfl
  have hde : List.drop 20 e.enc = [] := by simp [De.enc_length]
  have hdf : List.drop 20 f.enc = [] := by simp [De.enc_length]
  refine ⟨?s1, ?e1, ?i1⟩
  case e1 =>
    simp [f47.r5, f47.r6, Pr.enc, hxa, hxb, ht1, hla, hlb, he, hf, hte, htf, h, hib, hl, h2, h3, h5, De.enc_length, De.all_oneCell, cellsAt_c0, cellsAt_c1, cellsAt_pl, setCs_pl, set_pl, cellsAt_p1, setCs_p1, set_p1, exec, xops, xoper, want, putT, xop, ev, okv, asNat_nat, one, cellsOf, putAt, -List.getD_eq_getElem?_getD, rd_ne, rd_eq, List.length_set]
    rfl
  case i1 => simp [J47, Pr.enc, hxa, hxb, hl, h2, h3, h5, exec, xops, xoper, want, putT, xop, ev, bin, intBin, isShift, okv, asNat_nat, takeAt, one, cellsOf, cellsAt_new, setCs_new, set_new, putAt, -List.getD_eq_getElem?_getD, rd_ne, rd_eq, List.length_set, List.getD_cons_zero, List.getD_cons_succ]

end Go.Proofs.YtnifjgdhgnmhmaaGreatDoor
namespace Go.Proofs.YtnifjgdhgnmhmaaGreatDoor
open Go Go.X
set_option linter.unusedSimpArgs false
set_option linter.unusedVariables false

def body47 : XC := (.seq (.seq (.region f47.r4) (.cond (.t 26) (.skip) (.exit 0))) (.seq (.block 1 (.seq (.region f47.r5) (.seq (.region f47.r6) (.seq (.region f47.r7) (.cond (.t 87) (.seq (.region f47.r8) (.ret)) (.skip)))))) (.region f47.r9)))

theorem exit47 {call : CallF} {k i : Nat} {p q : Pr} {s : St} (hs : I47 p q i s) (h : ¬ i < p.decls.length) : ∃ s', exec TE call k body47 s = some (.exit 0, s') ∧ I47 p q i s' := by
  obtain ⟨T, H, D⟩ := s
  obtain ⟨rfl, hl, ⟨G, rfl⟩, h2, h3, h5⟩ := hs
  simp only at hl h2 h3 h5
  have hla := lenOf_des p.z p.decls
  have ht1 : ∀ a b c d : XV, takeAt [a, b, c, d] 1 1 = some [b] := fun _ _ _ _ => rfl
  refine ⟨?s1, ?e1, ?i1⟩
  case e1 =>
    simp [body47, f47.r4, Pr.enc, h, hla, hl, h2, h3, h5, cellsAt_c0, exec, xops, xoper, want, putT, xop, ev, bin, intBin, isShift, okv, asNat_nat, takeAt, one, cellsOf, cellsAt_new, setCs_new, set_new, putAt, -List.getD_eq_getElem?_getD, rd_ne, rd_eq, List.length_set, List.getD_cons_zero, List.getD_cons_succ]
    rfl
  case i1 => simp [I47, Pr.enc, hl, h2, h3, h5, exec, xops, xoper, want, putT, xop, ev, bin, intBin, isShift, okv, asNat_nat, takeAt, one, cellsOf, cellsAt_new, setCs_new, set_new, putAt, -List.getD_eq_getElem?_getD, rd_ne, rd_eq, List.length_set, List.getD_cons_zero, List.getD_cons_succ]

theorem step47 {call : CallF} {k i : Nat} {p q : Pr} {s : St} (hs : I47 p q i s) (h : i < p.decls.length) (hlen : p.decls.length = q.decls.length) (e f : De) (r t : List XV) (he : (desCells p.decls).drop (i * 20) = e.enc ++ r) (hf : (desCells q.decls).drop (i * 20) = f.enc ++ t) (hi : i + 1 < 2 ^ 63)
    (c1 : SameC call 50 e.lo f.lo) (c2 : SameC call 50 e.hi f.hi) : (e.same f = true ∧ ∃ s', exec TE call k body47 s = some (.norm, s') ∧ I47 p q (i + 1) s') ∨ (e.same f = false ∧ ∃ s', exec TE call k body47 s = some (.ret, s') ∧ F47 s') := by
  obtain ⟨T, H, D⟩ := s
  obtain ⟨rfl, hl, ⟨G, rfl⟩, h2, h3, h5⟩ := hs
  simp only at hl h2 h3 h5
  have hla := lenOf_des p.z p.decls
  have hw2 : IntKind.i64.wrap ((i : Int) + 1) = (i : Int) + 1 := wrap_small (by omega) (by omega)
  have head : ∃ s', exec TE call k (.seq (.region f47.r4) (.cond (.t 26) (.skip) (.exit 0))) ⟨T, .tcells p.enc 66 true :: .tcells q.enc 66 true :: G, []⟩ = some (.norm, s') ∧ I47 p q i s' := by
    refine ⟨?s2, ?e2, ?i2⟩
    case e2 =>
      simp [f47.r4, Pr.enc, h, hla, hl, h2, h3, h5, cellsAt_c0, exec, xops, xoper, want, putT, xop, ev, bin, intBin, isShift, okv, asNat_nat, takeAt, one, cellsOf, cellsAt_new, setCs_new, set_new, putAt, -List.getD_eq_getElem?_getD, rd_ne, rd_eq, List.length_set, List.getD_cons_zero, List.getD_cons_succ]
      rfl
    case i2 => simp [I47, Pr.enc, hl, h2, h3, h5, exec, xops, xoper, want, putT, xop, ev, bin, intBin, isShift, okv, asNat_nat, takeAt, one, cellsOf, cellsAt_new, setCs_new, set_new, putAt, -List.getD_eq_getElem?_getD, rd_ne, rd_eq, List.length_set, List.getD_cons_zero, List.getD_cons_succ]
  obtain ⟨s1, e1, i1⟩ := head
  obtain ⟨s2, e2, j2⟩ := lay47 (call := call) (k := k) i1 h hlen e f r t he hf
  rcases ask47 (call := call) (k := k) j2 c1 c2 with ⟨hh, s3, e3, i3⟩ | ⟨hh, s3, e3, f3⟩
  · left
    obtain ⟨T4, H4, D4⟩ := s3
    obtain ⟨rfl, gl, ⟨G4, rfl⟩, g2, g3, g5⟩ := i3
    simp only at gl g2 g3 g5
    refine ⟨hh, ⟨((T4.set 27 (.int .i64 (i : Int))).set 28 (.int .i64 ((i : Int) + 1))).set 5 (.int .i64 ((i : Int) + 1)), .tcells p.enc 66 true :: .tcells q.enc 66 true :: G4, []⟩, ?_, ?_⟩
    rotate_left
    · exact ⟨rfl, by simp [gl], ⟨G4, rfl⟩, by simp [gl, g2, exec, xops, xoper, want, putT, xop, ev, bin, intBin, isShift, okv, asNat_nat, takeAt, one, cellsOf, cellsAt_new, setCs_new, set_new, putAt, -List.getD_eq_getElem?_getD, rd_ne, rd_eq, List.length_set, List.getD_cons_zero, List.getD_cons_succ], by simp [gl, g3, exec, xops, xoper, want, putT, xop, ev, bin, intBin, isShift, okv, asNat_nat, takeAt, one, cellsOf, cellsAt_new, setCs_new, set_new, putAt, -List.getD_eq_getElem?_getD, rd_ne, rd_eq, List.length_set, List.getD_cons_zero, List.getD_cons_succ], by simp [gl, exec, xops, xoper, want, putT, xop, ev, bin, intBin, isShift, okv, asNat_nat, takeAt, one, cellsOf, cellsAt_new, setCs_new, set_new, putAt, -List.getD_eq_getElem?_getD, rd_ne, rd_eq, List.length_set, List.getD_cons_zero, List.getD_cons_succ]⟩
    · unfold body47
      rw [exec_seq_norm e1, exec_seq_norm (exec_block_norm (by rw [exec_assoc e2, e3]))]
      simp [f47.r9, hw2, gl, g5, exec, xops, xoper, want, putT, xop, ev, bin, intBin, isShift, okv, asNat_nat, takeAt, one, cellsOf, cellsAt_new, setCs_new, set_new, putAt, -List.getD_eq_getElem?_getD, rd_ne, rd_eq, List.length_set, List.getD_cons_zero, List.getD_cons_succ]
  · right
    refine ⟨hh, s3, ?_, f3⟩
    unfold body47
    rw [exec_seq_norm e1]
    exact exec_seq_ret (exec_block_ret (by rw [exec_assoc e2, e3]))

theorem loop47 {call : CallF} {k : Nat} {p q : Pr} (hlen : p.decls.length = q.decls.length) (hlb : p.decls.length + 1 < 2 ^ 63) : ∀ (r t : List De) (n i : Nat), r.length < n → (desCells p.decls).drop (i * 20) = desCells r → (desCells q.decls).drop (i * 20) = desCells t → i + r.length = p.decls.length → r.length = t.length →
    (∀ e ∈ r, ∀ f : De, SameC call 50 e.lo f.lo ∧ SameC call 50 e.hi f.hi) →
    ∀ s, I47 p q i s → ((toDes p.z r).same (toDes q.z t) = true ∧ ∃ s' j, loopN (exec TE call k body47) n s = some (.exit 0, s') ∧ I47 p q j s') ∨ ((toDes p.z r).same (toDes q.z t) = false ∧ ∃ s', loopN (exec TE call k body47) n s = some (.ret, s') ∧ F47 s')
  | _, _, 0, _, hn, _, _, _, _, _ => by omega
  | [], _ :: _, n + 1, i, hn, hcs, hct, hl1, hl2, hall => by simp at hl2
  | _ :: _, [], n + 1, i, hn, hcs, hct, hl1, hl2, hall => by simp at hl2
  | [], [], n + 1, i, hn, hcs, hct, hl1, hl2, hall => by
    intro s hs
    simp only [List.length_nil, Nat.add_zero] at hl1
    obtain ⟨s', h1, h2⟩ := exit47 (call := call) (k := k) hs (by omega)
    exact .inl ⟨by simp [toDes, Des.same], s', i, by simp [loopN, h1], h2⟩
  | e :: r, f :: t, n + 1, i, hn, hcs, hct, hl1, hl2, hall => by
    intro s hs
    simp only [List.length_cons] at hl1 hl2 hn
    simp only [desCells] at hcs hct
    have hc := hall e (by simp) f
    rcases step47 (call := call) (k := k) hs (by omega) hlen e f (desCells r) (desCells t) hcs hct (by omega) hc.1 hc.2 with ⟨hsm, s', h1, h2⟩ | ⟨hsm, s', h1, h2⟩
    · have hd : (desCells p.decls).drop ((i + 1) * 20) = desCells r := by
        rw [Nat.add_mul, Nat.one_mul, ← List.drop_drop, hcs, List.drop_left' (De.enc_length e)]
      have hd' : (desCells q.decls).drop ((i + 1) * 20) = desCells t := by
        rw [Nat.add_mul, Nat.one_mul, ← List.drop_drop, hct, List.drop_left' (De.enc_length f)]
      rcases loop47 (call := call) (k := k) hlen hlb r t n (i + 1) (by omega) hd hd' (by omega) (by omega) (fun e he => hall e (by simp [he])) s' h2 with ⟨h3, s'', j, h4, h5⟩ | ⟨h3, s'', h4, h5⟩
      · exact .inl ⟨by simp [toDes, Des.same, hsm, h3], s'', j, by simp [loopN, h1, h4], h5⟩
      · exact .inr ⟨by simp [toDes, Des.same, hsm, h3], s'', by simp [loopN, h1, h4], h5⟩
    · exact .inr ⟨by simp [toDes, Des.same, hsm], s', by simp [loopN, h1], h2⟩

end Go.Proofs.YtnifjgdhgnmhmaaGreatDoor
namespace Go.Proofs.YtnifjgdhgnmhmaaGreatDoor
open Go Go.X
set_option linter.unusedSimpArgs false
set_option linter.unusedVariables false

def K47 (p q : Pr) (s : St) : Prop :=
  s.D = [] ∧ s.T.length = 100 ∧ s.H = [.tcells p.enc 66 true, .tcells q.enc 66 true] ∧ s.T.getD 2 und = .ptr 0 0 ∧ s.T.getD 3 und = .ptr 1 0

theorem first47 {call : CallF} {k : Nat} {p q : Pr} {s : St} (hs : K47 p q s) :
    (p.ticks = q.ticks ∧ p.decls.length = q.decls.length ∧ ∃ s', exec TE call k (.seq (.region f47.r1) (.cond (.t 21) (.seq (.region f47.r2) (.ret)) (.skip))) s = some (.norm, s') ∧ K47 p q s') ∨
    (¬ (p.ticks = q.ticks ∧ p.decls.length = q.decls.length) ∧ ∃ s', exec TE call k (.seq (.region f47.r1) (.cond (.t 21) (.seq (.region f47.r2) (.ret)) (.skip))) s = some (.ret, s') ∧ F47 s') := by
  obtain ⟨T, H, D⟩ := s
  obtain ⟨rfl, hl, rfl, h2, h3⟩ := hs
  simp only at hl h2 h3
  have hla := lenOf_des p.z p.decls
  have hlb := lenOf_des q.z q.decls
  by_cases q1 : p.ticks = q.ticks
  · by_cases q2 : p.decls.length = q.decls.length
    · left
      refine ⟨q1, q2, ?_⟩
      refine ⟨?s1, ?e1, ?i1⟩
      case e1 =>
        simp [f47.r1, f47.r2, Pr.enc, q1, q2, hla, hlb, hl, h2, h3, cellsAt_c0, cellsAt_c1, List.getElem?_set, exec, xops, xoper, want, putT, xop, ev, bin, intBin, isShift, okv, asNat_nat, takeAt, one, cellsOf, cellsAt_new, setCs_new, set_new, putAt, -List.getD_eq_getElem?_getD, rd_ne, rd_eq, List.length_set, List.getD_cons_zero, List.getD_cons_succ]
        rfl
      case i1 => simp [K47, Pr.enc, q1, hl, h2, h3, exec, xops, xoper, want, putT, xop, ev, bin, intBin, isShift, okv, asNat_nat, takeAt, one, cellsOf, cellsAt_new, setCs_new, set_new, putAt, -List.getD_eq_getElem?_getD, rd_ne, rd_eq, List.length_set, List.getD_cons_zero, List.getD_cons_succ]
    · right
      refine ⟨fun h => q2 h.2, ?_⟩
      have hbm : ((p.decls.length : Int) != (q.decls.length : Int)) = true := by simp; omega
      refine ⟨?s2, ?e2, ?i2⟩
      case e2 =>
        simp [f47.r1, f47.r2, Pr.enc, q1, hbm, hla, hlb, hl, h2, h3, cellsAt_c0, cellsAt_c1, List.getElem?_set, exec, xops, xoper, want, putT, xop, ev, bin, intBin, isShift, okv, asNat_nat, takeAt, one, cellsOf, cellsAt_new, setCs_new, set_new, putAt, -List.getD_eq_getElem?_getD, rd_ne, rd_eq, List.length_set, List.getD_cons_zero, List.getD_cons_succ]
        rfl
      case i2 => simp [F47, hl, exec, xops, xoper, want, putT, xop, ev, bin, intBin, isShift, okv, asNat_nat, takeAt, one, cellsOf, cellsAt_new, setCs_new, set_new, putAt, -List.getD_eq_getElem?_getD, rd_ne, rd_eq, List.length_set, List.getD_cons_zero, List.getD_cons_succ]
  · right
    refine ⟨fun h => q1 h.1, ?_⟩
    have hbm : (p.ticks != q.ticks) = true := bne_iff_ne.2 q1
    have hbn : (p.ticks == q.ticks) = false := beq_false_of_ne q1
    refine ⟨?s3, ?e3, ?i3⟩
    case e3 =>
      simp [f47.r1, f47.r2, Pr.enc, q1, hbm, hbn, hla, hlb, hl, h2, h3, cellsAt_c0, cellsAt_c1, List.getElem?_set, exec, xops, xoper, want, putT, xop, ev, bin, intBin, isShift, okv, asNat_nat, takeAt, one, cellsOf, cellsAt_new, setCs_new, set_new, putAt, -List.getD_eq_getElem?_getD, rd_ne, rd_eq, List.length_set, List.getD_cons_zero, List.getD_cons_succ]
      rfl
    case i3 => simp [F47, hl, exec, xops, xoper, want, putT, xop, ev, bin, intBin, isShift, okv, asNat_nat, takeAt, one, cellsOf, cellsAt_new, setCs_new, set_new, putAt, -List.getD_eq_getElem?_getD, rd_ne, rd_eq, List.length_set, List.getD_cons_zero, List.getD_cons_succ]

end Go.Proofs.YtnifjgdhgnmhmaaGreatDoor
namespace Go.Proofs.YtnifjgdhgnmhmaaGreatDoor
open Go Go.X
set_option linter.unusedSimpArgs false
set_option linter.unusedVariables false

theorem last47 {call : CallF} {k i : Nat} {p q : Pr} {s : St} (hs : I47 p q i s) (c1 : call 105 [p.init.x, q.init.x] [] = some (.ret (.bool (p.init.same q.init)) [])) (c2 : call 105 [p.step.x, q.step.x] [] = some (.ret (.bool (p.step.same q.step)) [])) :
    ∃ s', exec TE call k (.seq (.region f47.r10) .ret) s = some (.ret, s') ∧ s'.D = [] ∧ s'.T.getD 4 und = .bool (p.init.same q.init && p.step.same q.step) := by
  obtain ⟨T, H, D⟩ := s
  obtain ⟨rfl, hl, ⟨G, rfl⟩, h2, h3, h5⟩ := hs
  simp only at hl h2 h3 h5
  have hd1 : ∀ H, docall TE call 105 [p.init.x, q.init.x] H = some (.ret (.bool (p.init.same q.init)) H) := fun H => docall_iso (E := TE) rfl rfl (by simp [bares]) (by simp) c1 H
  have hd2 : ∀ H, docall TE call 105 [p.step.x, q.step.x] H = some (.ret (.bool (p.step.same q.step)) H) := fun H => docall_iso (E := TE) rfl rfl (by simp [bares]) (by simp) c2 H
  cases b1 : p.init.same q.init with
  | true =>
    refine ⟨?s1, ?e1, ?i1⟩
    case e1 =>
      simp [f47.r10, Pr.enc, b1, hd1, hd2, hl, h2, h3, cellsAt_c0, cellsAt_c1, List.getElem?_set, exec, xops, xoper, want, putT, xop, ev, bin, intBin, isShift, okv, asNat_nat, takeAt, one, cellsOf, cellsAt_new, setCs_new, set_new, putAt, -List.getD_eq_getElem?_getD, rd_ne, rd_eq, List.length_set, List.getD_cons_zero, List.getD_cons_succ]
      rfl
    case i1 => simp [hl, b1, exec, xops, xoper, want, putT, xop, ev, bin, intBin, isShift, okv, asNat_nat, takeAt, one, cellsOf, cellsAt_new, setCs_new, set_new, putAt, -List.getD_eq_getElem?_getD, rd_ne, rd_eq, List.length_set, List.getD_cons_zero, List.getD_cons_succ]
  | false =>
    refine ⟨?s2, ?e2, ?i2⟩
    case e2 =>
      simp [f47.r10, Pr.enc, b1, hd1, hd2, hl, h2, h3, cellsAt_c0, cellsAt_c1, List.getElem?_set, exec, xops, xoper, want, putT, xop, ev, bin, intBin, isShift, okv, asNat_nat, takeAt, one, cellsOf, cellsAt_new, setCs_new, set_new, putAt, -List.getD_eq_getElem?_getD, rd_ne, rd_eq, List.length_set, List.getD_cons_zero, List.getD_cons_succ]
      rfl
    case i2 => simp [hl, b1, exec, xops, xoper, want, putT, xop, ev, bin, intBin, isShift, okv, asNat_nat, takeAt, one, cellsOf, cellsAt_new, setCs_new, set_new, putAt, -List.getD_eq_getElem?_getD, rd_ne, rd_eq, List.length_set, List.getD_cons_zero, List.getD_cons_succ]

end Go.Proofs.YtnifjgdhgnmhmaaGreatDoor
namespace Go.Proofs.YtnifjgdhgnmhmaaGreatDoor
open Go Go.X
set_option linter.unusedSimpArgs false
set_option linter.unusedVariables false

theorem run47 {n : Nat} (p q : Pr) (hln : p.decls.length < n) (hb : p.decls.length < 2 ^ 61) (hall : ∀ e ∈ p.decls, ∀ f : De, SameC (callN TE n) 50 e.lo f.lo ∧ SameC (callN TE n) 50 e.hi f.hi)
    (c1 : callN TE n 105 [p.init.x, q.init.x] [] = some (.ret (.bool (p.init.same q.init)) [])) (c2 : callN TE n 105 [p.step.x, q.step.x] [] = some (.ret (.bool (p.step.same q.step)) [])) :
    callN TE (n + 1) 47 [.agg p.enc, .agg q.enc] [] = some (.ret (.bool (p.same q)) []) := by
  rw [callN_eq (xf := f47) rfl]
  have hf : frame0 f47 [.agg p.enc, .agg q.enc] = [.agg p.enc, .agg q.enc, und, und, und, und, und, und, und, und, und, und, und, und, und, und, und, und, und, und, und, und, und, und, und, und, und, und, und, und, und, und, und, und, und, und, und, und, und, und, und, und, und, und, und, und, und, und, und, und, und, und, und, und, und, und, und, und, und, und, und, und, und, und, und, und, und, und, und, und, und, und, und, und, und, und, und, und, und, und, und, und, und, und, und, und, und, und, und, und, und, und, und, und, und, und, und, und, und, und] := rfl
  have hbd : f47.body = .seq (.region f47.r0) (.seq (.seq (.region f47.r1) (.cond (.t 21) (.seq (.region f47.r2) (.ret)) (.skip))) (.seq (.seq (.region f47.r3) (.block 0 (.loop body47))) (.seq (.region f47.r10) (.ret)))) := rfl
  have a0 : exec TE (callN TE n) n (.region f47.r0) ⟨[.agg p.enc, .agg q.enc, und, und, und, und, und, und, und, und, und, und, und, und, und, und, und, und, und, und, und, und, und, und, und, und, und, und, und, und, und, und, und, und, und, und, und, und, und, und, und, und, und, und, und, und, und, und, und, und, und, und, und, und, und, und, und, und, und, und, und, und, und, und, und, und, und, und, und, und, und, und, und, und, und, und, und, und, und, und, und, und, und, und, und, und, und, und, und, und, und, und, und, und, und, und, und, und, und, und], [], []⟩ = some (.norm, ⟨[.agg p.enc, .agg q.enc, .ptr 0 0, .ptr 1 0, .bool false, und, und, und, und, und, und, und, und, und, und, und, und, und, und, und, und, und, und, und, und, und, und, und, und, und, und, und, und, und, und, und, und, und, und, und, und, und, und, und, und, und, und, und, und, und, und, und, und, und, und, und, und, und, und, und, und, und, und, und, und, und, und, und, und, und, und, und, und, und, und, und, und, und, und, und, und, und, und, und, und, und, und, und, und, und, und, und, und, und, und, und, und, und, und, und], [.tcells p.enc 66 true, .tcells q.enc 66 true], []⟩) := rfl
  have fin : ∀ (s' : St) (v : Bool), exec TE (callN TE n) n f47.body ⟨[.agg p.enc, .agg q.enc, und, und, und, und, und, und, und, und, und, und, und, und, und, und, und, und, und, und, und, und, und, und, und, und, und, und, und, und, und, und, und, und, und, und, und, und, und, und, und, und, und, und, und, und, und, und, und, und, und, und, und, und, und, und, und, und, und, und, und, und, und, und, und, und, und, und, und, und, und, und, und, und, und, und, und, und, und, und, und, und, und, und, und, und, und, und, und, und, und, und, und, und, und, und, und, und, und, und], [], []⟩ = some (.ret, s') → s'.D = [] → s'.T.getD 4 und = .bool v → runF TE (callN TE n) (dcallOf TE (callN TE n) n) n 47 f47 [.agg p.enc, .agg q.enc] [] = some (.ret (.bool v) []) := by
    intro ⟨T, H, D⟩ v hx hD h4
    simp only at hD h4
    subst hD
    refine runF_iso (T := T) (K := H) (vs := [.bool v]) (vis := []) rfl (by rw [hf]; exact hx) ?_ (frz_depth rfl _)
    simp [f47, resOf, h4, -List.getD_eq_getElem?_getD]
  rcases first47 (call := callN TE n) (k := n) (p := p) (q := q) (s := ⟨[.agg p.enc, .agg q.enc, .ptr 0 0, .ptr 1 0, .bool false, und, und, und, und, und, und, und, und, und, und, und, und, und, und, und, und, und, und, und, und, und, und, und, und, und, und, und, und, und, und, und, und, und, und, und, und, und, und, und, und, und, und, und, und, und, und, und, und, und, und, und, und, und, und, und, und, und, und, und, und, und, und, und, und, und, und, und, und, und, und, und, und, und, und, und, und, und, und, und, und, und, und, und, und, und, und, und, und, und, und, und, und, und, und, und], [.tcells p.enc 66 true, .tcells q.enc 66 true], []⟩) ⟨rfl, rfl, rfl, rfl, rfl⟩ with ⟨ht, hlen, ⟨T1, H1, D1⟩, e1, rfl, hl, rfl, h2, h3⟩ | ⟨hne, s1, e1, f1⟩
  · simp only at hl h2 h3
    have e3 : exec TE (callN TE n) n (.region f47.r3) ⟨T1, [.tcells p.enc 66 true, .tcells q.enc 66 true], []⟩ = some (.norm, ⟨T1.set 5 (.int .i64 0), [.tcells p.enc 66 true, .tcells q.enc 66 true], []⟩) := rfl
    have i0 : I47 p q 0 ⟨T1.set 5 (.int .i64 0), [.tcells p.enc 66 true, .tcells q.enc 66 true], []⟩ := ⟨rfl, by simp [hl], ⟨[], rfl⟩, by simp [hl, h2, exec, xops, xoper, want, putT, xop, ev, bin, intBin, isShift, okv, asNat_nat, takeAt, one, cellsOf, cellsAt_new, setCs_new, set_new, putAt, -List.getD_eq_getElem?_getD, rd_ne, rd_eq, List.length_set, List.getD_cons_zero, List.getD_cons_succ], by simp [hl, h3, exec, xops, xoper, want, putT, xop, ev, bin, intBin, isShift, okv, asNat_nat, takeAt, one, cellsOf, cellsAt_new, setCs_new, set_new, putAt, -List.getD_eq_getElem?_getD, rd_ne, rd_eq, List.length_set, List.getD_cons_zero, List.getD_cons_succ], by simp [hl, exec, xops, xoper, want, putT, xop, ev, bin, intBin, isShift, okv, asNat_nat, takeAt, one, cellsOf, cellsAt_new, setCs_new, set_new, putAt, -List.getD_eq_getElem?_getD, rd_ne, rd_eq, List.length_set, List.getD_cons_zero, List.getD_cons_succ]⟩
    rcases loop47 (call := callN TE n) (k := n) hlen (by omega) p.decls q.decls n 0 hln (by simp) (by simp) (by simp) hlen hall _ i0 with ⟨hsm, s2, j, g1, i2⟩ | ⟨hsm, s2, g1, f2⟩
    · obtain ⟨s3, e4, d3, v3⟩ := last47 (call := callN TE n) (k := n) i2 c1 c2
      have := fin s3 (p.same q) (by rw [hbd, exec_seq_norm a0, exec_seq_norm e1, exec_seq_norm (by rw [exec_seq_norm e3]; exact exec_block_loop g1), e4]) d3 (by rw [v3]; simp [Pr.same, ht, hsm])
      exact this
    · exact fin s2 (p.same q) (by
        rw [hbd, exec_seq_norm a0, exec_seq_norm e1]
        exact exec_seq_ret (by rw [exec_seq_norm e3]; exact exec_block_ret (by simpa only [exec] using g1))) f2.1 (by rw [f2.2.2]; simp [Pr.same, hsm])
  · refine fin s1 (p.same q) (by rw [hbd, exec_seq_norm a0]; exact exec_seq_ret e1) f1.1 ?_
    rw [f1.2.2]
    by_cases ht : p.ticks = q.ticks
    · have hl : p.decls.length ≠ q.decls.length := fun h => hne ⟨ht, h⟩
      have := Des.same_ne (a := toDes p.z p.decls) (b := toDes q.z q.decls) (by rw [toDes_len, toDes_len]; exact hl)
      simp [Pr.same, this]
    · simp [Pr.same, ht]

theorem rsame_ok (p q : Pr) (n : Nat) (hn : 2 * p.sz < n) (hb : p.sz < 2 ^ 60) : callN TE n 47 [.agg p.enc, .agg q.enc] [] = some (.ret (.bool (p.same q)) []) := by
  obtain ⟨n, rfl⟩ : ∃ k, n = k + 1 := ⟨n - 1, by omega⟩
  simp only [Pr.sz] at hn hb
  have hz := desSz_len p.decls
  refine run47 p q (by omega) (by omega) (fun e he f => ?_) (rsameSs_ok _ _ n (by omega) (by omega)) (rsameSs_ok _ _ n (by omega) (by omega))
  have h := desSz_mem he
  simp only [De.sz] at h
  exact ⟨rsameE_ok _ _ n (by omega) (by omega), rsameE_ok _ _ n (by omega) (by omega)⟩

end Go.Proofs.YtnifjgdhgnmhmaaGreatDoor
namespace Go.Proofs.YtnifjgdhgnmhmaaGreatDoor
open Go Go.X

theorem dec_comm {α : Type} [DecidableEq α] (a b : α) : decide (a = b) = decide (b = a) := by
  by_cases h : a = b
  · subst h; rfl
  · have h' : ¬ b = a := fun e => h e.symm
    simp [h, h']

mutual
theorem Ex.same_comm : ∀ a b : Ex, a.same b = b.same a
  | .mk op _ b i f nm args, .mk op2 _ b2 i2 f2 nm2 args2 => by
    simp only [Ex.same]
    rw [dec_comm op, dec_comm b, dec_comm i, dec_comm f, dec_comm nm, Exs.same_comm args args2]
theorem Exs.same_comm : ∀ a b : Exs, a.same b = b.same a
  | .nil _, .nil _ => rfl
  | .nil _, .cons _ _ => rfl
  | .cons _ _, .nil _ => rfl
  | .cons a r, .cons b s => by simp only [Exs.same]; rw [Ex.same_comm a b, Exs.same_comm r s]
end
mutual
theorem Ex.same_refl : ∀ a : Ex, a.same a = true
  | .mk op _ b i f nm args => by simp [Ex.same, Exs.same_refl args]
theorem Exs.same_refl : ∀ a : Exs, a.same a = true
  | .nil _ => rfl
  | .cons a r => by simp [Exs.same, Ex.same_refl a, Exs.same_refl r]
end
mutual
theorem Sm.same_comm : ∀ a b : Sm, a.same b = b.same a
  | .mk kind _ name index e lo hi th el, .mk kind2 _ name2 index2 e2 lo2 hi2 th2 el2 => by
    simp only [Sm.same]
    rw [dec_comm kind, dec_comm name, dec_comm lo, dec_comm hi, Exs.same_comm index, Ex.same_comm e, Sms.same_comm th, Sms.same_comm el]
theorem Sms.same_comm : ∀ a b : Sms, a.same b = b.same a
  | .nil _, .nil _ => rfl
  | .nil _, .cons _ _ => rfl
  | .cons _ _, .nil _ => rfl
  | .cons a r, .cons b s => by simp only [Sms.same]; rw [Sm.same_comm a b, Sms.same_comm r s]
end
mutual
theorem Sm.same_refl : ∀ a : Sm, a.same a = true
  | .mk kind _ name index e lo hi th el => by simp [Sm.same, Exs.same_refl index, Ex.same_refl e, Sms.same_refl th, Sms.same_refl el]
theorem Sms.same_refl : ∀ a : Sms, a.same a = true
  | .nil _ => rfl
  | .cons a r => by simp [Sms.same, Sm.same_refl a, Sms.same_refl r]
end
theorem De.same_comm (a b : De) : a.same b = b.same a := by
  simp only [De.same]
  rw [dec_comm a.input, dec_comm a.name, dec_comm a.ty, dec_comm a.len, dec_comm a.range, Ex.same_comm a.lo, Ex.same_comm a.hi]
theorem De.same_refl (a : De) : a.same a = true := by simp [De.same, Ex.same_refl]
theorem Des.same_comm : ∀ a b : Des, a.same b = b.same a
  | .nil _, .nil _ => rfl
  | .nil _, .cons _ _ => rfl
  | .cons _ _, .nil _ => rfl
  | .cons a r, .cons b s => by simp only [Des.same]; rw [De.same_comm a b, Des.same_comm r s]
theorem Des.same_refl : ∀ a : Des, a.same a = true
  | .nil _ => rfl
  | .cons a r => by simp [Des.same, De.same_refl a, Des.same_refl r]
theorem Pr.same_comm (p q : Pr) : p.same q = q.same p := by
  simp only [Pr.same]
  rw [dec_comm p.ticks, Des.same_comm, Sms.same_comm p.init, Sms.same_comm p.step]
theorem Pr.same_refl (p : Pr) : p.same p = true := by simp [Pr.same, Des.same_refl, Sms.same_refl]

end Go.Proofs.YtnifjgdhgnmhmaaGreatDoor
namespace Go.Proofs.YtnifjgdhgnmhmaaGreatDoor
open Go Go.X
set_option linter.unusedSimpArgs false
set_option linter.unusedVariables false

mutual
def Sm.stm : Sm → Nat
  | .mk _ _ _ _ _ _ _ th el => 1 + th.stm + el.stm
def Sms.stm : Sms → Nat
  | .nil _ => 0
  | .cons e r => e.stm + r.stm
end
mutual
def Sm.exn : Sm → Nat
  | .mk kind _ _ index e _ _ th el => th.exn + el.exn + index.tot + (if kind = 1 ∨ kind = 2 then 1 + e.args.tot else 0)
def Sms.exn : Sms → Nat
  | .nil _ => 0
  | .cons e r => e.exn + r.exn
end
mutual
theorem Sm.stm_le : ∀ e : Sm, e.stm ≤ e.sz
  | .mk _ _ _ _ _ _ _ th el => by have := Sms.stm_le th; have := Sms.stm_le el; simp [Sm.stm, Sm.sz]; omega
theorem Sms.stm_le : ∀ l : Sms, l.stm ≤ l.sz
  | .nil _ => by simp [Sms.stm]
  | .cons e r => by have := Sm.stm_le e; have := Sms.stm_le r; simp [Sms.stm, Sms.sz]; omega
end
theorem Ex.args_le (e : Ex) : e.args.tot + 1 ≤ e.sz := by
  obtain ⟨op, at_, b, i, f, nm, args⟩ := e
  have := Exs.tot_le args
  simp [Ex.args, Ex.sz]; omega
mutual
theorem Sm.exn_le : ∀ e : Sm, e.exn ≤ e.sz
  | .mk kind _ _ index e _ _ th el => by
    have := Sms.exn_le th; have := Sms.exn_le el; have := Exs.tot_le index; have := Ex.args_le e
    simp only [Sm.exn, Sm.sz]
    split <;> omega
theorem Sms.exn_le : ∀ l : Sms, l.exn ≤ l.sz
  | .nil _ => by simp [Sms.exn]
  | .cons e r => by have := Sm.exn_le e; have := Sms.exn_le r; simp [Sms.exn, Sms.sz]; omega
end

end Go.Proofs.YtnifjgdhgnmhmaaGreatDoor
namespace Go.Proofs.YtnifjgdhgnmhmaaGreatDoor
open Go Go.X
set_option linter.unusedSimpArgs false
set_option linter.unusedVariables false

def CntC (call : CallF) (f : Nat) (l : Sms) : Prop := call f [l.x] [] = some (.ret (.tup [.int .i64 (l.stm : Int), .int .i64 (l.exn : Int)]) [])
def XpC (call : CallF) (f : Nat) (l : Exs) : Prop := call f [l.x] [] = some (.ret (.int .i64 (l.tot : Int)) [])

def CS (call : CallF) : Sm → Prop
  | .mk _ _ _ index e _ _ th el => CntC call 104 th ∧ CntC call 104 el ∧ XpC call 156 index ∧ XpC call 156 e.args

def I104 (l : Sms) (i a b : Nat) (s : St) : Prop :=
  s.D = [] ∧ s.T.length = 79 ∧ s.T.getD 0 und = l.x ∧ s.T.getD 4 und = .int .i64 (a : Int) ∧ s.T.getD 5 und = .int .i64 (b : Int) ∧ s.T.getD 6 und = .int .i64 (i : Int)

theorem p1_104 {call : CallF} {k i a b : Nat} {l : Sms} {s : St} (hs : I104 l i a b s) (h : i < l.len) (e : Sm) (rest : List XV) (he : l.cells.drop (i * 15) = e.enc ++ rest) (hc : CS call e) (hab : a + e.stm < 2 ^ 62) (hbb : b + e.exn < 2 ^ 62) :
    ∃ s', exec TE call k (.seq (.region f104.r5) (.seq (.region f104.r6) (.seq (.region f104.r7) (.region f104.r8)))) s = some (.norm, s') ∧
      (match e with | .mk kind _ _ index ex _ _ th el => I104 l i (a + e.stm) (b + (th.exn + el.exn + index.tot)) s') := by
  obtain ⟨T, H, D⟩ := s
  obtain ⟨rfl, hl, h0, h4, h5, h6⟩ := hs
  simp only at hl h0 h4 h5 h6
  have hx := Sms.x_vs h
  rw [hx] at h0
  have hcl := Sms.cells_length l
  have hle : i * 15 ≤ l.cells.length := by omega
  obtain ⟨kind, at_, name, index, ⟨op, eat, bb, ii, ff, en, args⟩, lo, hi, th, el⟩ := e
  obtain ⟨c1, c2, c3, c4⟩ := hc
  simp only [CntC, XpC, Sms.x] at c1 c2 c3 c4
  simp only [Sm.enc, Ex.enc, List.cons_append, List.nil_append] at he
  simp only [Sm.stm, Sm.exn] at hab hbb
  have hd1 : ∀ H, docall TE call 104 [th.ptr th.cells] H = some (.ret (.tup [.int .i64 (th.stm : Int), .int .i64 (th.exn : Int)]) H) := fun H => docall_iso (E := TE) rfl rfl (by simp [bares]) (by simp) c1 H
  have hd2 : ∀ H, docall TE call 104 [el.ptr el.cells] H = some (.ret (.tup [.int .i64 (el.stm : Int), .int .i64 (el.exn : Int)]) H) := fun H => docall_iso (E := TE) rfl rfl (by simp [bares]) (by simp) c2 H
  have hd3 : ∀ H, docall TE call 156 [index.x] H = some (.ret (.int .i64 (index.tot : Int)) H) := fun H => docall_iso (E := TE) rfl rfl (by simp [bares]) (by simp) c3 H
  have w1 : IntKind.i64.wrap ((a : Int) + 1) = (a : Int) + 1 := wrap_small (by omega) (by omega)
  have w2 : IntKind.i64.wrap ((a : Int) + 1 + (th.stm : Int)) = (a : Int) + 1 + (th.stm : Int) := wrap_small (by omega) (by omega)
  have w3 : IntKind.i64.wrap ((a : Int) + 1 + (th.stm : Int) + (el.stm : Int)) = (a : Int) + 1 + (th.stm : Int) + (el.stm : Int) := wrap_small (by omega) (by omega)
  have w4 : IntKind.i64.wrap ((b : Int) + (th.exn : Int)) = (b : Int) + (th.exn : Int) := wrap_small (by omega) (by omega)
  have w5 : IntKind.i64.wrap ((b : Int) + (th.exn : Int) + (el.exn : Int)) = (b : Int) + (th.exn : Int) + (el.exn : Int) := wrap_small (by omega) (by omega)
  have w6 : IntKind.i64.wrap ((b : Int) + (th.exn : Int) + (el.exn : Int) + (index.tot : Int)) = (b : Int) + (th.exn : Int) + (el.exn : Int) + (index.tot : Int) := wrap_small (by omega) (by omega)
  refine ⟨?s1, ?e1, ?i1⟩
  case e1 =>
    simp [f104.r5, f104.r6, f104.r7, f104.r8, h, hle, he, hd1, hd2, hd3, w1, w2, w3, w4, w5, w6, hl, h0, h4, h5, h6, exec, xops, xoper, want, putT, xop, ev, bin, intBin, isShift, okv, asNat_nat, takeAt, one, cellsOf, cellsAt_new, setCs_new, set_new, putAt, -List.getD_eq_getElem?_getD, rd_ne, rd_eq, List.length_set, List.getD_cons_zero, List.getD_cons_succ]
    rfl
  case i1 =>
    simp [I104, hx, hl, h0, h4, h5, h6, Sm.stm, exec, xops, xoper, want, putT, xop, ev, bin, intBin, isShift, okv, asNat_nat, takeAt, one, cellsOf, cellsAt_new, setCs_new, set_new, putAt, -List.getD_eq_getElem?_getD, rd_ne, rd_eq, List.length_set, List.getD_cons_zero, List.getD_cons_succ]
    omega

end Go.Proofs.YtnifjgdhgnmhmaaGreatDoor
namespace Go.Proofs.YtnifjgdhgnmhmaaGreatDoor
open Go Go.X
set_option linter.unusedSimpArgs false
set_option linter.unusedVariables false

def kindEx : Sm → Nat
  | .mk kind _ _ _ e _ _ _ _ => if kind = 1 ∨ kind = 2 then 1 + e.args.tot else 0

theorem p2_104 {call : CallF} {k i a b : Nat} {l : Sms} {s : St} (hs : I104 l i a b s) (h : i < l.len) (e : Sm) (rest : List XV) (he : l.cells.drop (i * 15) = e.enc ++ rest) (hc : CS call e) (hbb : b + kindEx e < 2 ^ 62) :
    ∃ s', exec TE call k (.seq (.region f104.r9) (.cond (.t 66) (.region f104.r10) (.skip))) s = some (.norm, s') ∧ I104 l i a (b + kindEx e) s' := by
  obtain ⟨T, H, D⟩ := s
  obtain ⟨rfl, hl, h0, h4, h5, h6⟩ := hs
  simp only at hl h0 h4 h5 h6
  have hx := Sms.x_vs h
  rw [hx] at h0
  have hcl := Sms.cells_length l
  have hle : i * 15 ≤ l.cells.length := by omega
  obtain ⟨kind, at_, name, index, ⟨op, eat, bb, ii, ff, en, args⟩, lo, hi, th, el⟩ := e
  obtain ⟨c1, c2, c3, c4⟩ := hc
  simp only [XpC, Ex.args, Exs.x] at c4
  simp only [Sm.enc, Ex.enc, List.cons_append, List.nil_append] at he
  simp only [kindEx, Ex.args] at hbb ⊢
  have hd4 : ∀ H, docall TE call 156 [args.ptr args.cells] H = some (.ret (.int .i64 (args.tot : Int)) H) := fun H => docall_iso (E := TE) rfl rfl (by simp [bares]) (by simp) c4 H
  by_cases k1 : kind = 1
  · simp only [k1, true_or, if_true] at hbb ⊢
    have w1 : IntKind.i64.wrap ((b : Int) + 1) = (b : Int) + 1 := wrap_small (by omega) (by omega)
    have w2 : IntKind.i64.wrap ((b : Int) + 1 + (args.tot : Int)) = (b : Int) + 1 + (args.tot : Int) := wrap_small (by omega) (by omega)
    refine ⟨?s1, ?e1, ?i1⟩
    case e1 =>
      simp [f104.r9, f104.r10, h, hle, he, k1, hd4, w1, w2, hl, h0, h4, h5, h6, List.getElem?_set, exec, xops, xoper, want, putT, xop, ev, bin, intBin, isShift, okv, asNat_nat, takeAt, one, cellsOf, cellsAt_new, setCs_new, set_new, putAt, -List.getD_eq_getElem?_getD, rd_ne, rd_eq, List.length_set, List.getD_cons_zero, List.getD_cons_succ]
      rfl
    case i1 =>
      simp [I104, hx, hl, h0, h4, h5, h6, exec, xops, xoper, want, putT, xop, ev, bin, intBin, isShift, okv, asNat_nat, takeAt, one, cellsOf, cellsAt_new, setCs_new, set_new, putAt, -List.getD_eq_getElem?_getD, rd_ne, rd_eq, List.length_set, List.getD_cons_zero, List.getD_cons_succ]
      omega
  · by_cases k2 : kind = 2
    · simp only [k2, or_true, if_true] at hbb ⊢
      have w1 : IntKind.i64.wrap ((b : Int) + 1) = (b : Int) + 1 := wrap_small (by omega) (by omega)
      have w2 : IntKind.i64.wrap ((b : Int) + 1 + (args.tot : Int)) = (b : Int) + 1 + (args.tot : Int) := wrap_small (by omega) (by omega)
      refine ⟨?s2, ?e2, ?i2⟩
      case e2 =>
        simp [f104.r9, f104.r10, h, hle, he, k2, hd4, w1, w2, hl, h0, h4, h5, h6, List.getElem?_set, exec, xops, xoper, want, putT, xop, ev, bin, intBin, isShift, okv, asNat_nat, takeAt, one, cellsOf, cellsAt_new, setCs_new, set_new, putAt, -List.getD_eq_getElem?_getD, rd_ne, rd_eq, List.length_set, List.getD_cons_zero, List.getD_cons_succ]
        rfl
      case i2 =>
        simp [I104, hx, hl, h0, h4, h5, h6, exec, xops, xoper, want, putT, xop, ev, bin, intBin, isShift, okv, asNat_nat, takeAt, one, cellsOf, cellsAt_new, setCs_new, set_new, putAt, -List.getD_eq_getElem?_getD, rd_ne, rd_eq, List.length_set, List.getD_cons_zero, List.getD_cons_succ]
        omega
    · have hk1 : (kind == 1) = false := beq_false_of_ne k1
      have hk2 : (kind == 2) = false := beq_false_of_ne k2
      simp only [k1, k2, or_self, if_false]
      refine ⟨?s3, ?e3, ?i3⟩
      case e3 =>
        simp [f104.r9, f104.r10, h, hle, he, k1, k2, hk1, hk2, hl, h0, h4, h5, h6, List.getElem?_set, exec, xops, xoper, want, putT, xop, ev, bin, intBin, isShift, okv, asNat_nat, takeAt, one, cellsOf, cellsAt_new, setCs_new, set_new, putAt, -List.getD_eq_getElem?_getD, rd_ne, rd_eq, List.length_set, List.getD_cons_zero, List.getD_cons_succ]
        rfl
      case i3 =>
        simp [I104, hx, hl, h0, h4, h5, h6, exec, xops, xoper, want, putT, xop, ev, bin, intBin, isShift, okv, asNat_nat, takeAt, one, cellsOf, cellsAt_new, setCs_new, set_new, putAt, -List.getD_eq_getElem?_getD, rd_ne, rd_eq, List.length_set, List.getD_cons_zero, List.getD_cons_succ]

def body104 : XC := (.seq (.seq (.region f104.r4) (.cond (.t 14) (.skip) (.exit 0))) (.seq (.block 1 (.seq (.region f104.r5) (.seq (.region f104.r6) (.seq (.region f104.r7) (.seq (.region f104.r8) (.seq (.region f104.r9) (.cond (.t 66) (.region f104.r10) (.skip)))))))) (.region f104.r11)))

theorem exit104 {call : CallF} {k i a b : Nat} {l : Sms} {s : St} (hs : I104 l i a b s) (h : ¬ i < l.len) : ∃ s', exec TE call k body104 s = some (.exit 0, s') ∧ I104 l i a b s' := by
  obtain ⟨T, H, D⟩ := s
  obtain ⟨rfl, hl, h0, h4, h5, h6⟩ := hs
  simp only at hl h0 h4 h5 h6
  have hlen := Sms.lenOf_x l
  refine ⟨?s4, ?e4, ?i4⟩
  case e4 =>
    simp [body104, f104.r4, h, hlen, hl, h0, h4, h5, h6, exec, xops, xoper, want, putT, xop, ev, bin, intBin, isShift, okv, asNat_nat, takeAt, one, cellsOf, cellsAt_new, setCs_new, set_new, putAt, -List.getD_eq_getElem?_getD, rd_ne, rd_eq, List.length_set, List.getD_cons_zero, List.getD_cons_succ]
    rfl
  case i4 => simp [I104, hl, h0, h4, h5, h6, exec, xops, xoper, want, putT, xop, ev, bin, intBin, isShift, okv, asNat_nat, takeAt, one, cellsOf, cellsAt_new, setCs_new, set_new, putAt, -List.getD_eq_getElem?_getD, rd_ne, rd_eq, List.length_set, List.getD_cons_zero, List.getD_cons_succ]

theorem exec_assoc4 {E : Env} {call : CallF} {k : Nat} {x1 x2 x3 x4 z : XC} {s s' : St} (h : exec E call k (.seq x1 (.seq x2 (.seq x3 x4))) s = some (.norm, s')) :
    exec E call k (.seq x1 (.seq x2 (.seq x3 (.seq x4 z)))) s = exec E call k z s' := by
  simp only [exec] at h ⊢
  cases h1 : exec E call k x1 s with
  | none => simp [h1] at h
  | some r =>
    obtain ⟨q, s1⟩ := r
    cases q <;> simp [h1] at h ⊢
    cases h2 : exec E call k x2 s1 with
    | none => simp [h2] at h
    | some r =>
      obtain ⟨q, s2⟩ := r
      cases q <;> simp [h2] at h ⊢
      cases h3 : exec E call k x3 s2 with
      | none => simp [h3] at h
      | some r =>
        obtain ⟨q, s3⟩ := r
        cases q <;> simp [h3] at h ⊢
        rw [h]

theorem step104 {call : CallF} {k i a b : Nat} {l : Sms} {s : St} (hs : I104 l i a b s) (h : i < l.len) (e : Sm) (rest : List XV) (he : l.cells.drop (i * 15) = e.enc ++ rest) (hc : CS call e) (hab : a + e.stm < 2 ^ 62) (hbb : b + e.exn < 2 ^ 62) (hi : i + 1 < 2 ^ 63) :
    ∃ s', exec TE call k body104 s = some (.norm, s') ∧ I104 l (i + 1) (a + e.stm) (b + e.exn) s' := by
  obtain ⟨T, H, D⟩ := s
  obtain ⟨rfl, hl, h0, h4, h5, h6⟩ := hs
  simp only at hl h0 h4 h5 h6
  have hlen := Sms.lenOf_x l
  have hw2 : IntKind.i64.wrap ((i : Int) + 1) = (i : Int) + 1 := wrap_small (by omega) (by omega)
  have head : ∃ s', exec TE call k (.seq (.region f104.r4) (.cond (.t 14) (.skip) (.exit 0))) ⟨T, H, []⟩ = some (.norm, s') ∧ I104 l i a b s' := by
    refine ⟨?s5, ?e5, ?i5⟩
    case e5 =>
      simp [f104.r4, h, hlen, hl, h0, h4, h5, h6, exec, xops, xoper, want, putT, xop, ev, bin, intBin, isShift, okv, asNat_nat, takeAt, one, cellsOf, cellsAt_new, setCs_new, set_new, putAt, -List.getD_eq_getElem?_getD, rd_ne, rd_eq, List.length_set, List.getD_cons_zero, List.getD_cons_succ]
      rfl
    case i5 => simp [I104, hl, h0, h4, h5, h6, exec, xops, xoper, want, putT, xop, ev, bin, intBin, isShift, okv, asNat_nat, takeAt, one, cellsOf, cellsAt_new, setCs_new, set_new, putAt, -List.getD_eq_getElem?_getD, rd_ne, rd_eq, List.length_set, List.getD_cons_zero, List.getD_cons_succ]
  obtain ⟨s1, e1, i1⟩ := head
  obtain ⟨s2, e2, i2⟩ := p1_104 (call := call) (k := k) i1 h e rest he hc hab hbb
  have hsplit : ∀ x, (match e with | .mk kind _ _ index ex _ _ th el => I104 l i (a + e.stm) (b + (th.exn + el.exn + index.tot)) x) → ∃ c, I104 l i (a + e.stm) (b + c) x ∧ c + kindEx e = e.exn := by
    intro x hx
    obtain ⟨kind, at_, name, index, ex, lo, hi, th, el⟩ := e
    exact ⟨_, hx, rfl⟩
  obtain ⟨c, i2', hcx⟩ := hsplit _ i2
  obtain ⟨s3, e3, i3⟩ := p2_104 (call := call) (k := k) i2' h e rest he hc (by omega)
  rw [show b + c + kindEx e = b + e.exn by omega] at i3
  obtain ⟨T4, H4, D4⟩ := s3
  obtain ⟨rfl, gl, g0, g4, g5, g6⟩ := i3
  simp only at gl g0 g4 g5 g6
  refine ⟨⟨((T4.set 15 (.int .i64 (i : Int))).set 16 (.int .i64 ((i : Int) + 1))).set 6 (.int .i64 ((i : Int) + 1)), H4, []⟩, ?_, ?_⟩
  · unfold body104
    rw [exec_seq_norm e1, exec_seq_norm (exec_block_norm (by rw [exec_assoc4 e2, e3]))]
    simp [f104.r11, hw2, gl, g6, exec, xops, xoper, want, putT, xop, ev, bin, intBin, isShift, okv, asNat_nat, takeAt, one, cellsOf, cellsAt_new, setCs_new, set_new, putAt, -List.getD_eq_getElem?_getD, rd_ne, rd_eq, List.length_set, List.getD_cons_zero, List.getD_cons_succ]
  · simp [I104, gl, g0, g4, g5, g6, exec, xops, xoper, want, putT, xop, ev, bin, intBin, isShift, okv, asNat_nat, takeAt, one, cellsOf, cellsAt_new, setCs_new, set_new, putAt, -List.getD_eq_getElem?_getD, rd_ne, rd_eq, List.length_set, List.getD_cons_zero, List.getD_cons_succ]

theorem loop104 {call : CallF} {k : Nat} {l : Sms} (hlb : l.len + 1 < 2 ^ 63) : ∀ (r : Sms) (n i a b : Nat), r.len < n → l.cells.drop (i * 15) = r.cells → i + r.len = l.len → r.All (CS call) → a + r.stm < 2 ^ 62 → b + r.exn < 2 ^ 62 → ∀ s, I104 l i a b s →
    ∃ s', loopN (exec TE call k body104) n s = some (.exit 0, s') ∧ I104 l l.len (a + r.stm) (b + r.exn) s'
  | _, 0, _, _, _, hn, _, _, _, _, _ => by omega
  | .nil z, n + 1, i, a, b, hn, hcs, hlen, hall, hab, hbb => by
    intro s hs
    simp only [Sms.len, Nat.add_zero] at hlen
    subst hlen
    obtain ⟨s', h1, h2⟩ := exit104 (call := call) (k := k) hs (by omega)
    exact ⟨s', by simp [loopN, h1], by simpa [Sms.stm, Sms.exn] using h2⟩
  | .cons e r, n + 1, i, a, b, hn, hcs, hlen, hall, hab, hbb => by
    intro s hs
    simp only [Sms.len] at hlen hn
    simp only [Sms.cells] at hcs
    simp only [Sms.stm, Sms.exn] at hab hbb ⊢
    obtain ⟨s', h1, h2⟩ := step104 (call := call) (k := k) hs (by omega) e r.cells hcs hall.1 (by omega) (by omega) (by omega)
    have hd : l.cells.drop ((i + 1) * 15) = r.cells := by
      rw [Nat.add_mul, Nat.one_mul, ← List.drop_drop, hcs, List.drop_left' (Sm.enc_length e)]
    obtain ⟨s'', h3, h5⟩ := loop104 (call := call) (k := k) hlb r n (i + 1) (a + e.stm) (b + e.exn) (by omega) hd (by omega) hall.2 (by omega) (by omega) s' h2
    exact ⟨s'', by simp [loopN, h1, h3], by rwa [Nat.add_assoc, Nat.add_assoc] at h5⟩

theorem run104 {n : Nat} (l : Sms) (hln : l.len < n) (hb : l.sz < 2 ^ 61) (hall : l.All (CS (callN TE n))) : CntC (callN TE (n + 1)) 104 l := by
  unfold CntC
  rw [callN_eq (xf := f104) rfl]
  have hlt := Sms.len_le l
  have h1' := Sms.stm_le l
  have h2' := Sms.exn_le l
  have hf : frame0 f104 [l.x] = [l.x, und, und, und, und, und, und, und, und, und, und, und, und, und, und, und, und, und, und, und, und, und, und, und, und, und, und, und, und, und, und, und, und, und, und, und, und, und, und, und, und, und, und, und, und, und, und, und, und, und, und, und, und, und, und, und, und, und, und, und, und, und, und, und, und, und, und, und, und, und, und, und, und, und, und, und, und, und, und] := rfl
  have hbd : f104.body = .seq (.region f104.r0) (.seq (.region f104.r1) (.seq (.region f104.r2) (.seq (.seq (.region f104.r3) (.block 0 (.loop body104))) (.seq (.region f104.r12) (.ret))))) := rfl
  obtain ⟨⟨T2, H2, D2⟩, h1, rfl, hl, h0, h4, h5, h6⟩ := loop104 (call := callN TE n) (k := n) (l := l) (by omega) l n 0 0 0 hln (by simp) (by simp) hall (by omega) (by omega) ⟨[l.x, und, .int .i64 0, .int .i64 0, .int .i64 0, .int .i64 0, .int .i64 0, und, und, und, und, und, und, und, und, und, und, und, und, und, und, und, und, und, und, und, und, und, und, und, und, und, und, und, und, und, und, und, und, und, und, und, und, und, und, und, und, und, und, und, und, und, und, und, und, und, und, und, und, und, und, und, und, und, und, und, und, und, und, und, und, und, und, und, und, und, und, und, und], [], []⟩ ⟨rfl, rfl, rfl, rfl, rfl, rfl⟩
  simp only [Nat.zero_add] at hl h4 h5
  refine runF_iso (T := (((T2.set 77 (.int .i64 (l.stm : Int))).set 78 (.int .i64 (l.exn : Int))).set 2 (.int .i64 (l.stm : Int))).set 3 (.int .i64 (l.exn : Int))) (K := H2) (vs := [.int .i64 (l.stm : Int), .int .i64 (l.exn : Int)]) (vis := []) rfl ?_ ?_ (frz_depth (x := .tup _) rfl _)
  · rw [hf, hbd]
    simp [f104.r0, f104.r1, f104.r2, f104.r3, f104.r12, h1, hl, h4, h5, exec, xops, xoper, want, putT, xop, ev, bin, intBin, isShift, okv, asNat_nat, takeAt, one, cellsOf, cellsAt_new, setCs_new, set_new, putAt, -List.getD_eq_getElem?_getD, rd_ne, rd_eq, List.length_set, List.getD_cons_zero, List.getD_cons_succ]
  · simp [f104, resOf, hl, exec, xops, xoper, want, putT, xop, ev, bin, intBin, isShift, okv, asNat_nat, takeAt, one, cellsOf, cellsAt_new, setCs_new, set_new, putAt, -List.getD_eq_getElem?_getD, rd_ne, rd_eq, List.length_set, List.getD_cons_zero, List.getD_cons_succ]

mutual
theorem cntS_ok : ∀ (e : Sm) (n : Nat), e.sz < n → e.sz < 2 ^ 60 → CS (callN TE n) e
  | .mk kind at_ name index e lo hi th el, n, hn, hb => by
    simp only [Sm.sz] at hn hb
    exact ⟨cntSs_ok th n (by omega) (by omega), cntSs_ok el n (by omega) (by omega), rexprs_ok index n (by omega) (by omega), rexprs_okE e n (by omega) (by omega)⟩
theorem cntS_all : ∀ (l : Sms) (n : Nat), l.sz ≤ n → l.sz < 2 ^ 60 → l.All (CS (callN TE n))
  | .nil _, _, _, _ => trivial
  | .cons e r, n, hn, hb => by
    simp only [Sms.sz] at hn hb
    exact ⟨cntS_ok e n (by omega) (by omega), cntS_all r n (by omega) (by omega)⟩
theorem cntSs_ok : ∀ (l : Sms) (n : Nat), l.sz < n → l.sz < 2 ^ 60 → CntC (callN TE n) 104 l
  | l, 0, hn, _ => by omega
  | l, n + 1, hn, hb => by
    have := Sms.len_le l
    exact run104 l (by omega) (by omega) (cntS_all l n (by omega) hb)
end

end Go.Proofs.YtnifjgdhgnmhmaaGreatDoor
namespace Go.Proofs.YtnifjgdhgnmhmaaGreatDoor
open Go Go.X
set_option linter.unusedSimpArgs false
set_option linter.unusedVariables false

def Pr.stm (p : Pr) : Nat := p.init.stm + p.step.stm
def Pr.exn (p : Pr) : Nat := p.init.exn + p.step.exn

def CntPC (call : CallF) (f : Nat) (p : Pr) : Prop := call f [.agg p.enc] [] = some (.ret (.tup [.int .i64 (p.stm : Int), .int .i64 (p.exn : Int)]) [])

theorem run46 {n : Nat} (p : Pr) (hb : p.sz < 2 ^ 60) (c1 : CntC (callN TE n) 104 p.init) (c2 : CntC (callN TE n) 104 p.step) : CntPC (callN TE (n + 1)) 46 p := by
  unfold CntPC
  rw [callN_eq (xf := f46) rfl]
  simp only [Pr.sz] at hb
  have h1 := Sms.stm_le p.init
  have h2 := Sms.exn_le p.init
  have h3 := Sms.stm_le p.step
  have h4 := Sms.exn_le p.step
  simp only [CntC] at c1 c2
  have hd1 : ∀ H, docall TE (callN TE n) 104 [p.init.x] H = some (.ret (.tup [.int .i64 (p.init.stm : Int), .int .i64 (p.init.exn : Int)]) H) := fun H => docall_iso (E := TE) rfl rfl (by simp [bares]) (by simp) c1 H
  have hd2 : ∀ H, docall TE (callN TE n) 104 [p.step.x] H = some (.ret (.tup [.int .i64 (p.step.stm : Int), .int .i64 (p.step.exn : Int)]) H) := fun H => docall_iso (E := TE) rfl rfl (by simp [bares]) (by simp) c2 H
  have w1 : IntKind.i64.wrap ((p.init.stm : Int) + (p.step.stm : Int)) = (p.init.stm : Int) + (p.step.stm : Int) := wrap_small (by omega) (by omega)
  have w2 : IntKind.i64.wrap ((p.init.exn : Int) + (p.step.exn : Int)) = (p.init.exn : Int) + (p.step.exn : Int) := wrap_small (by omega) (by omega)
  have hf : frame0 f46 [.agg p.enc] = [.agg p.enc, und, und, und, und, und, und, und, und, und, und, und, und, und, und, und, und, und, und, und, und, und, und, und, und, und] := rfl
  have key : ∃ T, exec TE (callN TE n) n f46.body ⟨[.agg p.enc, und, und, und, und, und, und, und, und, und, und, und, und, und, und, und, und, und, und, und, und, und, und, und, und, und], [], []⟩ = some (.ret, ⟨T, [.tcells p.enc 66 true], []⟩) ∧ T.getD 2 und = .int .i64 (p.stm : Int) ∧ T.getD 3 und = .int .i64 (p.exn : Int) := by
    refine ⟨?s1, ?e1, ?i1⟩
    case e1 =>
      simp [f46, f46.r0, f46.r1, f46.r2, f46.r3, Pr.enc, hd1, hd2, w1, w2, cellsAt, exec, xops, xoper, want, putT, xop, ev, bin, intBin, isShift, okv, asNat_nat, takeAt, one, cellsOf, cellsAt_new, setCs_new, set_new, putAt, -List.getD_eq_getElem?_getD, rd_ne, rd_eq, List.length_set, List.getD_cons_zero, List.getD_cons_succ]
      rfl
    case i1 => simp [Pr.stm, Pr.exn, exec, xops, xoper, want, putT, xop, ev, bin, intBin, isShift, okv, asNat_nat, takeAt, one, cellsOf, cellsAt_new, setCs_new, set_new, putAt, -List.getD_eq_getElem?_getD, rd_ne, rd_eq, List.length_set, List.getD_cons_zero, List.getD_cons_succ]
  obtain ⟨T, g1, g2, g3⟩ := key
  refine runF_iso (T := T) (K := _) (vs := [.int .i64 (p.stm : Int), .int .i64 (p.exn : Int)]) (vis := []) rfl (by rw [hf]; exact g1) ?_ (frz_depth (x := .tup _) rfl _)
  simp [f46, resOf, g2, g3, -List.getD_eq_getElem?_getD]

theorem rcount_ok (p : Pr) (n : Nat) (hn : p.sz < n) (hb : p.sz < 2 ^ 60) : CntPC (callN TE n) 46 p := by
  obtain ⟨n, rfl⟩ : ∃ k, n = k + 1 := ⟨n - 1, by omega⟩
  have hb' := hb
  simp only [Pr.sz] at hn hb'
  exact run46 p hb (cntSs_ok _ n (by omega) (by omega)) (cntSs_ok _ n (by omega) (by omega))

end Go.Proofs.YtnifjgdhgnmhmaaGreatDoor
namespace Go.Proofs.YtnifjgdhgnmhmaaGreatDoor
open Go Go.X
set_option linter.unusedSimpArgs false
set_option linter.unusedVariables false

/-- Operations that turn no memory, and behind them all one that may. -/
theorem runD_of_LS {E : Env} {call : CallF} {pre : List XOper} {o : XOper} {cl : List Nat} {T T' : List XV} {H H' K : Heap} {D : List (Nat × List XV)} {v : XV} (h : xopsL E call pre T H = some (T', H')) (hw : want T' o.guard = true)
    (hx : xop E call o.op T' H' = some (.val v K)) (hcl : (List.range pre.length).all (fun i => (cl.getD pre.length 0).testBit i) = true) : runD E call (pre ++ [o]) cl ⟨T, H, D⟩ = some (.norm, ⟨putT T' o.dst v, K, D⟩) := by
  obtain ⟨rs, h1, h2, h3, h4⟩ := traceD_of_L h
  have happ : ∀ (l : List XOper) (T : List XV) (H : Heap) (rs : List DR), traceD E call l T H = some rs → traceD E call (l ++ [o]) T H = (traceD E call [o] (lastT T rs) (lastH H rs)).map (rs ++ ·) ∧ rs.length = l.length := by
    intro l
    induction l with
    | nil =>
      intro T H rs hr
      simp [traceD] at hr
      subst hr
      simp [lastT, lastH]
    | cons a l ih =>
      intro T H rs hr
      simp only [traceD] at hr
      split at hr
      · rename_i hwa
        split at hr
        · rename_i v1 K1 hxa
          split at hr
          · rename_i rs' hr'
            cases hr
            obtain ⟨i1, i2⟩ := ih _ _ _ hr'
            refine ⟨?_, by simp [i2]⟩
            simp only [List.cons_append, lastT, lastH]
            rw [traceD, if_pos hwa, hxa]
            simp only [i1]
            cases traceD E call [o] (lastT (putT T a.dst v1) rs') (lastH K1 rs') <;> simp
          · cases hr
        · cases hr
      · rename_i hwa
        split at hr
        · rename_i rs' hr'
          cases hr
          obtain ⟨i1, i2⟩ := ih _ _ _ hr'
          refine ⟨?_, by simp [i2]⟩
          simp only [List.cons_append, lastT, lastH]
          rw [traceD, if_neg hwa]
          simp only [i1]
          cases traceD E call [o] (lastT (putT T a.dst und) rs') (lastH H rs') <;> simp
        · cases hr
  obtain ⟨a1, a2⟩ := happ pre T H rs h1
  rw [h2, h3] at a1
  have hone : traceD E call [o] T' H' = some [⟨o, T', H', v, K, true⟩] := by simp [traceD, hw, hx]
  rw [hone] at a1
  simp only [Option.map_some] at a1
  have hlT : ∀ (rs : List DR) (T : List XV) (r : DR), lastT T (rs ++ [r]) = putT r.T r.o.dst r.v := by
    intro rs
    induction rs with
    | nil => intro T r; simp [lastT]
    | cons a rs ih => intro T r; simp only [List.cons_append, lastT, ih]
  have hlH : ∀ (rs : List DR) (H : Heap) (r : DR), lastH H (rs ++ [r]) = r.H' := by
    intro rs
    induction rs with
    | nil => intro H r; simp [lastH]
    | cons a rs ih => intro H r; simp only [List.cons_append, lastH, ih]
  have hp : pairsOk E call cl (rs ++ [⟨o, T', H', v, K, true⟩]) = true := by
    unfold pairsOk
    rw [List.all_eq_true]
    intro j hj
    rw [List.all_eq_true]
    intro i hi
    have hj' : j < rs.length + 1 := by simpa using hj
    have hi' : i < j := by simpa using hi
    by_cases hjl : j < rs.length
    · rw [List.getElem?_append_left (by omega), List.getElem?_append_left hjl]
      split
      · rename_i ri rj e1 e2
        exact pairOk_low (h4 _ (List.mem_of_getElem? e2)) (h4 _ (List.mem_of_getElem? e1))
      · rfl
    · obtain rfl : j = rs.length := by omega
      have hb : (cl.getD rs.length 0).testBit i = true := by
        have := (List.all_eq_true.1 hcl) i (by simp; omega)
        rwa [← a2] at this
      split
      · unfold pairOk; rw [hb]; rfl
      · rfl
  simp only [runD, a1, hp, if_true, hlT, hlH]

def HH (p : Pr) (S A : Nat) (J : Heap) : Heap :=
  .tcells p.enc 66 true :: .tcells [.int .i64 (S : Int)] 3 true :: .tcells [.int .i64 (A : Int)] 3 true :: .tcells [.fn (.func 102) [] [.ptr 1 0, .ptr 2 0, .ptr 3 0]] 138 true :: J

def Cnt (call : CallF) (p : Pr) (l : Sms) : Prop := ∀ (S A : Nat) (J : Heap), S + l.stm < 2 ^ 62 → A + l.exn < 2 ^ 62 →
  ∃ J', call 102 [l.x, .ptr 1 0, .ptr 2 0, .ptr 3 0] (HH p S A J) = some (.ret und (HH p (S + l.stm) (A + l.exn) (J ++ J')))

def CT (call : CallF) (p : Pr) : Sm → Prop
  | .mk _ _ _ index e _ _ th el => Cnt call p th ∧ Cnt call p el ∧ call 103 [index.x] [] = some (.ret (.int .i64 (index.tot : Int)) []) ∧ call 103 [e.args.x] [] = some (.ret (.int .i64 (e.args.tot : Int)) [])

def M102 (p : Pr) (l : Sms) (i S A : Nat) (J : Heap) (s : St) : Prop :=
  s.D = [] ∧ s.T.length = 44 ∧ s.T.getD 1 und = .ptr 1 0 ∧ s.T.getD 2 und = .ptr 2 0 ∧ s.T.getD 3 und = .ptr 3 0 ∧ s.T.getD 7 und = l.x ∧ s.T.getD 8 und = .int .i64 (l.len : Int) ∧ s.T.getD 9 und = .int .i64 (i : Int) ∧ s.H = HH p S A J

def N102 (p : Pr) (l : Sms) (i S A : Nat) (J J' : Heap) (e : Sm) (s : St) : Prop := M102 p l i S A (J ++ (.tcells e.enc 80 true :: J')) s ∧ s.T.getD 6 und = .ptr (J.length + 4) 0

theorem lay102 {call : CallF} {k i S A : Nat} {p : Pr} {l : Sms} {J : Heap} {s : St} (hs : M102 p l i S A J s) (h : i < l.len) (e : Sm) (rest : List XV) (he : l.cells.drop (i * 15) = e.enc ++ rest) (hS : S + 1 < 2 ^ 62) :
    ∃ s', exec TE call k (.seq (.region f102.r2) (.region f102.r3)) s = some (.norm, s') ∧ N102 p l i (S + 1) A J [] e s' := by
  obtain ⟨T, H, D⟩ := s
  obtain ⟨rfl, hl, h1, h2, h3, h7, h8, h9, rfl⟩ := hs
  simp only at hl h1 h2 h3 h7 h8 h9
  have hx := Sms.x_vs h
  rw [hx] at h7
  have hcl := Sms.cells_length l
  have hle : i * 15 ≤ l.cells.length := by omega
  obtain ⟨kind, at_, name, index, ⟨op, eat, bb, ii, ff, en, args⟩, lo, hi, th, el⟩ := e
  simp only [Sm.enc, Ex.enc, List.cons_append, List.nil_append] at he
  have w1 : IntKind.i64.wrap ((S : Int) + 1) = (S : Int) + 1 := wrap_small (by omega) (by omega)
  refine ⟨?s1, ?e1, ?i1⟩
  case e1 =>
    simp [f102.r2, f102.r3, HH, cellsAt, setCs, Exs.oneCell_ptr, h, hle, he, w1, hl, h1, h2, h3, h7, h8, h9, exec, xops, xoper, want, putT, xop, ev, bin, intBin, isShift, okv, asNat_nat, takeAt, one, cellsOf, cellsAt_new, setCs_new, set_new, putAt, -List.getD_eq_getElem?_getD, rd_ne, rd_eq, List.length_set, List.getD_cons_zero, List.getD_cons_succ]
    rfl
  case i1 =>
    simp [N102, M102, HH, hx, hl, h1, h2, h3, h7, h8, h9, Sm.enc, Ex.enc, exec, xops, xoper, want, putT, xop, ev, bin, intBin, isShift, okv, asNat_nat, takeAt, one, cellsOf, cellsAt_new, setCs_new, set_new, putAt, -List.getD_eq_getElem?_getD, rd_ne, rd_eq, List.length_set, List.getD_cons_zero, List.getD_cons_succ]

def kindEx' : Sm → Nat
  | .mk kind _ _ _ e _ _ _ _ => if kind = 1 ∨ kind = 2 then 1 + e.args.tot else 0
def Sm.ind : Sm → Exs
  | .mk _ _ _ index _ _ _ _ _ => index
def Sm.th : Sm → Sms
  | .mk _ _ _ _ _ _ _ th _ => th
def Sm.el : Sm → Sms
  | .mk _ _ _ _ _ _ _ _ el => el

theorem hh_at (p : Pr) (S A : Nat) (J J' : Heap) (c : List XV) : (HH p S A (J ++ (.tcells c 80 true :: J')))[J.length + 4]? = some (.tcells c 80 true) := by
  simp [HH]

theorem index102 {call : CallF} {k i S A : Nat} {p : Pr} {l : Sms} {J J' : Heap} {e : Sm} {s : St} (hs : N102 p l i S A J J' e s) (hc : CT call p e) (hA : A + e.ind.tot < 2 ^ 62) :
    ∃ s', exec TE call k (.regionD f102.r4 [0, 0, 2, 6, 15, 31]) s = some (.norm, s') ∧ N102 p l i S (A + e.ind.tot) J J' e s' := by
  obtain ⟨T, H, D⟩ := s
  obtain ⟨⟨rfl, hl, h1, h2, h3, h7, h8, h9, rfl⟩, h6⟩ := hs
  simp only at hl h1 h2 h3 h7 h8 h9 h6
  obtain ⟨kind, at_, name, index, ⟨op, eat, bb, ii, ff, en, args⟩, lo, hi, th, el⟩ := e
  obtain ⟨c1, c2, c3, c4⟩ := hc
  simp only [Sm.ind] at hA
  have hat := hh_at p S A J J' (Sm.mk kind at_ name index (.mk op eat bb ii ff en args) lo hi th el).enc
  simp only [Sm.enc, Ex.enc, Sms.x, List.cons_append, List.nil_append] at hat
  have hiso : TE.iso 103 = true := rfl
  have hd3 : ∀ H, docall TE call 103 [index.x] H = some (.ret (.int .i64 (index.tot : Int)) H) := fun H => docall_iso (E := TE) rfl rfl (by simp [bares]) (by simp) c3 H
  have hf3 : ∀ H, frzL depth H [index.x] = some ([index.x], []) := fun H => frzL_depth (by simp [bares]) (by simp) H
  have w1 : IntKind.i64.wrap ((A : Int) + (index.tot : Int)) = (A : Int) + (index.tot : Int) := wrap_small (by omega) (by omega)
  have hH2 : ∀ J, (HH p S A J)[2]? = some (.tcells [.int .i64 (A : Int)] 3 true) := fun J => rfl
  refine ⟨⟨((((T.set 15 (.int .i64 (A : Int))).set 16 (.ptr (J.length + 4) 3)).set 17 index.x).set 18 (.int .i64 (index.tot : Int))).set 19 (.int .i64 ((A : Int) + (index.tot : Int))), HH p S (A + index.tot) (J ++ (.tcells (Sm.mk kind at_ name index (.mk op eat bb ii ff en args) lo hi th el).enc 80 true :: J')), []⟩, ?_, ?_⟩
  · have hsplit : f102.r4 = [⟨some 15, .load 1 false (.t 2), none⟩, ⟨some 16, .faddr 3 (.t 6), none⟩, ⟨some 17, .load 1 false (.t 16), none⟩, ⟨some 18, .call (.c (.fn (.func 103) [] [])) [.t 17], none⟩, ⟨some 19, .bin .add (.t 15) (.t 18), none⟩] ++ [⟨none, .store 1 (.t 2) (.t 19), none⟩] := rfl
    simp only [exec]
    rw [hsplit]
    refine runD_of_LS (T' := (((((T.set 15 (.int .i64 (A : Int))).set 16 (.ptr (J.length + 4) 3)).set 17 index.x).set 18 (.int .i64 (index.tot : Int))).set 19 (.int .i64 ((A : Int) + (index.tot : Int))))) (H' := HH p S A (J ++ (.tcells (Sm.mk kind at_ name index (.mk op eat bb ii ff en args) lo hi th el).enc 80 true :: J'))) (v := und) ?_ rfl ?_ rfl
    · simp [xopsL, kindO, cellsAt, hH2, hat, hd3, hf3, w1, hl, h1, h2, h3, h6, h7, h8, h9, Sm.enc, Ex.enc, Sms.x, hiso, exec, xops, xoper, want, putT, xop, ev, bin, intBin, isShift, okv, asNat_nat, takeAt, one, cellsOf, cellsAt_new, setCs_new, set_new, putAt, -List.getD_eq_getElem?_getD, rd_ne, rd_eq, List.length_set, List.getD_cons_zero, List.getD_cons_succ]
    · simp [cellsAt, hH2, setCs, hl, h1, h2, h3, h6, h7, h8, h9, HH, exec, xops, xoper, want, putT, xop, ev, bin, intBin, isShift, okv, asNat_nat, takeAt, one, cellsOf, cellsAt_new, setCs_new, set_new, putAt, -List.getD_eq_getElem?_getD, rd_ne, rd_eq, List.length_set, List.getD_cons_zero, List.getD_cons_succ]
  · simp [N102, M102, hl, h1, h2, h3, h6, h7, h8, h9, Sm.ind, exec, xops, xoper, want, putT, xop, ev, bin, intBin, isShift, okv, asNat_nat, takeAt, one, cellsOf, cellsAt_new, setCs_new, set_new, putAt, -List.getD_eq_getElem?_getD, rd_ne, rd_eq, List.length_set, List.getD_cons_zero, List.getD_cons_succ]

end Go.Proofs.YtnifjgdhgnmhmaaGreatDoor
namespace Go.Proofs.YtnifjgdhgnmhmaaGreatDoor
open Go Go.X
set_option linter.unusedSimpArgs false
set_option linter.unusedVariables false

theorem kind102 {call : CallF} {k i S A : Nat} {p : Pr} {l : Sms} {J J' : Heap} {e : Sm} {s : St} (hs : N102 p l i S A J J' e s) (hc : CT call p e) (hA : A + kindEx' e < 2 ^ 62) :
    ∃ s', exec TE call k (.seq (.region f102.r5) (.cond (.t 27) (.regionD f102.r6 [0, 0, 2, 6, 14, 30, 63, 127]) (.skip))) s = some (.norm, s') ∧ N102 p l i S (A + kindEx' e) J J' e s' := by
  obtain ⟨T, H, D⟩ := s
  obtain ⟨⟨rfl, hl, h1, h2, h3, h7, h8, h9, rfl⟩, h6⟩ := hs
  simp only at hl h1 h2 h3 h7 h8 h9 h6
  obtain ⟨kind, at_, name, index, ⟨op, eat, bb, ii, ff, en, args⟩, lo, hi, th, el⟩ := e
  obtain ⟨c1, c2, c3, c4⟩ := hc
  simp only [Ex.args, Exs.x] at c4
  simp only [kindEx', Ex.args] at hA ⊢
  have hat := hh_at p S A J J' (Sm.mk kind at_ name index (.mk op eat bb ii ff en args) lo hi th el).enc
  simp only [Sm.enc, Ex.enc, Sms.x, List.cons_append, List.nil_append] at hat
  have hiso : TE.iso 103 = true := rfl
  have hd4 : ∀ H, docall TE call 103 [args.ptr args.cells] H = some (.ret (.int .i64 (args.tot : Int)) H) := fun H => docall_iso (E := TE) rfl rfl (by simp [bares]) (by simp) c4 H
  have hf4 : ∀ H, frzL depth H [args.ptr args.cells] = some ([args.ptr args.cells], []) := fun H => frzL_depth (by simp [bares]) (by simp) H
  have hH2 : ∀ J, (HH p S A J)[2]? = some (.tcells [.int .i64 (A : Int)] 3 true) := fun J => rfl
  have w1 : kind = 1 ∨ kind = 2 → IntKind.i64.wrap (1 + (args.tot : Int)) = 1 + (args.tot : Int) := fun h => by rw [if_pos h] at hA; exact wrap_small (by omega) (by omega)
  have w2 : kind = 1 ∨ kind = 2 → IntKind.i64.wrap ((A : Int) + (1 + (args.tot : Int))) = (A : Int) + (1 + (args.tot : Int)) := fun h => by rw [if_pos h] at hA; exact wrap_small (by omega) (by omega)
  -- the look at the kind
  have look : ∃ T1, exec TE call k (.region f102.r5) ⟨T, HH p S A (J ++ (.tcells (Sm.mk kind at_ name index (.mk op eat bb ii ff en args) lo hi th el).enc 80 true :: J')), []⟩ = some (.norm, ⟨T1, HH p S A (J ++ (.tcells (Sm.mk kind at_ name index (.mk op eat bb ii ff en args) lo hi th el).enc 80 true :: J')), []⟩) ∧
      T1.getD 27 und = .bool (decide (kind = 1 ∨ kind = 2)) ∧ N102 p l i S A J J' (Sm.mk kind at_ name index (.mk op eat bb ii ff en args) lo hi th el) ⟨T1, HH p S A (J ++ (.tcells (Sm.mk kind at_ name index (.mk op eat bb ii ff en args) lo hi th el).enc 80 true :: J')), []⟩ := by
    by_cases k1 : kind = 1
    · subst k1
      refine ⟨?s1, ?e1, ?i1⟩
      case e1 =>
        simp [f102.r5, cellsAt, hat, hl, h1, h2, h3, h6, h7, h8, h9, Sm.enc, Ex.enc, Sms.x, List.getElem?_set, exec, xops, xoper, want, putT, xop, ev, bin, intBin, isShift, okv, asNat_nat, takeAt, one, cellsOf, cellsAt_new, setCs_new, set_new, putAt, -List.getD_eq_getElem?_getD, rd_ne, rd_eq, List.length_set, List.getD_cons_zero, List.getD_cons_succ]
        rfl
      case i1 => simp [N102, M102, hl, h1, h2, h3, h6, h7, h8, h9, exec, xops, xoper, want, putT, xop, ev, bin, intBin, isShift, okv, asNat_nat, takeAt, one, cellsOf, cellsAt_new, setCs_new, set_new, putAt, -List.getD_eq_getElem?_getD, rd_ne, rd_eq, List.length_set, List.getD_cons_zero, List.getD_cons_succ]
    · have hk1 : (kind == 1) = false := beq_false_of_ne k1
      have hkd : (kind == 2) = decide (kind = 2) := rfl
      refine ⟨?s2, ?e2, ?i2⟩
      case e2 =>
        simp [f102.r5, cellsAt, hat, k1, hk1, hl, h1, h2, h3, h6, h7, h8, h9, Sm.enc, Ex.enc, Sms.x, List.getElem?_set, exec, xops, xoper, want, putT, xop, ev, bin, intBin, isShift, okv, asNat_nat, takeAt, one, cellsOf, cellsAt_new, setCs_new, set_new, putAt, -List.getD_eq_getElem?_getD, rd_ne, rd_eq, List.length_set, List.getD_cons_zero, List.getD_cons_succ]
        rfl
      case i2 => simp [N102, M102, k1, hk1, hl, h1, h2, h3, h6, h7, h8, h9, hkd, exec, xops, xoper, want, putT, xop, ev, bin, intBin, isShift, okv, asNat_nat, takeAt, one, cellsOf, cellsAt_new, setCs_new, set_new, putAt, -List.getD_eq_getElem?_getD, rd_ne, rd_eq, List.length_set, List.getD_cons_zero, List.getD_cons_succ]
  obtain ⟨T1, e1, b1, ⟨_, gl, g1, g2, g3, g7, g8, g9, _⟩, g6⟩ := look
  simp only at gl g1 g2 g3 g7 g8 g9 g6
  rw [exec_seq_norm e1]
  by_cases hk : kind = 1 ∨ kind = 2
  · simp only [if_pos hk]
    have w1 := w1 hk
    have w2 := w2 hk
    simp only [hk, decide_true] at b1
    refine ⟨⟨((((((T1.set 28 (.int .i64 (A : Int))).set 29 (.ptr (J.length + 4) 4)).set 30 (.ptr (J.length + 4) 10)).set 31 (args.ptr args.cells)).set 32 (.int .i64 (args.tot : Int))).set 33 (.int .i64 (1 + (args.tot : Int)))).set 34 (.int .i64 ((A : Int) + (1 + (args.tot : Int)))),
      HH p S (A + (1 + args.tot)) (J ++ (.tcells (Sm.mk kind at_ name index (.mk op eat bb ii ff en args) lo hi th el).enc 80 true :: J')), []⟩, ?_, ?_⟩
    · have hsplit : f102.r6 = [⟨some 28, .load 1 false (.t 2), none⟩, ⟨some 29, .faddr 4 (.t 6), none⟩, ⟨some 30, .faddr 6 (.t 29), none⟩, ⟨some 31, .load 1 false (.t 30), none⟩, ⟨some 32, .call (.c (.fn (.func 103) [] [])) [.t 31], none⟩, ⟨some 33, .bin .add (.c (.int .i64 1)) (.t 32), none⟩, ⟨some 34, .bin .add (.t 28) (.t 33), none⟩] ++ [⟨none, .store 1 (.t 2) (.t 34), none⟩] := rfl
      have hcond : ∀ s : St, s.T.getD 27 und = .bool true → exec TE call k (.cond (.t 27) (.regionD f102.r6 [0, 0, 2, 6, 14, 30, 63, 127]) .skip) s = runD TE call f102.r6 [0, 0, 2, 6, 14, 30, 63, 127] s := fun s hb => by simp only [exec, ev, hb]
      rw [hcond _ b1, hsplit]
      refine runD_of_LS (T' := ((((((T1.set 28 (.int .i64 (A : Int))).set 29 (.ptr (J.length + 4) 4)).set 30 (.ptr (J.length + 4) 10)).set 31 (args.ptr args.cells)).set 32 (.int .i64 (args.tot : Int))).set 33 (.int .i64 (1 + (args.tot : Int)))).set 34 (.int .i64 ((A : Int) + (1 + (args.tot : Int)))))
        (H' := HH p S A (J ++ (.tcells (Sm.mk kind at_ name index (.mk op eat bb ii ff en args) lo hi th el).enc 80 true :: J'))) (v := und) ?_ rfl ?_ rfl
      · simp [xopsL, kindO, cellsAt, hH2, hat, hd4, hf4, w1, w2, gl, g1, g2, g3, g6, g7, g8, g9, Sm.enc, Ex.enc, Sms.x, hiso, exec, xops, xoper, want, putT, xop, ev, bin, intBin, isShift, okv, asNat_nat, takeAt, one, cellsOf, cellsAt_new, setCs_new, set_new, putAt, -List.getD_eq_getElem?_getD, rd_ne, rd_eq, List.length_set, List.getD_cons_zero, List.getD_cons_succ]
      · simp [cellsAt, hH2, setCs, gl, g1, g2, g3, g6, g7, g8, g9, HH, exec, xops, xoper, want, putT, xop, ev, bin, intBin, isShift, okv, asNat_nat, takeAt, one, cellsOf, cellsAt_new, setCs_new, set_new, putAt, -List.getD_eq_getElem?_getD, rd_ne, rd_eq, List.length_set, List.getD_cons_zero, List.getD_cons_succ]
    · simp [N102, M102, gl, g1, g2, g3, g6, g7, g8, g9, exec, xops, xoper, want, putT, xop, ev, bin, intBin, isShift, okv, asNat_nat, takeAt, one, cellsOf, cellsAt_new, setCs_new, set_new, putAt, -List.getD_eq_getElem?_getD, rd_ne, rd_eq, List.length_set, List.getD_cons_zero, List.getD_cons_succ]
  · simp only [if_neg hk, Nat.add_zero]
    simp only [hk, decide_false] at b1
    have hcond : ∀ s : St, s.T.getD 27 und = .bool false → exec TE call k (.cond (.t 27) (.regionD f102.r6 [0, 0, 2, 6, 14, 30, 63, 127]) .skip) s = some (.norm, s) := fun s hb => by simp only [exec, ev, hb]
    exact ⟨_, hcond _ b1, ⟨rfl, gl, g1, g2, g3, g7, g8, g9, rfl⟩, g6⟩

theorem then102 {call : CallF} {k i S A : Nat} {p : Pr} {l : Sms} {J J' : Heap} {e : Sm} {s : St} (hs : N102 p l i S A J J' e s) (hc : CT call p e) (hS : S + e.th.stm < 2 ^ 62) (hA : A + e.th.exn < 2 ^ 62) :
    ∃ s' J2, exec TE call k (.region f102.r7) s = some (.norm, s') ∧ N102 p l i (S + e.th.stm) (A + e.th.exn) J J2 e s' := by
  obtain ⟨T, H, D⟩ := s
  obtain ⟨⟨rfl, hl, h1, h2, h3, h7, h8, h9, rfl⟩, h6⟩ := hs
  simp only at hl h1 h2 h3 h7 h8 h9 h6
  obtain ⟨kind, at_, name, index, ⟨op, eat, bb, ii, ff, en, args⟩, lo, hi, th, el⟩ := e
  obtain ⟨c1, c2, c3, c4⟩ := hc
  simp only [Sm.th] at hS hA ⊢
  have hat := hh_at p S A J J' (Sm.mk kind at_ name index (.mk op eat bb ii ff en args) lo hi th el).enc
  simp only [Sm.enc, Ex.enc, Sms.x, List.cons_append, List.nil_append] at hat
  have hH3 : ∀ J, (HH p S A J)[3]? = some (.tcells [.fn (.func 102) [] [.ptr 1 0, .ptr 2 0, .ptr 3 0]] 138 true) := fun J => rfl
  obtain ⟨J3, hr⟩ := c1 S A (J ++ (.tcells (Sm.mk kind at_ name index (.mk op eat bb ii ff en args) lo hi th el).enc 80 true :: J')) hS hA
  simp only [Sms.x, Sm.enc, Ex.enc, List.cons_append, List.nil_append] at hr
  have hdc : docall TE call 102 [th.ptr th.cells, .ptr 1 0, .ptr 2 0, .ptr 3 0] (HH p S A (J ++ (.tcells (Sm.mk kind at_ name index (.mk op eat bb ii ff en args) lo hi th el).enc 80 true :: J'))) = some (.ret und (HH p (S + th.stm) (A + th.exn) (J ++ (.tcells (Sm.mk kind at_ name index (.mk op eat bb ii ff en args) lo hi th el).enc 80 true :: (J' ++ J3))))) := by
    unfold docall
    rw [if_neg (by decide)]
    simpa [Sm.enc, Ex.enc, Sms.x] using hr
  simp only [Sm.enc, Ex.enc, Sms.x, List.cons_append, List.nil_append] at hdc
  refine ⟨⟨(((T.set 35 (.fn (.func 102) [] [.ptr 1 0, .ptr 2 0, .ptr 3 0])).set 36 (.ptr (J.length + 4) 13)).set 37 (th.ptr th.cells)).set 38 und, HH p (S + th.stm) (A + th.exn) (J ++ (.tcells (Sm.mk kind at_ name index (.mk op eat bb ii ff en args) lo hi th el).enc 80 true :: (J' ++ J3))), []⟩, J' ++ J3, ?_, ?_⟩
  · simp [f102.r7, cellsAt, hat, hH3, hdc, hl, h1, h2, h3, h6, h7, h8, h9, Sm.enc, Ex.enc, Sms.x, exec, xops, xoper, want, putT, xop, ev, bin, intBin, isShift, okv, asNat_nat, takeAt, one, cellsOf, cellsAt_new, setCs_new, set_new, putAt, -List.getD_eq_getElem?_getD, rd_ne, rd_eq, List.length_set, List.getD_cons_zero, List.getD_cons_succ]
  · simp [N102, M102, hl, h1, h2, h3, h6, h7, h8, h9, exec, xops, xoper, want, putT, xop, ev, bin, intBin, isShift, okv, asNat_nat, takeAt, one, cellsOf, cellsAt_new, setCs_new, set_new, putAt, -List.getD_eq_getElem?_getD, rd_ne, rd_eq, List.length_set, List.getD_cons_zero, List.getD_cons_succ]

theorem else102 {call : CallF} {k i S A : Nat} {p : Pr} {l : Sms} {J J' : Heap} {e : Sm} {s : St} (hs : N102 p l i S A J J' e s) (hc : CT call p e) (hS : S + e.el.stm < 2 ^ 62) (hA : A + e.el.exn < 2 ^ 62) :
    ∃ s' J2, exec TE call k (.region f102.r8) s = some (.norm, s') ∧ N102 p l i (S + e.el.stm) (A + e.el.exn) J J2 e s' := by
  obtain ⟨T, H, D⟩ := s
  obtain ⟨⟨rfl, hl, h1, h2, h3, h7, h8, h9, rfl⟩, h6⟩ := hs
  simp only at hl h1 h2 h3 h7 h8 h9 h6
  obtain ⟨kind, at_, name, index, ⟨op, eat, bb, ii, ff, en, args⟩, lo, hi, th, el⟩ := e
  obtain ⟨c1, c2, c3, c4⟩ := hc
  simp only [Sm.el] at hS hA ⊢
  have hat := hh_at p S A J J' (Sm.mk kind at_ name index (.mk op eat bb ii ff en args) lo hi th el).enc
  simp only [Sm.enc, Ex.enc, Sms.x, List.cons_append, List.nil_append] at hat
  have hH3 : ∀ J, (HH p S A J)[3]? = some (.tcells [.fn (.func 102) [] [.ptr 1 0, .ptr 2 0, .ptr 3 0]] 138 true) := fun J => rfl
  obtain ⟨J3, hr⟩ := c2 S A (J ++ (.tcells (Sm.mk kind at_ name index (.mk op eat bb ii ff en args) lo hi th el).enc 80 true :: J')) hS hA
  simp only [Sms.x, Sm.enc, Ex.enc, List.cons_append, List.nil_append] at hr
  have hdc : docall TE call 102 [el.ptr el.cells, .ptr 1 0, .ptr 2 0, .ptr 3 0] (HH p S A (J ++ (.tcells (Sm.mk kind at_ name index (.mk op eat bb ii ff en args) lo hi th el).enc 80 true :: J'))) = some (.ret und (HH p (S + el.stm) (A + el.exn) (J ++ (.tcells (Sm.mk kind at_ name index (.mk op eat bb ii ff en args) lo hi th el).enc 80 true :: (J' ++ J3))))) := by
    unfold docall
    rw [if_neg (by decide)]
    simpa [Sm.enc, Ex.enc, Sms.x] using hr
  simp only [Sm.enc, Ex.enc, Sms.x, List.cons_append, List.nil_append] at hdc
  refine ⟨⟨(((T.set 39 (.fn (.func 102) [] [.ptr 1 0, .ptr 2 0, .ptr 3 0])).set 40 (.ptr (J.length + 4) 14)).set 41 (el.ptr el.cells)).set 42 und, HH p (S + el.stm) (A + el.exn) (J ++ (.tcells (Sm.mk kind at_ name index (.mk op eat bb ii ff en args) lo hi th el).enc 80 true :: (J' ++ J3))), []⟩, J' ++ J3, ?_, ?_⟩
  · simp [f102.r8, cellsAt, hat, hH3, hdc, hl, h1, h2, h3, h6, h7, h8, h9, Sm.enc, Ex.enc, Sms.x, exec, xops, xoper, want, putT, xop, ev, bin, intBin, isShift, okv, asNat_nat, takeAt, one, cellsOf, cellsAt_new, setCs_new, set_new, putAt, -List.getD_eq_getElem?_getD, rd_ne, rd_eq, List.length_set, List.getD_cons_zero, List.getD_cons_succ]
  · simp [N102, M102, hl, h1, h2, h3, h6, h7, h8, h9, exec, xops, xoper, want, putT, xop, ev, bin, intBin, isShift, okv, asNat_nat, takeAt, one, cellsOf, cellsAt_new, setCs_new, set_new, putAt, -List.getD_eq_getElem?_getD, rd_ne, rd_eq, List.length_set, List.getD_cons_zero, List.getD_cons_succ]

def body102 : XC := (.seq (.region f102.r1) (.seq (.cond (.t 10) (.skip) (.exit 0)) (.seq (.block 1 (.seq (.region f102.r2) (.seq (.region f102.r3) (.seq (.regionD f102.r4 [0, 0, 2, 6, 15, 31]) (.seq (.seq (.region f102.r5) (.cond (.t 27) (.regionD f102.r6 [0, 0, 2, 6, 14, 30, 63, 127]) (.skip))) (.seq (.region f102.r7) (.region f102.r8))))))) (.region f102.r9))))

theorem exit102 {call : CallF} {k i S A : Nat} {p : Pr} {l : Sms} {J : Heap} {s : St} (hs : M102 p l i S A J s) (h : ¬ i < l.len) : ∃ s', exec TE call k body102 s = some (.exit 0, s') ∧ M102 p l i S A J s' := by
  obtain ⟨T, H, D⟩ := s
  obtain ⟨rfl, hl, h1, h2, h3, h7, h8, h9, rfl⟩ := hs
  simp only at hl h1 h2 h3 h7 h8 h9
  refine ⟨?s3, ?e3, ?i3⟩
  case e3 =>
    simp [body102, f102.r1, h, hl, h1, h2, h3, h7, h8, h9, exec, xops, xoper, want, putT, xop, ev, bin, intBin, isShift, okv, asNat_nat, takeAt, one, cellsOf, cellsAt_new, setCs_new, set_new, putAt, -List.getD_eq_getElem?_getD, rd_ne, rd_eq, List.length_set, List.getD_cons_zero, List.getD_cons_succ]
    rfl
  case i3 => simp [M102, hl, h1, h2, h3, h7, h8, h9, exec, xops, xoper, want, putT, xop, ev, bin, intBin, isShift, okv, asNat_nat, takeAt, one, cellsOf, cellsAt_new, setCs_new, set_new, putAt, -List.getD_eq_getElem?_getD, rd_ne, rd_eq, List.length_set, List.getD_cons_zero, List.getD_cons_succ]

theorem exec_assoc2 {E : Env} {call : CallF} {k : Nat} {x y z : XC} {s s' : St} (h : exec E call k (.seq x y) s = some (.norm, s')) : exec E call k (.seq x (.seq y z)) s = exec E call k z s' := by
  simp only [exec] at h ⊢
  cases hx : exec E call k x s with
  | none => simp [hx] at h
  | some r =>
    obtain ⟨q, s1⟩ := r
    cases q <;> simp [hx] at h ⊢
    rw [h]

theorem Sm.stm_eq (e : Sm) : e.stm = 1 + e.th.stm + e.el.stm := by cases e; simp [Sm.stm, Sm.th, Sm.el]; try omega
theorem Sm.exn_eq (e : Sm) : e.exn = e.ind.tot + kindEx' e + e.th.exn + e.el.exn := by cases e; simp [Sm.exn, Sm.th, Sm.el, Sm.ind, kindEx']; try omega

theorem step102 {call : CallF} {k i S A : Nat} {p : Pr} {l : Sms} {J : Heap} {s : St} (hs : M102 p l i S A J s) (h : i < l.len) (e : Sm) (rest : List XV) (he : l.cells.drop (i * 15) = e.enc ++ rest) (hc : CT call p e) (hS : S + e.stm < 2 ^ 62) (hA : A + e.exn < 2 ^ 62) (hi : i + 1 < 2 ^ 63) :
    ∃ s' J', exec TE call k body102 s = some (.norm, s') ∧ M102 p l (i + 1) (S + e.stm) (A + e.exn) (J ++ J') s' := by
  have es := Sm.stm_eq e
  have ee := Sm.exn_eq e
  have head : ∃ s', exec TE call k (.seq (.region f102.r1) (.cond (.t 10) (.skip) (.exit 0))) s = some (.norm, s') ∧ M102 p l i S A J s' := by
    obtain ⟨T, H, D⟩ := s
    obtain ⟨rfl, hl, h1, h2, h3, h7, h8, h9, rfl⟩ := hs
    simp only at hl h1 h2 h3 h7 h8 h9
    refine ⟨?s4, ?e4, ?i4⟩
    case e4 =>
      simp [f102.r1, h, hl, h1, h2, h3, h7, h8, h9, exec, xops, xoper, want, putT, xop, ev, bin, intBin, isShift, okv, asNat_nat, takeAt, one, cellsOf, cellsAt_new, setCs_new, set_new, putAt, -List.getD_eq_getElem?_getD, rd_ne, rd_eq, List.length_set, List.getD_cons_zero, List.getD_cons_succ]
      rfl
    case i4 => simp [M102, hl, h1, h2, h3, h7, h8, h9, exec, xops, xoper, want, putT, xop, ev, bin, intBin, isShift, okv, asNat_nat, takeAt, one, cellsOf, cellsAt_new, setCs_new, set_new, putAt, -List.getD_eq_getElem?_getD, rd_ne, rd_eq, List.length_set, List.getD_cons_zero, List.getD_cons_succ]
  obtain ⟨s0, e0, i0⟩ := head
  obtain ⟨s1, e1, i1⟩ := lay102 (call := call) (k := k) i0 h e rest he (by omega)
  obtain ⟨s2, e2, i2⟩ := index102 (call := call) (k := k) i1 hc (by omega)
  obtain ⟨s3, e3, i3⟩ := kind102 (call := call) (k := k) i2 hc (by omega)
  obtain ⟨s4, J4, e4, i4⟩ := then102 (call := call) (k := k) i3 hc (by omega) (by omega)
  obtain ⟨s5, J5, e5, i5⟩ := else102 (call := call) (k := k) i4 hc (by omega) (by omega)
  rw [show S + 1 + e.th.stm + e.el.stm = S + e.stm by omega, show A + e.ind.tot + kindEx' e + e.th.exn + e.el.exn = A + e.exn by omega] at i5
  obtain ⟨T, H, D⟩ := s5
  obtain ⟨⟨rfl, hl, h1, h2, h3, h7, h8, h9, rfl⟩, h6⟩ := i5
  simp only at hl h1 h2 h3 h7 h8 h9
  have hw2 : IntKind.i64.wrap ((i : Int) + 1) = (i : Int) + 1 := wrap_small (by omega) (by omega)
  refine ⟨⟨(T.set 43 (.int .i64 ((i : Int) + 1))).set 9 (.int .i64 ((i : Int) + 1)), HH p (S + e.stm) (A + e.exn) (J ++ XB.tcells e.enc 80 true :: J5), []⟩, XB.tcells e.enc 80 true :: J5, ?_, ?_⟩
  rotate_left
  · exact ⟨rfl, by simp [hl], by simp [h1, hl, exec, xops, xoper, want, putT, xop, ev, bin, intBin, isShift, okv, asNat_nat, takeAt, one, cellsOf, cellsAt_new, setCs_new, set_new, putAt, -List.getD_eq_getElem?_getD, rd_ne, rd_eq, List.length_set, List.getD_cons_zero, List.getD_cons_succ], by simp [h2, hl, exec, xops, xoper, want, putT, xop, ev, bin, intBin, isShift, okv, asNat_nat, takeAt, one, cellsOf, cellsAt_new, setCs_new, set_new, putAt, -List.getD_eq_getElem?_getD, rd_ne, rd_eq, List.length_set, List.getD_cons_zero, List.getD_cons_succ], by simp [h3, hl, exec, xops, xoper, want, putT, xop, ev, bin, intBin, isShift, okv, asNat_nat, takeAt, one, cellsOf, cellsAt_new, setCs_new, set_new, putAt, -List.getD_eq_getElem?_getD, rd_ne, rd_eq, List.length_set, List.getD_cons_zero, List.getD_cons_succ], by simp [h7, hl, exec, xops, xoper, want, putT, xop, ev, bin, intBin, isShift, okv, asNat_nat, takeAt, one, cellsOf, cellsAt_new, setCs_new, set_new, putAt, -List.getD_eq_getElem?_getD, rd_ne, rd_eq, List.length_set, List.getD_cons_zero, List.getD_cons_succ], by simp [h8, hl, exec, xops, xoper, want, putT, xop, ev, bin, intBin, isShift, okv, asNat_nat, takeAt, one, cellsOf, cellsAt_new, setCs_new, set_new, putAt, -List.getD_eq_getElem?_getD, rd_ne, rd_eq, List.length_set, List.getD_cons_zero, List.getD_cons_succ], by simp [hl, exec, xops, xoper, want, putT, xop, ev, bin, intBin, isShift, okv, asNat_nat, takeAt, one, cellsOf, cellsAt_new, setCs_new, set_new, putAt, -List.getD_eq_getElem?_getD, rd_ne, rd_eq, List.length_set, List.getD_cons_zero, List.getD_cons_succ], rfl⟩
  · unfold body102
    rw [exec_assoc2 e0, exec_seq_norm (exec_block_norm (s' := ⟨T, HH p (S + e.stm) (A + e.exn) (J ++ XB.tcells e.enc 80 true :: J5), []⟩) (by rw [exec_assoc2 e1, exec_seq_norm e2, exec_seq_norm e3, exec_seq_norm e4, e5]))]
    simp [f102.r9, hw2, hl, h9, exec, xops, xoper, want, putT, xop, ev, bin, intBin, isShift, okv, asNat_nat, takeAt, one, cellsOf, cellsAt_new, setCs_new, set_new, putAt, -List.getD_eq_getElem?_getD, rd_ne, rd_eq, List.length_set, List.getD_cons_zero, List.getD_cons_succ]

theorem loop102 {call : CallF} {k : Nat} {p : Pr} {l : Sms} (hlb : l.len + 1 < 2 ^ 63) : ∀ (r : Sms) (n i S A : Nat) (J : Heap), r.len < n → l.cells.drop (i * 15) = r.cells → i + r.len = l.len → r.All (CT call p) → S + r.stm < 2 ^ 62 → A + r.exn < 2 ^ 62 → ∀ s, M102 p l i S A J s →
    ∃ s' J', loopN (exec TE call k body102) n s = some (.exit 0, s') ∧ M102 p l l.len (S + r.stm) (A + r.exn) (J ++ J') s'
  | _, 0, _, _, _, _, hn, _, _, _, _, _ => by omega
  | .nil z, n + 1, i, S, A, J, hn, hcs, hlen, hall, hab, hbb => by
    intro s hs
    simp only [Sms.len, Nat.add_zero] at hlen
    subst hlen
    obtain ⟨s', h1, h2⟩ := exit102 (call := call) (k := k) hs (by omega)
    exact ⟨s', [], by simp [loopN, h1], by simpa [Sms.stm, Sms.exn] using h2⟩
  | .cons e r, n + 1, i, S, A, J, hn, hcs, hlen, hall, hab, hbb => by
    intro s hs
    simp only [Sms.len] at hlen hn
    simp only [Sms.cells] at hcs
    simp only [Sms.stm, Sms.exn] at hab hbb ⊢
    obtain ⟨s', J1, h1, h2⟩ := step102 (call := call) (k := k) hs (by omega) e r.cells hcs hall.1 (by omega) (by omega) (by omega)
    have hd : l.cells.drop ((i + 1) * 15) = r.cells := by
      rw [Nat.add_mul, Nat.one_mul, ← List.drop_drop, hcs, List.drop_left' (Sm.enc_length e)]
    obtain ⟨s'', J2, h3, h5⟩ := loop102 (call := call) (k := k) hlb r n (i + 1) (S + e.stm) (A + e.exn) (J ++ J1) (by omega) hd (by omega) hall.2 (by omega) (by omega) s' h2
    exact ⟨s'', J1 ++ J2, by simp [loopN, h1, h3], by rwa [Nat.add_assoc, Nat.add_assoc, List.append_assoc] at h5⟩

theorem run102 {n : Nat} (p : Pr) (l : Sms) (hln : l.len < n) (hb : l.sz < 2 ^ 61) (hall : l.All (CT (callN TE n) p)) : Cnt (callN TE (n + 1)) p l := by
  intro S A J hS hA
  rw [callN_eq (xf := f102) rfl]
  have hlt := Sms.len_le l
  have hlen := Sms.lenOf_x l
  have hf : frame0 f102 [l.x, .ptr 1 0, .ptr 2 0, .ptr 3 0] = [l.x, .ptr 1 0, .ptr 2 0, .ptr 3 0, und, und, und, und, und, und, und, und, und, und, und, und, und, und, und, und, und, und, und, und, und, und, und, und, und, und, und, und, und, und, und, und, und, und, und, und, und, und, und, und] := rfl
  have hbd : f102.body = .seq (.region f102.r0) (.block 0 (.loop body102)) := rfl
  obtain ⟨⟨T2, H2, D2⟩, J', h1, rfl, hl, _, _, _, _, _, _, rfl⟩ := loop102 (call := callN TE n) (k := n) (p := p) (l := l) (by omega) l n 0 S A J hln (by simp) (by simp) hall hS hA ⟨[l.x, .ptr 1 0, .ptr 2 0, .ptr 3 0, und, und, und, l.x, .int .i64 (l.len : Int), .int .i64 0, und, und, und, und, und, und, und, und, und, und, und, und, und, und, und, und, und, und, und, und, und, und, und, und, und, und, und, und, und, und, und, und, und, und], HH p S A J, []⟩ ⟨rfl, rfl, rfl, rfl, rfl, rfl, rfl, rfl, rfl⟩
  refine ⟨J', ?_⟩
  have hx : exec TE (callN TE n) n f102.body ⟨frame0 f102 [l.x, .ptr 1 0, .ptr 2 0, .ptr 3 0], HH p S A J, []⟩ = some (.norm, ⟨T2, HH p (S + l.stm) (A + l.exn) (J ++ J'), []⟩) := by
    rw [hf, hbd]
    simp [f102.r0, hlen, h1, exec, xops, xoper, want, putT, xop, ev, bin, intBin, isShift, okv, asNat_nat, takeAt, one, cellsOf, cellsAt_new, setCs_new, set_new, putAt, -List.getD_eq_getElem?_getD, rd_ne, rd_eq, List.length_set, List.getD_cons_zero, List.getD_cons_succ]
  unfold runF
  rw [hx]
  simp only [runDefers, Option.bind_some, finish, f102, resOf]
  rfl

mutual
theorem cntT_ok (p : Pr) : ∀ (e : Sm) (n : Nat), e.sz < n → e.sz < 2 ^ 60 → CT (callN TE n) p e
  | .mk kind at_ name index e lo hi th el, n, hn, hb => by
    simp only [Sm.sz] at hn hb
    exact ⟨cntTs_ok p th n (by omega) (by omega), cntTs_ok p el n (by omega) (by omega), exprs_ok index n (by omega) (by omega), exprs_okE e n (by omega) (by omega)⟩
theorem cntT_all (p : Pr) : ∀ (l : Sms) (n : Nat), l.sz ≤ n → l.sz < 2 ^ 60 → l.All (CT (callN TE n) p)
  | .nil _, _, _, _ => trivial
  | .cons e r, n, hn, hb => by
    simp only [Sms.sz] at hn hb
    exact ⟨cntT_ok p e n (by omega) (by omega), cntT_all p r n (by omega) (by omega)⟩
theorem cntTs_ok (p : Pr) : ∀ (l : Sms) (n : Nat), l.sz < n → l.sz < 2 ^ 60 → Cnt (callN TE n) p l
  | l, 0, hn, _ => by omega
  | l, n + 1, hn, hb => by
    have := Sms.len_le l
    exact run102 p l (by omega) (by omega) (cntT_all p l n (by omega) hb)
end

theorem run45 {n : Nat} (p : Pr) (hb : p.sz < 2 ^ 60) (c1 : Cnt (callN TE n) p p.init) (c2 : Cnt (callN TE n) p p.step) : CntPC (callN TE (n + 1)) 45 p := by
  unfold CntPC
  rw [callN_eq (xf := f45) rfl]
  simp only [Pr.sz] at hb
  have h1 := Sms.stm_le p.init
  have h2 := Sms.exn_le p.init
  have h3 := Sms.stm_le p.step
  have h4 := Sms.exn_le p.step
  obtain ⟨J1, r1⟩ := c1 0 0 [] (by omega) (by omega)
  obtain ⟨J2, r2⟩ := c2 (0 + p.init.stm) (0 + p.init.exn) ([] ++ J1) (by omega) (by omega)
  simp only [Nat.zero_add, List.nil_append] at r1 r2
  have d1 : docall TE (callN TE n) 102 [p.init.x, .ptr 1 0, .ptr 2 0, .ptr 3 0] (HH p 0 0 []) = some (.ret und (HH p p.init.stm p.init.exn J1)) := by
    unfold docall
    rw [if_neg (by decide)]
    exact r1
  have d2 : docall TE (callN TE n) 102 [p.step.x, .ptr 1 0, .ptr 2 0, .ptr 3 0] (HH p p.init.stm p.init.exn J1) = some (.ret und (HH p (p.init.stm + p.step.stm) (p.init.exn + p.step.exn) (J1 ++ J2))) := by
    unfold docall
    rw [if_neg (by decide)]
    exact r2
  have hf : frame0 f45 [.agg p.enc] = [.agg p.enc, und, und, und, und, und, und, und, und, und, und, und, und, und, und, und, und, und] := rfl
  have a0 : exec TE (callN TE n) n (.seq (.region f45.r0) (.seq (.region f45.r1) (.seq (.region f45.r2) (.region f45.r3)))) ⟨[.agg p.enc, und, und, und, und, und, und, und, und, und, und, und, und, und, und, und, und, und], [], []⟩ =
      some (.norm, ⟨[.agg p.enc, .ptr 0 0, .int .i64 0, .int .i64 0, .ptr 1 0, .ptr 2 0, .ptr 3 0, .fn (.func 102) [] [.ptr 1 0, .ptr 2 0, .ptr 3 0], und, und, und, und, und, und, und, und, und, und], HH p 0 0 [], []⟩) := rfl
  have a4 : exec TE (callN TE n) n (.region f45.r4) ⟨[.agg p.enc, .ptr 0 0, .int .i64 0, .int .i64 0, .ptr 1 0, .ptr 2 0, .ptr 3 0, .fn (.func 102) [] [.ptr 1 0, .ptr 2 0, .ptr 3 0], und, und, und, und, und, und, und, und, und, und], HH p 0 0 [], []⟩ =
      some (.norm, ⟨[.agg p.enc, .ptr 0 0, .int .i64 0, .int .i64 0, .ptr 1 0, .ptr 2 0, .ptr 3 0, .fn (.func 102) [] [.ptr 1 0, .ptr 2 0, .ptr 3 0], .fn (.func 102) [] [.ptr 1 0, .ptr 2 0, .ptr 3 0], .ptr 0 2, p.init.x, und, und, und, und, und, und, und], HH p p.init.stm p.init.exn J1, []⟩) := by
    have hd : docall TE (callN TE n) 102 ([] ++ [p.init.x] ++ [.ptr 1 0, .ptr 2 0, .ptr 3 0]) (HH p 0 0 []) = _ := d1
    have hH0 : (HH p 0 0 [])[0]? = some (.tcells p.enc 66 true) := rfl
    have hH3 : (HH p 0 0 [])[3]? = some (.tcells [.fn (.func 102) [] [.ptr 1 0, .ptr 2 0, .ptr 3 0]] 138 true) := rfl
    simp [f45.r4, cellsAt, hH0, hH3, Pr.enc, d1, exec, xops, xoper, want, putT, xop, ev, bin, intBin, isShift, okv, asNat_nat, takeAt, one, cellsOf, cellsAt_new, setCs_new, set_new, putAt, -List.getD_eq_getElem?_getD, rd_ne, rd_eq, List.length_set, List.getD_cons_zero, List.getD_cons_succ]
  have a5 : exec TE (callN TE n) n (.region f45.r5) ⟨[.agg p.enc, .ptr 0 0, .int .i64 0, .int .i64 0, .ptr 1 0, .ptr 2 0, .ptr 3 0, .fn (.func 102) [] [.ptr 1 0, .ptr 2 0, .ptr 3 0], .fn (.func 102) [] [.ptr 1 0, .ptr 2 0, .ptr 3 0], .ptr 0 2, p.init.x, und, und, und, und, und, und, und], HH p p.init.stm p.init.exn J1, []⟩ =
      some (.norm, ⟨[.agg p.enc, .ptr 0 0, .int .i64 0, .int .i64 0, .ptr 1 0, .ptr 2 0, .ptr 3 0, .fn (.func 102) [] [.ptr 1 0, .ptr 2 0, .ptr 3 0], .fn (.func 102) [] [.ptr 1 0, .ptr 2 0, .ptr 3 0], .ptr 0 2, p.init.x, und, .fn (.func 102) [] [.ptr 1 0, .ptr 2 0, .ptr 3 0], .ptr 0 3, p.step.x, und, und, und], HH p (p.init.stm + p.step.stm) (p.init.exn + p.step.exn) (J1 ++ J2), []⟩) := by
    have hH0 : (HH p p.init.stm p.init.exn J1)[0]? = some (.tcells p.enc 66 true) := rfl
    have hH3 : (HH p p.init.stm p.init.exn J1)[3]? = some (.tcells [.fn (.func 102) [] [.ptr 1 0, .ptr 2 0, .ptr 3 0]] 138 true) := rfl
    simp [f45.r5, cellsAt, hH0, hH3, Pr.enc, d2, exec, xops, xoper, want, putT, xop, ev, bin, intBin, isShift, okv, asNat_nat, takeAt, one, cellsOf, cellsAt_new, setCs_new, set_new, putAt, -List.getD_eq_getElem?_getD, rd_ne, rd_eq, List.length_set, List.getD_cons_zero, List.getD_cons_succ]
  have key : ∃ T, exec TE (callN TE n) n f45.body ⟨[.agg p.enc, und, und, und, und, und, und, und, und, und, und, und, und, und, und, und, und, und], [], []⟩ = some (.ret, ⟨T, HH p (p.init.stm + p.step.stm) (p.init.exn + p.step.exn) (J1 ++ J2), []⟩) ∧ T.getD 2 und = .int .i64 (p.stm : Int) ∧ T.getD 3 und = .int .i64 (p.exn : Int) := by
    have hbd : f45.body = .seq (.region f45.r0) (.seq (.region f45.r1) (.seq (.region f45.r2) (.seq (.region f45.r3) (.seq (.region f45.r4) (.seq (.region f45.r5) (.seq (.regionD f45.r6 [0, 0, 1, 7]) (.ret))))))) := rfl
    have b1 : ∀ z s s', exec TE (callN TE n) n (.seq (.region f45.r0) (.seq (.region f45.r1) (.seq (.region f45.r2) (.region f45.r3)))) s = some (.norm, s') → exec TE (callN TE n) n (.seq (.region f45.r0) (.seq (.region f45.r1) (.seq (.region f45.r2) (.seq (.region f45.r3) z)))) s = exec TE (callN TE n) n z s' := fun z s s' h => exec_assoc4 h
    rw [hbd, b1 _ _ _ a0, exec_seq_norm a4, exec_seq_norm a5]
    have hH1 : (HH p (p.init.stm + p.step.stm) (p.init.exn + p.step.exn) (J1 ++ J2))[1]? = some (.tcells [.int .i64 ((p.init.stm + p.step.stm : Nat) : Int)] 3 true) := rfl
    have hH2 : (HH p (p.init.stm + p.step.stm) (p.init.exn + p.step.exn) (J1 ++ J2))[2]? = some (.tcells [.int .i64 ((p.init.exn + p.step.exn : Nat) : Int)] 3 true) := rfl
    have e6 : exec TE (callN TE n) n (.regionD f45.r6 [0, 0, 1, 7]) ⟨[.agg p.enc, .ptr 0 0, .int .i64 0, .int .i64 0, .ptr 1 0, .ptr 2 0, .ptr 3 0, .fn (.func 102) [] [.ptr 1 0, .ptr 2 0, .ptr 3 0], .fn (.func 102) [] [.ptr 1 0, .ptr 2 0, .ptr 3 0], .ptr 0 2, p.init.x, und, .fn (.func 102) [] [.ptr 1 0, .ptr 2 0, .ptr 3 0], .ptr 0 3, p.step.x, und, und, und], HH p (p.init.stm + p.step.stm) (p.init.exn + p.step.exn) (J1 ++ J2), []⟩ =
        some (.norm, ⟨[.agg p.enc, .ptr 0 0, .int .i64 ((p.init.stm + p.step.stm : Nat) : Int), .int .i64 ((p.init.exn + p.step.exn : Nat) : Int), .ptr 1 0, .ptr 2 0, .ptr 3 0, .fn (.func 102) [] [.ptr 1 0, .ptr 2 0, .ptr 3 0], .fn (.func 102) [] [.ptr 1 0, .ptr 2 0, .ptr 3 0], .ptr 0 2, p.init.x, und, .fn (.func 102) [] [.ptr 1 0, .ptr 2 0, .ptr 3 0], .ptr 0 3, p.step.x, und, .int .i64 ((p.init.stm + p.step.stm : Nat) : Int), .int .i64 ((p.init.exn + p.step.exn : Nat) : Int)], HH p (p.init.stm + p.step.stm) (p.init.exn + p.step.exn) (J1 ++ J2), []⟩) := by
      simp only [exec]
      refine runD_of_L ?_
      simp [xopsL, f45.r6, kindO, cellsAt, hH1, hH2, exec, xops, xoper, want, putT, xop, ev, bin, intBin, isShift, okv, asNat_nat, takeAt, one, cellsOf, cellsAt_new, setCs_new, set_new, putAt, -List.getD_eq_getElem?_getD, rd_ne, rd_eq, List.length_set, List.getD_cons_zero, List.getD_cons_succ]
    rw [exec_seq_norm e6]
    refine ⟨_, rfl, rfl, rfl⟩
  obtain ⟨T, g1, g2, g3⟩ := key
  refine runF_iso (T := T) (K := _) (vs := [.int .i64 (p.stm : Int), .int .i64 (p.exn : Int)]) (vis := []) rfl (by rw [hf]; exact g1) ?_ (frz_depth (x := .tup _) rfl _)
  simp [f45, resOf, g2, g3, -List.getD_eq_getElem?_getD]

theorem count_ok (p : Pr) (n : Nat) (hn : p.sz < n) (hb : p.sz < 2 ^ 60) : CntPC (callN TE n) 45 p := by
  obtain ⟨n, rfl⟩ : ∃ k, n = k + 1 := ⟨n - 1, by omega⟩
  have hb' := hb
  simp only [Pr.sz] at hn hb'
  exact run45 p hb (cntTs_ok p _ n (by omega) (by omega)) (cntTs_ok p _ n (by omega) (by omega))

end Go.Proofs.YtnifjgdhgnmhmaaGreatDoor
namespace Go.Proofs.YtnifjgdhgnmhmaaGreatDoor
open Go Go.X
set_option linter.unusedSimpArgs false
set_option linter.unusedVariables false
set_option maxRecDepth 100000

theorem works_all (m : Nat) : callN TE (m + 400) 38 [] [] = some (.ret (.bool true) []) := by kernel_rfl

/-- What the calls come to. -/
structure C9 (call : CallF) (p q : Pr) : Prop where
  works : call 38 [] [] = some (.ret (.bool true) [])
  wp : IntC call 39 (.agg p.enc)
  wq : IntC call 39 (.agg q.enc)
  cnt : CntPC call 45 p
  rcnt : CntPC call 46 p
  rsame : call 47 [.agg p.enc, .agg q.enc] [] = some (.ret (.bool (p.same q)) [])
  same : call 48 [.agg p.enc, .agg q.enc] [] = some (.ret (.bool (p.same q)) [])
  back : call 48 [.agg q.enc, .agg p.enc] [] = some (.ret (.bool (p.same q)) [])
  self : call 48 [.agg p.enc, .agg p.enc] [] = some (.ret (.bool true) [])
  ex : ∀ e f : Ex, e.sz ≤ p.step.sz → SameC call 49 e f ∧ SameC call 50 e f

def HP (p q : Pr) : Heap := [.tcells p.enc 66 true, .tcells q.enc 66 true]
theorem hp0 (p q : Pr) : (HP p q)[0]? = some (.tcells p.enc 66 true) := rfl
theorem hp1 (p q : Pr) : (HP p q)[1]? = some (.tcells q.enc 66 true) := rfl
theorem len_enc (p : Pr) : p.enc.length = 4 := rfl
theorem oneCell_enc (p : Pr) : p.enc.all oneCell = true := by simp [Pr.enc]
@[simp] theorem bare_pr' (p : Pr) : bare (.agg p.enc) = true := by simp [leafs_pr, len_enc]
theorem take_enc (p : Pr) : takeAt p.enc 0 4 = some p.enc := rfl
theorem take4 (p : Pr) : List.take 4 p.enc = p.enc := rfl

def A9 (p q : Pr) (s : St) : Prop := s.D = [] ∧ s.T.length = 110 ∧ s.T.getD 2 und = .ptr 0 0 ∧ s.T.getD 3 und = .ptr 1 0 ∧ s.T.getD 5 und = .bool true ∧ s.H = HP p q

theorem a9 {call : CallF} {k : Nat} {p q : Pr} (hc : C9 call p q) : ∃ s', exec TE call k (.seq (.region f9.r0) (.seq (.region f9.r1) (.seq (.region f9.r2) (.cond (.t 15) (.seq (.region f9.r3) (.ret)) (.skip))))) ⟨[.agg p.enc, .agg q.enc, und, und, und, und, und, und, und, und, und, und, und, und, und, und, und, und, und, und, und, und, und, und, und, und, und, und, und, und, und, und, und, und, und, und, und, und, und, und, und, und, und, und, und, und, und, und, und, und, und, und, und, und, und, und, und, und, und, und, und, und, und, und, und, und, und, und, und, und, und, und, und, und, und, und, und, und, und, und, und, und, und, und, und, und, und, und, und, und, und, und, und, und, und, und, und, und, und, und, und, und, und, und, und, und, und, und, und, und], [], []⟩ = some (.norm, s') ∧ A9 p q s' := by
  have hd : ∀ H, docall TE call 38 [] H = some (.ret (.bool true) H) := fun H => docall_iso (E := TE) rfl rfl (by simp [bares]) (by simp) hc.works H
  refine ⟨?s1, ?e1, ?i1⟩
  case e1 =>
    simp [f9.r0, f9.r1, f9.r2, hd, un, exec, xops, xoper, want, putT, xop, ev, bin, intBin, isShift, okv, asNat_nat, takeAt, one, cellsOf, cellsAt_new, setCs_new, set_new, putAt, -List.getD_eq_getElem?_getD, rd_ne, rd_eq, List.length_set, List.getD_cons_zero, List.getD_cons_succ]
    rfl
  case i1 => simp [A9, HP, exec, xops, xoper, want, putT, xop, ev, bin, intBin, isShift, okv, asNat_nat, takeAt, one, cellsOf, cellsAt_new, setCs_new, set_new, putAt, -List.getD_eq_getElem?_getD, rd_ne, rd_eq, List.length_set, List.getD_cons_zero, List.getD_cons_succ]

/-- What comes back when it is too great. -/
def R9 (s : St) : Prop := s.D = [] ∧ s.T.getD 4 und = .bool true

theorem b9 {call : CallF} {k : Nat} {p q : Pr} {s : St} (hs : A9 p q s) (hc : C9 call p q) :
    (∃ s', exec TE call k (.seq (.region f9.r4) (.cond (.t 23) (.seq (.region f9.r5) (.ret)) (.skip))) s = some (.ret, s') ∧ R9 s') ∨ ∃ s', exec TE call k (.seq (.region f9.r4) (.cond (.t 23) (.seq (.region f9.r5) (.ret)) (.skip))) s = some (.norm, s') ∧ A9 p q s' := by
  obtain ⟨T, H, D⟩ := s
  obtain ⟨rfl, hl, h2, h3, h5, rfl⟩ := hs
  simp only at hl h2 h3 h5
  obtain ⟨m1, c1⟩ := hc.wp 1500
  obtain ⟨m2, c2⟩ := hc.wq 1500
  have hd1 : ∀ H, docall TE call 39 [.agg p.enc, .int .i64 1500] H = some (.ret (.int .i64 m1) H) := fun H => docall_iso (E := TE) rfl rfl (by simp [bares, leafs_pr, len_enc]) (by simp) c1 H
  have hd2 : ∀ H, docall TE call 39 [.agg q.enc, .int .i64 1500] H = some (.ret (.int .i64 m2) H) := fun H => docall_iso (E := TE) rfl rfl (by simp [bares, leafs_pr, len_enc]) (by simp) c2 H
  have g0 := hp0 p q
  have g1 := hp1 p q
  have t1 := take_enc p
  have t2 := take_enc q
  by_cases k1 : 1500 < m1
  · left
    refine ⟨?s2, ?e2, ?i2⟩
    case e2 =>
      simp [f9.r4, f9.r5, k1, hd1, hd2, g0, g1, cellsAt, hl, h2, h3, h5, len_enc, take4, List.getElem?_set, exec, xops, xoper, want, putT, xop, ev, bin, intBin, isShift, okv, asNat_nat, takeAt, one, cellsOf, cellsAt_new, setCs_new, set_new, putAt, -List.getD_eq_getElem?_getD, rd_ne, rd_eq, List.length_set, List.getD_cons_zero, List.getD_cons_succ]
      rfl
    case i2 => simp [R9, hl, h2, h3, h5, exec, xops, xoper, want, putT, xop, ev, bin, intBin, isShift, okv, asNat_nat, takeAt, one, cellsOf, cellsAt_new, setCs_new, set_new, putAt, -List.getD_eq_getElem?_getD, rd_ne, rd_eq, List.length_set, List.getD_cons_zero, List.getD_cons_succ]
  · by_cases k2 : 1500 < m2
    · left
      refine ⟨?s3, ?e3, ?i3⟩
      case e3 =>
        simp [f9.r4, f9.r5, k1, k2, hd1, hd2, g0, g1, cellsAt, hl, h2, h3, h5, len_enc, take4, List.getElem?_set, exec, xops, xoper, want, putT, xop, ev, bin, intBin, isShift, okv, asNat_nat, takeAt, one, cellsOf, cellsAt_new, setCs_new, set_new, putAt, -List.getD_eq_getElem?_getD, rd_ne, rd_eq, List.length_set, List.getD_cons_zero, List.getD_cons_succ]
        rfl
      case i3 => simp [R9, hl, h2, h3, h5, exec, xops, xoper, want, putT, xop, ev, bin, intBin, isShift, okv, asNat_nat, takeAt, one, cellsOf, cellsAt_new, setCs_new, set_new, putAt, -List.getD_eq_getElem?_getD, rd_ne, rd_eq, List.length_set, List.getD_cons_zero, List.getD_cons_succ]
    · right
      refine ⟨?s4, ?e4, ?i4⟩
      case e4 =>
        simp [f9.r4, f9.r5, k1, k2, hd1, hd2, g0, g1, cellsAt, hl, h2, h3, h5, len_enc, take4, List.getElem?_set, exec, xops, xoper, want, putT, xop, ev, bin, intBin, isShift, okv, asNat_nat, takeAt, one, cellsOf, cellsAt_new, setCs_new, set_new, putAt, -List.getD_eq_getElem?_getD, rd_ne, rd_eq, List.length_set, List.getD_cons_zero, List.getD_cons_succ]
        rfl
      case i4 => simp [A9, hl, h2, h3, h5, exec, xops, xoper, want, putT, xop, ev, bin, intBin, isShift, okv, asNat_nat, takeAt, one, cellsOf, cellsAt_new, setCs_new, set_new, putAt, -List.getD_eq_getElem?_getD, rd_ne, rd_eq, List.length_set, List.getD_cons_zero, List.getD_cons_succ]

def K9 (p q : Pr) (i : Nat) (s : St) : Prop := A9 p q s ∧ s.T.getD 6 und = .int .i64 (p.stm : Int) ∧ s.T.getD 7 und = .int .i64 (p.exn : Int) ∧ s.T.getD 8 und = .int .i64 (p.stm : Int) ∧ s.T.getD 9 und = .int .i64 (p.exn : Int) ∧
  s.T.getD 10 und = .bool (p.same q) ∧ s.T.getD 11 und = .bool (p.same q) ∧ s.T.getD 12 und = .int .i64 (i : Int)

theorem c9a {call : CallF} {k : Nat} {p q : Pr} {s : St} (hs : A9 p q s) (hc : C9 call p q) :
    ∃ s', exec TE call k (.seq (.region f9.r6) (.region f9.r7)) s = some (.norm, s') ∧ A9 p q s' ∧ s'.T.getD 6 und = .int .i64 (p.stm : Int) ∧ s'.T.getD 7 und = .int .i64 (p.exn : Int) ∧ s'.T.getD 8 und = .int .i64 (p.stm : Int) ∧ s'.T.getD 9 und = .int .i64 (p.exn : Int) := by
  obtain ⟨T, H, D⟩ := s
  obtain ⟨rfl, hl, h2, h3, h5, rfl⟩ := hs
  simp only at hl h2 h3 h5
  have hd1 : ∀ H, docall TE call 45 [.agg p.enc] H = some (.ret (.tup [.int .i64 (p.stm : Int), .int .i64 (p.exn : Int)]) H) := fun H => docall_iso (E := TE) rfl rfl (by simp [bares, leafs_pr, len_enc]) (by simp) hc.cnt H
  have hd2 : ∀ H, docall TE call 46 [.agg p.enc] H = some (.ret (.tup [.int .i64 (p.stm : Int), .int .i64 (p.exn : Int)]) H) := fun H => docall_iso (E := TE) rfl rfl (by simp [bares, leafs_pr, len_enc]) (by simp) hc.rcnt H
  have g0 := hp0 p q
  refine ⟨?s5, ?e5, ?i5⟩
  case e5 =>
    simp [f9.r6, f9.r7, hd1, hd2, g0, cellsAt, hl, h2, h3, h5, len_enc, take4, List.getElem?_set, exec, xops, xoper, want, putT, xop, ev, bin, intBin, isShift, okv, asNat_nat, takeAt, one, cellsOf, cellsAt_new, setCs_new, set_new, putAt, -List.getD_eq_getElem?_getD, rd_ne, rd_eq, List.length_set, List.getD_cons_zero, List.getD_cons_succ]
    rfl
  case i5 => simp [A9, hl, h2, h3, h5, exec, xops, xoper, want, putT, xop, ev, bin, intBin, isShift, okv, asNat_nat, takeAt, one, cellsOf, cellsAt_new, setCs_new, set_new, putAt, -List.getD_eq_getElem?_getD, rd_ne, rd_eq, List.length_set, List.getD_cons_zero, List.getD_cons_succ]

theorem c9b {call : CallF} {k : Nat} {p q : Pr} {s : St} (hs : A9 p q s ∧ s.T.getD 6 und = .int .i64 (p.stm : Int) ∧ s.T.getD 7 und = .int .i64 (p.exn : Int) ∧ s.T.getD 8 und = .int .i64 (p.stm : Int) ∧ s.T.getD 9 und = .int .i64 (p.exn : Int)) (hc : C9 call p q) :
    ∃ s', exec TE call k (.seq (.region f9.r8) (.seq (.region f9.r9) (.region f9.r10))) s = some (.norm, s') ∧ K9 p q 0 s' := by
  obtain ⟨T, H, D⟩ := s
  obtain ⟨⟨rfl, hl, h2, h3, h5, rfl⟩, h6, h7, h8, h9⟩ := hs
  simp only at hl h2 h3 h5 h6 h7 h8 h9
  have hd1 : ∀ H, docall TE call 47 [.agg p.enc, .agg q.enc] H = some (.ret (.bool (p.same q)) H) := fun H => docall_iso (E := TE) rfl rfl (by simp [bares, leafs_pr, len_enc]) (by simp) hc.rsame H
  have hd2 : ∀ H, docall TE call 48 [.agg q.enc, .agg p.enc] H = some (.ret (.bool (p.same q)) H) := fun H => docall_iso (E := TE) rfl rfl (by simp [bares, leafs_pr, len_enc]) (by simp) hc.back H
  have g0 := hp0 p q
  have g1 := hp1 p q
  refine ⟨?s6, ?e6, ?i6⟩
  case e6 =>
    simp [f9.r8, f9.r9, f9.r10, hd1, hd2, g0, g1, cellsAt, hl, h2, h3, h5, h6, h7, h8, h9, len_enc, take4, List.getElem?_set, exec, xops, xoper, want, putT, xop, ev, bin, intBin, isShift, okv, asNat_nat, takeAt, one, cellsOf, cellsAt_new, setCs_new, set_new, putAt, -List.getD_eq_getElem?_getD, rd_ne, rd_eq, List.length_set, List.getD_cons_zero, List.getD_cons_succ]
    rfl
  case i6 => simp [K9, A9, hl, h2, h3, h5, h6, h7, h8, h9, exec, xops, xoper, want, putT, xop, ev, bin, intBin, isShift, okv, asNat_nat, takeAt, one, cellsOf, cellsAt_new, setCs_new, set_new, putAt, -List.getD_eq_getElem?_getD, rd_ne, rd_eq, List.length_set, List.getD_cons_zero, List.getD_cons_succ]

def body9 : XC := (.seq (.seq (.region f9.r11) (.cond (.t 52) (.skip) (.exit 0))) (.seq (.block 1 (.seq (.regionD f9.r12 [0, 1, 0, 7, 15, 31, 0, 64, 0, 448, 960, 1984, 4095, 0, 8192, 0, 57344, 122880, 253952, 0, 524288, 0, 3670016, 7864320, 16252928, 33554431, 67108863]) (.cond (.t 81) (.seq (.region f9.r13) (.ret)) (.skip)))) (.region f9.r14)))

theorem field3 (p : Pr) : takeAt p.enc 3 1 = some [p.step.x] := rfl

theorem round9 {call : CallF} {k i : Nat} {p q : Pr} {s : St} (hs : K9 p q i s) (hc : C9 call p q) (hi : i + 1 < 2 ^ 63) :
    (∃ s', exec TE call k body9 s = some (.exit 0, s') ∧ K9 p q i s') ∨ (i < p.step.len ∧ ∃ s', exec TE call k body9 s = some (.norm, s') ∧ K9 p q (i + 1) s') := by
  obtain ⟨T, H, D⟩ := s
  obtain ⟨⟨rfl, hl, h2, h3, h5, rfl⟩, h6, h7, h8, h9, h10, h11, h12⟩ := hs
  simp only at hl h2 h3 h5 h6 h7 h8 h9 h10 h11 h12
  have g0 := hp0 p q
  have g1 := hp1 p q
  have hlp := Sms.lenOf_x p.step
  have hlq := Sms.lenOf_x q.step
  by_cases k1 : i < p.step.len
  · by_cases k2 : i < q.step.len
    · right
      refine ⟨k1, ?_⟩
      have hxp := Sms.x_vs k1
      have hxq := Sms.x_vs k2
      have hcp := Sms.cells_length p.step
      have hcq := Sms.cells_length q.step
      have hle1 : i * 15 ≤ p.step.cells.length := by omega
      have hle2 : i * 15 ≤ q.step.cells.length := by omega
      obtain ⟨e, r1, he, hse⟩ : ∃ (a : Sm) (rest : List XV), p.step.cells.drop (i * 15) = a.enc ++ rest ∧ a.sz ≤ p.step.sz := by
        have hall : ∀ (l : Sms) (m : Nat), l.sz ≤ m → l.All fun e => e.sz ≤ m := by
          intro l
          induction l using Sms.rec (motive_1 := fun _ => True) with
          | mk => trivial
          | nil z => intro m _; trivial
          | cons e r _ ih =>
            intro m hm
            simp only [Sms.sz] at hm
            exact ⟨by omega, ih m (by omega)⟩
        exact Sms.get k1 (hall _ _ (Nat.le_refl _))
      obtain ⟨f, r2, hf, _⟩ : ∃ (a : Sm) (rest : List XV), q.step.cells.drop (i * 15) = a.enc ++ rest ∧ True := by
        have hall : ∀ l : Sms, l.All fun _ => True := by
          intro l
          induction l using Sms.rec (motive_1 := fun _ => True) with
          | mk => trivial
          | nil z => trivial
          | cons e r _ ih => exact ⟨trivial, ih⟩
        exact Sms.get k2 (hall _)
      obtain ⟨kind, at_, name, index, ex, lo, hi', th, el⟩ := e
      obtain ⟨kind2, at2, name2, index2, ex2, lo2, hi2, th2, el2⟩ := f
      simp only [Sm.sz] at hse
      obtain ⟨c1, c2⟩ := hc.ex ex ex2 (by omega)
      simp only [SameC] at c1 c2
      have hb1 : bares [.agg ex.enc, .agg ex2.enc] = true := by simp [bares, Ex.leafs_enc, Ex.enc_length]
      have hd1 : ∀ H, docall TE call 49 [.agg ex.enc, .agg ex2.enc] H = some (.ret (.bool (ex.same ex2)) H) := fun H => docall_iso (E := TE) rfl rfl hb1 (by simp) c1 H
      have hd2 : ∀ H, docall TE call 50 [.agg ex.enc, .agg ex2.enc] H = some (.ret (.bool (ex.same ex2)) H) := fun H => docall_iso (E := TE) rfl rfl hb1 (by simp) c2 H
      have hfr : ∀ H, frzL depth H [.agg ex.enc, .agg ex2.enc] = some ([.agg ex.enc, .agg ex2.enc], []) := fun H => frzL_depth hb1 (by simp) H
      have hs1 : TE.iso 49 = true := rfl
      have hs2 : TE.iso 50 = true := rfl
      have hw2 : IntKind.i64.wrap ((i : Int) + 1) = (i : Int) + 1 := wrap_small (by omega) (by omega)
      have hde : p.step.cells.drop (i * 15 + 4) = ex.enc ++ (.int .i32 lo :: .int .i32 hi' :: th.ptr th.cells :: el.ptr el.cells :: r1) := by
        rw [← List.drop_drop, he]; simp [Sm.enc]
      have hdf : q.step.cells.drop (i * 15 + 4) = ex2.enc ++ (.int .i32 lo2 :: .int .i32 hi2 :: th2.ptr th2.cells :: el2.ptr el2.cells :: r2) := by
        rw [← List.drop_drop, hf]; simp [Sm.enc]
      have hde' : (p.step.cells.drop (i * 15)).drop 4 = ex.enc ++ (.int .i32 lo :: .int .i32 hi' :: th.ptr th.cells :: el.ptr el.cells :: r1) := by rw [List.drop_drop]; exact hde
      have hdf' : (q.step.cells.drop (i * 15)).drop 4 = ex2.enc ++ (.int .i32 lo2 :: .int .i32 hi2 :: th2.ptr th2.cells :: el2.ptr el2.cells :: r2) := by rw [List.drop_drop]; exact hdf
      have hte : ∀ r, takeAt (ex.enc ++ r) 0 7 = some ex.enc := fun r => by simp [takeAt, Ex.enc_length, List.take_left' (Ex.enc_length ex)]
      have htf : ∀ r, takeAt (ex2.enc ++ r) 0 7 = some ex2.enc := fun r => by simp [takeAt, Ex.enc_length, List.take_left' (Ex.enc_length ex2)]
      have hl4 : 4 ≤ p.step.cells.length - i * 15 := by rw [← List.length_drop, he]; simp [Sm.enc_length]; omega
      have hl5 : 4 ≤ q.step.cells.length - i * 15 := by rw [← List.length_drop, hf]; simp [Sm.enc_length]; omega
      have hlA : lenOf false (.vs p.step.len p.step.cells) = some p.step.len := rfl
      have hlB : lenOf false (.vs q.step.len q.step.cells) = some q.step.len := rfl
      have hP : takeAt p.enc 3 1 = some [.vs p.step.len p.step.cells] := by rw [field3, hxp]
      have hQ : takeAt q.enc 3 1 = some [.vs q.step.len q.step.cells] := by rw [field3, hxq]
      have S1 : ∃ s1, exec TE call k (.seq (.region f9.r11) (.cond (.t 52) (.skip) (.exit 0))) ⟨T, HP p q, []⟩ = some (.norm, s1) ∧ K9 p q i s1 := by
        refine ⟨?s7, ?e7, ?i7⟩
        case e7 =>
          simp [f9.r11, k1, k2, hlA, hlB, hP, hQ, g0, g1, cellsAt, hl, h2, h3, h5, h6, h7, h8, h9, h10, h11, h12, List.getElem?_set, exec, xops, xoper, want, putT, xop, ev, bin, intBin, isShift, okv, one, cellsOf, -List.getD_eq_getElem?_getD, rd_ne, rd_eq, List.length_set]
          rfl
        case i7 => simp [K9, A9, hl, h2, h3, h5, h6, h7, h8, h9, h10, h11, h12, exec, xops, xoper, want, putT, xop, ev, bin, intBin, isShift, okv, asNat_nat, takeAt, one, cellsOf, cellsAt_new, setCs_new, set_new, putAt, -List.getD_eq_getElem?_getD, rd_ne, rd_eq, List.length_set, List.getD_cons_zero, List.getD_cons_succ]
      obtain ⟨⟨T1, H1, D1⟩, e1, ⟨rfl, gl, q2, q3, q5, rfl⟩, q6, q7, q8, q9, q10, q11, q12⟩ := S1
      simp only at gl q2 q3 q5 q6 q7 q8 q9 q10 q11 q12
      have ask : ∃ T', xopsL TE call f9.r12 T1 (HP p q) = some (T', HP p q) ∧ K9 p q i ⟨T', HP p q, []⟩ ∧ T'.getD 81 und = .bool false := by
        refine ⟨?s8, ?e8, ?i8⟩
        case e8 =>
          simp [xopsL, kindO, f9.r12, k1, k2, hle1, hle2, hl4, hl5, hde, hdf, hde', hdf', hte, htf, hfr, hs1, hs2, hd1, hd2, xeq, hP, hQ, g0, g1, cellsAt, gl, q2, q3, q5, q12, exec, xops, xoper, want, putT, xop, ev, bin, intBin, isShift, okv, asNat_nat, one, cellsOf, -List.getD_eq_getElem?_getD, rd_ne, rd_eq, List.length_set]
          rfl
        case i8 => simp [K9, A9, gl, q2, q3, q5, q6, q7, q8, q9, q10, q11, q12, exec, xops, xoper, want, putT, xop, ev, bin, intBin, isShift, okv, asNat_nat, takeAt, one, cellsOf, cellsAt_new, setCs_new, set_new, putAt, -List.getD_eq_getElem?_getD, rd_ne, rd_eq, List.length_set, List.getD_cons_zero, List.getD_cons_succ]
      obtain ⟨T2, e2', ⟨⟨_, ul, u2, u3, u5, _⟩, u6, u7, u8, u9, u10, u11, u12⟩, u81⟩ := ask
      have e2 := runD_of_L (D := []) (cl := [0, 1, 0, 7, 15, 31, 0, 64, 0, 448, 960, 1984, 4095, 0, 8192, 0, 57344, 122880, 253952, 0, 524288, 0, 3670016, 7864320, 16252928, 33554431, 67108863]) e2'
      simp only at ul u2 u3 u5 u6 u7 u8 u9 u10 u11 u12 u81
      have e3 : exec TE call k (.cond (.t 81) (.seq (.region f9.r13) (.ret)) (.skip)) ⟨T2, HP p q, []⟩ = some (.norm, ⟨T2, HP p q, []⟩) := by simp only [exec, ev, u81]
      refine ⟨⟨((T2.set 53 (.int .i64 (i : Int))).set 54 (.int .i64 ((i : Int) + 1))).set 12 (.int .i64 ((i : Int) + 1)), HP p q, []⟩, ?_, ?_⟩
      · unfold body9
        rw [exec_seq_norm e1, exec_seq_norm (exec_block_norm (by rw [exec_seq_norm (by simp only [exec]; exact e2)]; exact e3))]
        simp [f9.r14, hw2, ul, u12, exec, xops, xoper, want, putT, xop, ev, bin, intBin, isShift, okv, asNat_nat, takeAt, one, cellsOf, cellsAt_new, setCs_new, set_new, putAt, -List.getD_eq_getElem?_getD, rd_ne, rd_eq, List.length_set, List.getD_cons_zero, List.getD_cons_succ]
      · simp [K9, A9, ul, u2, u3, u5, u6, u7, u8, u9, u10, u11, u12, exec, xops, xoper, want, putT, xop, ev, bin, intBin, isShift, okv, asNat_nat, takeAt, one, cellsOf, cellsAt_new, setCs_new, set_new, putAt, -List.getD_eq_getElem?_getD, rd_ne, rd_eq, List.length_set, List.getD_cons_zero, List.getD_cons_succ]
    · left
      refine ⟨?s9, ?e9, ?i9⟩
      case e9 =>
        simp [body9, f9.r11, field3, k1, k2, hlp, hlq, g0, g1, cellsAt, hl, h2, h3, h5, h6, h7, h8, h9, h10, h11, h12, List.getElem?_set, exec, xops, xoper, want, putT, xop, ev, bin, intBin, isShift, okv, one, cellsOf, -List.getD_eq_getElem?_getD, rd_ne, rd_eq, List.length_set]
        rfl
      case i9 => simp [K9, A9, hl, h2, h3, h5, h6, h7, h8, h9, h10, h11, h12, exec, xops, xoper, want, putT, xop, ev, bin, intBin, isShift, okv, asNat_nat, takeAt, one, cellsOf, cellsAt_new, setCs_new, set_new, putAt, -List.getD_eq_getElem?_getD, rd_ne, rd_eq, List.length_set, List.getD_cons_zero, List.getD_cons_succ]
  · left
    refine ⟨?s10, ?e10, ?i10⟩
    case e10 =>
      simp [body9, f9.r11, field3, k1, hlp, hlq, g0, g1, cellsAt, hl, h2, h3, h5, h6, h7, h8, h9, h10, h11, h12, List.getElem?_set, exec, xops, xoper, want, putT, xop, ev, bin, intBin, isShift, okv, one, cellsOf, -List.getD_eq_getElem?_getD, rd_ne, rd_eq, List.length_set]
      rfl
    case i10 => simp [K9, A9, hl, h2, h3, h5, h6, h7, h8, h9, h10, h11, h12, exec, xops, xoper, want, putT, xop, ev, bin, intBin, isShift, okv, asNat_nat, takeAt, one, cellsOf, cellsAt_new, setCs_new, set_new, putAt, -List.getD_eq_getElem?_getD, rd_ne, rd_eq, List.length_set, List.getD_cons_zero, List.getD_cons_succ]

end Go.Proofs.YtnifjgdhgnmhmaaGreatDoor
namespace Go.Proofs.YtnifjgdhgnmhmaaGreatDoor
open Go Go.X
set_option linter.unusedSimpArgs false
set_option linter.unusedVariables false
set_option maxRecDepth 100000

theorem d9 {call : CallF} {k i : Nat} {p q : Pr} {s : St} (hs : K9 p q i s) (hc : C9 call p q) : ∃ s', exec TE call k (.seq (.region f9.r15) .ret) s = some (.ret, s') ∧ R9 s' := by
  obtain ⟨T, H, D⟩ := s
  obtain ⟨⟨rfl, hl, h2, h3, h5, rfl⟩, h6, h7, h8, h9, h10, h11, h12⟩ := hs
  simp only at hl h2 h3 h5 h6 h7 h8 h9 h10 h11 h12
  have hd1 : ∀ H, docall TE call 48 [.agg p.enc, .agg q.enc] H = some (.ret (.bool (p.same q)) H) := fun H => docall_iso (E := TE) rfl rfl (by simp [bares, leafs_pr, len_enc]) (by simp) hc.same H
  have hd2 : ∀ H, docall TE call 48 [.agg p.enc, .agg p.enc] H = some (.ret (.bool true) H) := fun H => docall_iso (E := TE) rfl rfl (by simp [bares, leafs_pr, len_enc]) (by simp) hc.self H
  have g0 := hp0 p q
  have g1 := hp1 p q
  refine ⟨?s1, ?e1, ?i1⟩
  case e1 =>
    simp [f9.r15, hd1, hd2, xeq, g0, g1, cellsAt, hl, h2, h3, h5, h6, h7, h8, h9, h10, h11, h12, len_enc, take4, List.getElem?_set, exec, xops, xoper, want, putT, xop, ev, bin, intBin, isShift, okv, asNat_nat, takeAt, one, cellsOf, cellsAt_new, setCs_new, set_new, putAt, -List.getD_eq_getElem?_getD, rd_ne, rd_eq, List.length_set, List.getD_cons_zero, List.getD_cons_succ]
    rfl
  case i1 => simp [R9, hl, h2, h3, h5, h6, h7, h8, h9, h10, h11, h12, exec, xops, xoper, want, putT, xop, ev, bin, intBin, isShift, okv, asNat_nat, takeAt, one, cellsOf, cellsAt_new, setCs_new, set_new, putAt, -List.getD_eq_getElem?_getD, rd_ne, rd_eq, List.length_set, List.getD_cons_zero, List.getD_cons_succ]

theorem run9 {n : Nat} (p q : Pr) (hln : p.step.len < n) (hb : p.step.len < 2 ^ 61) (hc : C9 (callN TE n) p q) : callN TE (n + 1) 9 [.agg p.enc, .agg q.enc] [] = some (.ret (.bool true) []) := by
  rw [callN_eq (xf := f9) rfl]
  have hf : frame0 f9 [.agg p.enc, .agg q.enc] = [.agg p.enc, .agg q.enc, und, und, und, und, und, und, und, und, und, und, und, und, und, und, und, und, und, und, und, und, und, und, und, und, und, und, und, und, und, und, und, und, und, und, und, und, und, und, und, und, und, und, und, und, und, und, und, und, und, und, und, und, und, und, und, und, und, und, und, und, und, und, und, und, und, und, und, und, und, und, und, und, und, und, und, und, und, und, und, und, und, und, und, und, und, und, und, und, und, und, und, und, und, und, und, und, und, und, und, und, und, und, und, und, und, und, und, und] := rfl
  have hbd : f9.body = .seq (.region f9.r0) (.seq (.region f9.r1) (.seq (.seq (.region f9.r2) (.cond (.t 15) (.seq (.region f9.r3) (.ret)) (.skip))) (.seq (.seq (.region f9.r4) (.cond (.t 23) (.seq (.region f9.r5) (.ret)) (.skip))) (.seq (.region f9.r6) (.seq (.region f9.r7) (.seq (.region f9.r8) (.seq (.region f9.r9) (.seq (.seq (.region f9.r10) (.block 0 (.loop body9))) (.seq (.region f9.r15) (.ret)))))))))) := rfl
  have fin : ∀ s', exec TE (callN TE n) n f9.body ⟨[.agg p.enc, .agg q.enc, und, und, und, und, und, und, und, und, und, und, und, und, und, und, und, und, und, und, und, und, und, und, und, und, und, und, und, und, und, und, und, und, und, und, und, und, und, und, und, und, und, und, und, und, und, und, und, und, und, und, und, und, und, und, und, und, und, und, und, und, und, und, und, und, und, und, und, und, und, und, und, und, und, und, und, und, und, und, und, und, und, und, und, und, und, und, und, und, und, und, und, und, und, und, und, und, und, und, und, und, und, und, und, und, und, und, und, und], [], []⟩ = some (.ret, s') → R9 s' → runF TE (callN TE n) (dcallOf TE (callN TE n) n) n 9 f9 [.agg p.enc, .agg q.enc] [] = some (.ret (.bool true) []) := by
    intro ⟨T, H, D⟩ hx ⟨hD, h4⟩
    simp only at hD h4
    subst hD
    refine runF_iso (T := T) (K := H) (vs := [.bool true]) (vis := []) rfl (by rw [hf]; exact hx) ?_ (frz_depth rfl _)
    simp [f9, resOf, h4, -List.getD_eq_getElem?_getD]
  obtain ⟨s1, e1, i1⟩ := a9 (call := callN TE n) (k := n) hc
  have a1 : ∀ z, exec TE (callN TE n) n (.seq (.region f9.r0) (.seq (.region f9.r1) (.seq (.seq (.region f9.r2) (.cond (.t 15) (.seq (.region f9.r3) (.ret)) (.skip))) z))) ⟨[.agg p.enc, .agg q.enc, und, und, und, und, und, und, und, und, und, und, und, und, und, und, und, und, und, und, und, und, und, und, und, und, und, und, und, und, und, und, und, und, und, und, und, und, und, und, und, und, und, und, und, und, und, und, und, und, und, und, und, und, und, und, und, und, und, und, und, und, und, und, und, und, und, und, und, und, und, und, und, und, und, und, und, und, und, und, und, und, und, und, und, und, und, und, und, und, und, und, und, und, und, und, und, und, und, und, und, und, und, und, und, und, und, und, und, und], [], []⟩ = exec TE (callN TE n) n z s1 := by
    intro z
    simp only [exec] at e1 ⊢
    cases hx : xops TE (callN TE n) f9.r0 ⟨[.agg p.enc, .agg q.enc, und, und, und, und, und, und, und, und, und, und, und, und, und, und, und, und, und, und, und, und, und, und, und, und, und, und, und, und, und, und, und, und, und, und, und, und, und, und, und, und, und, und, und, und, und, und, und, und, und, und, und, und, und, und, und, und, und, und, und, und, und, und, und, und, und, und, und, und, und, und, und, und, und, und, und, und, und, und, und, und, und, und, und, und, und, und, und, und, und, und, und, und, und, und, und, und, und, und, und, und, und, und, und, und, und, und, und, und], [], []⟩ with
    | none => rw [hx] at e1; cases e1
    | some r =>
      rw [hx] at e1
      obtain ⟨x, s2⟩ := r
      cases x <;> simp only at e1 ⊢ <;> try (cases e1; done)
      cases hy : xops TE (callN TE n) f9.r1 s2 with
      | none => rw [hy] at e1; cases e1
      | some r =>
        rw [hy] at e1
        obtain ⟨y, s3⟩ := r
        cases y <;> simp only at e1 ⊢ <;> try (cases e1; done)
        rw [e1]
  rcases b9 (call := callN TE n) (k := n) i1 hc with ⟨s2, e2, r2⟩ | ⟨s2, e2, i2⟩
  · exact fin s2 (by rw [hbd, a1]; exact exec_seq_ret e2) r2
  · obtain ⟨s3, e3, i3⟩ := c9a (call := callN TE n) (k := n) i2 hc
    obtain ⟨s4, e4, i4⟩ := c9b (call := callN TE n) (k := n) i3 hc
    obtain ⟨s5, j, e5, i5⟩ := loop_count (body := exec TE (callN TE n) n body9) (I := K9 p q) (len := p.step.len) (x := .exit 0) (by simp) (fun i s hi hs => (round9 hs hc (by omega)).imp (fun ⟨s', h⟩ => ⟨s', i, h⟩) id) n 0 s4 (by omega) (by omega) i4
    obtain ⟨s6, e6, r6⟩ := d9 (call := callN TE n) (k := n) i5 hc
    have e34 : ∀ z, exec TE (callN TE n) n (.seq (.region f9.r6) (.seq (.region f9.r7) z)) s2 = exec TE (callN TE n) n z s3 := fun z => exec_assoc2 e3
    have e45 : ∀ z, exec TE (callN TE n) n (.seq (.region f9.r8) (.seq (.region f9.r9) (.seq (.seq (.region f9.r10) (.block 0 (.loop body9))) z))) s3 = exec TE (callN TE n) n z s5 := by
      intro z
      simp only [exec] at e4 ⊢
      cases hx : xops TE (callN TE n) f9.r8 s3 with
      | none => rw [hx] at e4; cases e4
      | some r =>
        rw [hx] at e4
        obtain ⟨x, t1⟩ := r
        cases x <;> simp only at e4 ⊢ <;> try (cases e4; done)
        cases hy : xops TE (callN TE n) f9.r9 t1 with
        | none => rw [hy] at e4; cases e4
        | some r =>
          rw [hy] at e4
          obtain ⟨y, t2⟩ := r
          cases y <;> simp only at e4 ⊢ <;> try (cases e4; done)
          cases hw : xops TE (callN TE n) f9.r10 t2 with
          | none => rw [hw] at e4; cases e4
          | some r =>
            rw [hw] at e4
            obtain ⟨w, t3⟩ := r
            cases w <;> simp only at e4 ⊢ <;> try (cases e4; done)
            cases e4
            rw [e5]
            simp
    refine fin s6 ?_ r6
    rw [hbd, a1, exec_seq_norm e2, e34, e45]
    exact e6

/-- THE LAW's RUN. -/
theorem law9 (p q : Pr) (hp : p.sz ≤ 2 ^ 20) (hq : q.sz ≤ 2 ^ 20) : ∃ n K, callN TE n 9 [.agg p.enc, .agg q.enc] [] = some (.ret (.bool true) K) := by
  have hsp := Sms.len_le p.step
  have hpz : p.step.sz ≤ p.sz := by simp only [Pr.sz]; omega
  refine ⟨2 ^ 24 + 400 + 1, [], run9 p q (by omega) (by omega) ⟨works_all _, ?_, ?_, ?_, ?_, ?_, ?_, ?_, ?_, ?_⟩⟩
  · exact weigh_ok p _ (by omega) (by omega)
  · exact weigh_ok q _ (by omega) (by omega)
  · exact count_ok p _ (by omega) (by omega)
  · exact rcount_ok p _ (by omega) (by omega)
  · exact rsame_ok p q _ (by omega) (by omega)
  · exact same_ok p q _ (by omega) (by omega)
  · rw [Pr.same_comm]; exact same_ok q p _ (by omega) (by omega)
  · have := same_ok p p (2 ^ 24 + 400) (by omega) (by omega)
    rwa [Pr.same_refl] at this
  · intro e f he
    exact ⟨sameE_ok e f _ (by omega) (by omega), rsameE_ok e f _ (by omega) (by omega)⟩

end Go.Proofs.YtnifjgdhgnmhmaaGreatDoor
