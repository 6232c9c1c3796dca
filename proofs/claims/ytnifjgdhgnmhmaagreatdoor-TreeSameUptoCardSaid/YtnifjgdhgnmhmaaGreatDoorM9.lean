/- Programs are read off a world: trees, their cells, and how great they are. The tree laws' environment is the program's; a world for their witness; two programs that are read. -/
import Derived.Test.YtnifjgdhgnmhmaaGreatDoorM3
import Derived.Test.YtnifjgdhgnmhmaaGreatDoorM7
import Derived.Test.YtnifjgdhgnmhmaaGreatDoorRows
import Derived.Test.YtnifjgdhgnmhmaaGreatDoorM8
import Derived.Test.YtnifjgdhgnmhmaaGreatDoorTie
import Derived.Test.YtnifjgdhgnmhmaaGreatDoorCards
import Derived.WalkKit
import Derived.ProofKit
import Derived.Deep.DeepHandedRow
namespace Go.Proofs.YtnifjgdhgnmhmaaGreatDoor
open Go Go.X
set_option maxRecDepth 100000

theorem c3 : Tryz.prog.cellsOf 3 = 1 := by kernel_rfl
theorem c4 : Tryz.prog.cellsOf 4 = 1 := by kernel_rfl
theorem c9 : Tryz.prog.cellsOf 9 = 1 := by kernel_rfl
theorem c21 : Tryz.prog.cellsOf 21 = 1 := by kernel_rfl
theorem c23 : Tryz.prog.cellsOf 23 = 1 := by kernel_rfl
theorem c63 : Tryz.prog.cellsOf 63 = 1 := by kernel_rfl
theorem c64 : Tryz.prog.cellsOf 64 = 1 := by kernel_rfl
theorem c66 : Tryz.prog.cellsOf 66 = 4 := by kernel_rfl
theorem c74 : Tryz.prog.cellsOf 74 = 1 := by kernel_rfl
theorem c75 : Tryz.prog.cellsOf 75 = 1 := by kernel_rfl
theorem c76 : Tryz.prog.cellsOf 76 = 1 := by kernel_rfl
theorem c78 : Tryz.prog.cellsOf 78 = 7 := by kernel_rfl
theorem c80 : Tryz.prog.cellsOf 80 = 15 := by kernel_rfl
theorem c120 : Tryz.prog.cellsOf 120 = 1 := by kernel_rfl
theorem c122 : Tryz.prog.cellsOf 122 = 20 := by kernel_rfl

def exsOf (z : Bool) : List Ex → Exs
  | [] => .nil z
  | e :: r => .cons e (exsOf z r)
theorem exsOf_len (z : Bool) : ∀ l, (exsOf z l).len = l.length
  | [] => rfl
  | e :: r => by simp [exsOf, Exs.len, exsOf_len z r]
theorem exsOf_cells (z : Bool) : ∀ l, (exsOf z l).cells = l.flatMap Ex.enc
  | [] => rfl
  | e :: r => by simp [exsOf, Exs.cells, exsOf_cells z r]
theorem exsOf_x (l : List Ex) : (exsOf false l).x = .vs l.length (l.flatMap Ex.enc) := by
  cases l with
  | nil => rfl
  | cons e r => simp [exsOf, Exs.x, Exs.ptr, exsOf_len, Exs.cells, exsOf_cells]
def smsOf (z : Bool) : List Sm → Sms
  | [] => .nil z
  | e :: r => .cons e (smsOf z r)
theorem smsOf_len (z : Bool) : ∀ l, (smsOf z l).len = l.length
  | [] => rfl
  | e :: r => by simp [smsOf, Sms.len, smsOf_len z r]
theorem smsOf_cells (z : Bool) : ∀ l, (smsOf z l).cells = l.flatMap Sm.enc
  | [] => rfl
  | e :: r => by simp [smsOf, Sms.cells, smsOf_cells z r]
theorem smsOf_x (l : List Sm) : (smsOf false l).x = .vs l.length (l.flatMap Sm.enc) := by
  cases l with
  | nil => rfl
  | cons e r => simp [smsOf, Sms.x, Sms.ptr, smsOf_len, Sms.cells, smsOf_cells]
theorem desCells_flat : ∀ l, desCells l = l.flatMap De.enc
  | [] => rfl
  | e :: r => by simp [desCells, desCells_flat r]
theorem desX_vsN (l : List De) : desX false l = .vs l.length (l.flatMap De.enc) := by
  cases l with
  | nil => rfl
  | cons e r => simp [desX, desCells_flat]

section
variable {H : Type} {enc : TypeId × Value → H} {W : World} {sp : Nat → Bool} {held : Bool}

theorem exsOf_sz (z : Bool) : ∀ (l : List Ex) (es : List (DataW H)), l.length = es.length → (∀ (i : Nat) a d, l[i]? = some a → es[i]? = some d → a.sz + 1 ≤ Rows.uptoBulk d) → (exsOf z l).sz ≤ Rows.uptoBulkAll es + 1
  | [], [], _, _ => by simp [exsOf, Exs.sz, Rows.uptoBulkAll]
  | [], _ :: _, h, _ => by simp at h
  | _ :: _, [], h, _ => by simp at h
  | a :: l, d :: es, h, hq => by
    have h0 := hq 0 a d rfl rfl
    have h1 := exsOf_sz z l es (by simpa using h) fun i b c hb hc => hq (i + 1) b c (by simpa using hb) (by simpa using hc)
    simp only [exsOf, Exs.sz, Rows.uptoBulkAll]
    omega
theorem smsOf_sz (z : Bool) : ∀ (l : List Sm) (es : List (DataW H)), l.length = es.length → (∀ (i : Nat) a d, l[i]? = some a → es[i]? = some d → a.sz + 1 ≤ Rows.uptoBulk d) → (smsOf z l).sz ≤ Rows.uptoBulkAll es + 1
  | [], [], _, _ => by simp [smsOf, Sms.sz, Rows.uptoBulkAll]
  | [], _ :: _, h, _ => by simp at h
  | _ :: _, [], h, _ => by simp at h
  | a :: l, d :: es, h, hq => by
    have h0 := hq 0 a d rfl rfl
    have h1 := smsOf_sz z l es (by simpa using h) fun i b c hb hc => hq (i + 1) b c (by simpa using hb) (by simpa using hc)
    simp only [smsOf, Sms.sz, Rows.uptoBulkAll]
    omega
theorem desSz_le : ∀ (l : List De) (es : List (DataW H)), l.length = es.length → (∀ (i : Nat) a d, l[i]? = some a → es[i]? = some d → a.sz + 1 ≤ Rows.uptoBulk d) → desSz l ≤ Rows.uptoBulkAll es + 1
  | [], [], _, _ => by simp [desSz, Rows.uptoBulkAll]
  | [], _ :: _, h, _ => by simp at h
  | _ :: _, [], h, _ => by simp at h
  | a :: l, d :: es, h, hq => by
    have h0 := hq 0 a d rfl rfl
    have h1 := desSz_le l es (by simpa using h) fun i b c hb hc => hq (i + 1) b c (by simpa using hb) (by simpa using hc)
    simp only [desSz, Rows.uptoBulkAll]
    omega

theorem rel_string {s : ByteArray} : rel (roW W) (.str s.data.toList) (.string s) := by simp [rel]

theorem cs_split {cs : List Value} {n o k : Nat} {c : List Value} (h : (cs.drop o).take k = c) (hn : n = o + k) : cs.drop o = c ++ cs.drop n := by
  subst hn h
  rw [← List.drop_drop, List.take_append_drop]

theorem relL_c1 {σ : Ctx} {x : XV} {v : Value} {xs : List XV} {vs : List Value} (h : rel σ x v) (hs : relL σ xs vs) : relL σ ([x] ++ xs) ([v] ++ vs) := relL_cons h hs

theorem exs_read {fuel : Nat} {cs : List Value} {x : DataW H × List MemPlace} (ih : ∀ n ds y, n < fuel → DataW.trod enc Tryz.prog W 0 sp held n 78 ds = some y → ∃ e : Ex, relL (roW W) e.enc ds ∧ e.enc.length = 7 ∧ e.sz + 1 ≤ Rows.uptoBulk y.1)
    (h : DataW.trod enc Tryz.prog W 0 sp held fuel 75 cs = some x) : ∃ l : Exs, relL (roW W) [l.x] cs ∧ l.sz ≤ Rows.uptoBulk x.1 := by
  rcases slice_rel Tryz.underlying75 h c78 (by omega) Ex.enc (fun e d => e.sz + 1 ≤ Rows.uptoBulk d) ih with ⟨rfl, h1⟩ | ⟨ys, es, rest, h1, h2, h3, h4⟩
  · exact ⟨.nil true, relL_one rfl, by rw [h1]; simp [Exs.sz, Rows.uptoBulk]⟩
  · refine ⟨exsOf false ys, by rw [exsOf_x]; exact h2, ?_⟩
    have := exsOf_sz false ys es h3 h4
    rw [h1]
    simp only [Rows.uptoBulk]
    omega

theorem ex_read : ∀ (fuel : Nat) (cs : List Value) (x : DataW H × List MemPlace), DataW.trod enc Tryz.prog W 0 sp held fuel 78 cs = some x → ∃ e : Ex, relL (roW W) e.enc cs ∧ e.enc.length = 7 ∧ e.sz + 1 ≤ Rows.uptoBulk x.1 := by
  intro fuel
  induction fuel using Nat.strongRecOn with
  | ind fuel ih =>
    intro cs x h
    obtain ⟨xs, n, rfl, rfl, hl, hxl, hf⟩ := DataW.trod_struct Tryz.underlying78 h
    match xs, hxl with
    | [x0, x1, x2, x3, x4, x5, x6], _ =>
      have f0 : DataW.trod enc Tryz.prog W 0 sp held n 76 ((cs.drop 0).take (Tryz.prog.cellsOf 76)) = some x0 := hf 0 _ rfl
      have f1 : DataW.trod enc Tryz.prog W 0 sp held n 3 ((cs.drop 1).take (Tryz.prog.cellsOf 3)) = some x1 := hf 1 _ rfl
      have f2 : DataW.trod enc Tryz.prog W 0 sp held n 4 ((cs.drop 2).take (Tryz.prog.cellsOf 4)) = some x2 := hf 2 _ rfl
      have f3 : DataW.trod enc Tryz.prog W 0 sp held n 21 ((cs.drop 3).take (Tryz.prog.cellsOf 21)) = some x3 := hf 3 _ rfl
      have f4 : DataW.trod enc Tryz.prog W 0 sp held n 23 ((cs.drop 4).take (Tryz.prog.cellsOf 23)) = some x4 := hf 4 _ rfl
      have f5 : DataW.trod enc Tryz.prog W 0 sp held n 9 ((cs.drop 5).take (Tryz.prog.cellsOf 9)) = some x5 := hf 5 _ rfl
      have f6 : DataW.trod enc Tryz.prog W 0 sp held n 75 ((cs.drop 6).take (Tryz.prog.cellsOf 75)) = some x6 := hf 6 _ rfl
      simp only [c76, c3, c4, c21, c23, c9, c75] at f0 f1 f2 f3 f4 f5 f6
      obtain ⟨n0, e0, rfl, _⟩ := DataW.trod_int Tryz.underlying76 f0
      obtain ⟨n1, e1, rfl, _⟩ := DataW.trod_int Tryz.underlying3 f1
      obtain ⟨n2, e2, rfl⟩ := DataW.trod_bool Tryz.underlying4 f2
      obtain ⟨n3, e3, rfl, _⟩ := DataW.trod_int Tryz.underlying21 f3
      obtain ⟨n4, e4, rfl, _⟩ := DataW.trod_int Tryz.underlying23 f4
      obtain ⟨n5, e5, rfl, _⟩ := DataW.trod_string Tryz.underlying9 f5
      obtain ⟨l, r6, hsz⟩ := exs_read (fun m ds y hm => ih m (by omega) ds y) f6
      rw [c78] at hl
      have hcs : cs = [.int .u8 n0] ++ ([.int .i64 n1] ++ ([.bool n2] ++ ([.int .i32 n3] ++ ([.int .u64 n4] ++ ([.string n5] ++ (cs.drop 6).take 1))))) := by
        have h6 := cs_split (n := 7) (c := (cs.drop 6).take 1) rfl rfl
        rw [List.drop_eq_nil_of_le (by omega : cs.length ≤ 7), List.append_nil] at h6
        have := cs_split (n := 1) e0 rfl
        rw [List.drop_zero, cs_split (n := 2) e1 rfl, cs_split (n := 3) e2 rfl, cs_split (n := 4) e3 rfl, cs_split (n := 5) e4 rfl, cs_split (n := 6) e5 rfl] at this
        rw [← h6]
        exact this
      refine ⟨.mk n0 n1 n2 n3 n4 n5.data.toList l, ?_, by simp [Ex.enc], ?_⟩
      · rw [hcs]
        exact relL_cons rfl (relL_cons rfl (relL_cons rfl (relL_cons rfl (relL_cons rfl (relL_cons rel_string r6)))))
      · simp only [Ex.sz, Rows.uptoBulk, Rows.uptoBulkAll, List.map_cons, List.map_nil]
        omega

theorem exs_read' {fuel : Nat} {cs : List Value} {x : DataW H × List MemPlace} (h : DataW.trod enc Tryz.prog W 0 sp held fuel 75 cs = some x) : ∃ l : Exs, relL (roW W) [l.x] cs ∧ l.sz ≤ Rows.uptoBulk x.1 :=
  exs_read (fun n ds y _ => ex_read n ds y) h

theorem sms_read {fuel : Nat} {cs : List Value} {x : DataW H × List MemPlace} (ih : ∀ n ds y, n < fuel → DataW.trod enc Tryz.prog W 0 sp held n 80 ds = some y → ∃ e : Sm, relL (roW W) e.enc ds ∧ e.enc.length = 15 ∧ e.sz + 1 ≤ Rows.uptoBulk y.1)
    (h : DataW.trod enc Tryz.prog W 0 sp held fuel 64 cs = some x) : ∃ l : Sms, relL (roW W) [l.x] cs ∧ l.sz ≤ Rows.uptoBulk x.1 := by
  rcases slice_rel Tryz.underlying64 h c80 (by omega) Sm.enc (fun e d => e.sz + 1 ≤ Rows.uptoBulk d) ih with ⟨rfl, h1⟩ | ⟨ys, es, rest, h1, h2, h3, h4⟩
  · exact ⟨.nil true, relL_one rfl, by rw [h1]; simp [Sms.sz, Rows.uptoBulk]⟩
  · refine ⟨smsOf false ys, by rw [smsOf_x]; exact h2, ?_⟩
    have := smsOf_sz false ys es h3 h4
    rw [h1]
    simp only [Rows.uptoBulk]
    omega

theorem sm_read : ∀ (fuel : Nat) (cs : List Value) (x : DataW H × List MemPlace), DataW.trod enc Tryz.prog W 0 sp held fuel 80 cs = some x → ∃ e : Sm, relL (roW W) e.enc cs ∧ e.enc.length = 15 ∧ e.sz + 1 ≤ Rows.uptoBulk x.1 := by
  intro fuel
  induction fuel using Nat.strongRecOn with
  | ind fuel ih =>
    intro cs x h
    obtain ⟨xs, n, rfl, rfl, hl, hxl, hf⟩ := DataW.trod_struct Tryz.underlying80 h
    match xs, hxl with
    | [x0, x1, x2, x3, x4, x5, x6, x7, x8], _ =>
      have f0 : DataW.trod enc Tryz.prog W 0 sp held n 74 ((cs.drop 0).take (Tryz.prog.cellsOf 74)) = some x0 := hf 0 _ rfl
      have f1 : DataW.trod enc Tryz.prog W 0 sp held n 3 ((cs.drop 1).take (Tryz.prog.cellsOf 3)) = some x1 := hf 1 _ rfl
      have f2 : DataW.trod enc Tryz.prog W 0 sp held n 9 ((cs.drop 2).take (Tryz.prog.cellsOf 9)) = some x2 := hf 2 _ rfl
      have f3 : DataW.trod enc Tryz.prog W 0 sp held n 75 ((cs.drop 3).take (Tryz.prog.cellsOf 75)) = some x3 := hf 3 _ rfl
      have f4 : DataW.trod enc Tryz.prog W 0 sp held n 78 ((cs.drop 4).take (Tryz.prog.cellsOf 78)) = some x4 := hf 4 _ rfl
      have f5 : DataW.trod enc Tryz.prog W 0 sp held n 21 ((cs.drop 11).take (Tryz.prog.cellsOf 21)) = some x5 := hf 5 _ rfl
      have f6 : DataW.trod enc Tryz.prog W 0 sp held n 21 ((cs.drop 12).take (Tryz.prog.cellsOf 21)) = some x6 := hf 6 _ rfl
      have f7 : DataW.trod enc Tryz.prog W 0 sp held n 64 ((cs.drop 13).take (Tryz.prog.cellsOf 64)) = some x7 := hf 7 _ rfl
      have f8 : DataW.trod enc Tryz.prog W 0 sp held n 64 ((cs.drop 14).take (Tryz.prog.cellsOf 64)) = some x8 := hf 8 _ rfl
      simp only [c74, c3, c9, c75, c78, c21, c64] at f0 f1 f2 f3 f4 f5 f6 f7 f8
      obtain ⟨n0, e0, rfl, _⟩ := DataW.trod_int Tryz.underlying74 f0
      obtain ⟨n1, e1, rfl, _⟩ := DataW.trod_int Tryz.underlying3 f1
      obtain ⟨n2, e2, rfl, _⟩ := DataW.trod_string Tryz.underlying9 f2
      obtain ⟨l3, r3, hz3⟩ := exs_read' f3
      obtain ⟨l4, r4, _, hz4⟩ := ex_read _ _ _ f4
      obtain ⟨n5, e5, rfl, _⟩ := DataW.trod_int Tryz.underlying21 f5
      obtain ⟨n6, e6, rfl, _⟩ := DataW.trod_int Tryz.underlying21 f6
      obtain ⟨l7, r7, hz7⟩ := sms_read (fun m ds y hm => ih m (by omega) ds y) f7
      obtain ⟨l8, r8, hz8⟩ := sms_read (fun m ds y hm => ih m (by omega) ds y) f8
      rw [c80] at hl
      have hcs : cs = [.int .u8 n0] ++ ([.int .i64 n1] ++ ([.string n2] ++ ((cs.drop 3).take 1 ++ ((cs.drop 4).take 7 ++ ([.int .i32 n5] ++ ([.int .i32 n6] ++ ((cs.drop 13).take 1 ++ (cs.drop 14).take 1))))))) := by
        have h8 := cs_split (n := 15) (c := (cs.drop 14).take 1) rfl rfl
        rw [List.drop_eq_nil_of_le (by omega : cs.length ≤ 15), List.append_nil] at h8
        have := cs_split (n := 1) e0 rfl
        rw [List.drop_zero, cs_split (n := 2) e1 rfl, cs_split (n := 3) e2 rfl, cs_split (o := 3) (k := 1) (n := 4) rfl rfl, cs_split (o := 4) (k := 7) (n := 11) rfl rfl, cs_split (n := 12) e5 rfl, cs_split (n := 13) e6 rfl, cs_split (o := 13) (k := 1) (n := 14) rfl rfl] at this
        rw [← h8]
        exact this
      refine ⟨.mk n0 n1 n2.data.toList l3 l4 n5 n6 l7 l8, ?_, Sm.enc_length _, ?_⟩
      · rw [hcs]
        have e : (Sm.mk n0 n1 n2.data.toList l3 l4 n5 n6 l7 l8).enc = [.int .u8 n0] ++ ([.int .i64 n1] ++ ([.str n2.data.toList] ++ ([l3.x] ++ (l4.enc ++ ([.int .i32 n5] ++ ([.int .i32 n6] ++ ([l7.x] ++ [l8.x]))))))) := by simp [Sm.enc, Sms.x]
        rw [e]
        exact relL_c1 rfl (relL_c1 rfl (relL_c1 rel_string (relL_append r3 (relL_append r4 (relL_c1 rfl (relL_c1 rfl (relL_append r7 r8)))))))
      · simp only [Sm.sz, Rows.uptoBulk, Rows.uptoBulkAll, List.map_cons, List.map_nil]
        omega

theorem sms_read' {fuel : Nat} {cs : List Value} {x : DataW H × List MemPlace} (h : DataW.trod enc Tryz.prog W 0 sp held fuel 64 cs = some x) : ∃ l : Sms, relL (roW W) [l.x] cs ∧ l.sz ≤ Rows.uptoBulk x.1 :=
  sms_read (fun n ds y _ => sm_read n ds y) h

theorem de_read (fuel : Nat) (cs : List Value) (x : DataW H × List MemPlace) (h : DataW.trod enc Tryz.prog W 0 sp held fuel 122 cs = some x) : ∃ e : De, relL (roW W) e.enc cs ∧ e.enc.length = 20 ∧ e.sz + 1 ≤ Rows.uptoBulk x.1 := by
  obtain ⟨xs, n, rfl, rfl, hl, hxl, hf⟩ := DataW.trod_struct Tryz.underlying122 h
  match xs, hxl with
  | [x0, x1, x2, x3, x4, x5, x6, x7], _ =>
    have f0 : DataW.trod enc Tryz.prog W 0 sp held n 3 ((cs.drop 0).take (Tryz.prog.cellsOf 3)) = some x0 := hf 0 _ rfl
    have f1 : DataW.trod enc Tryz.prog W 0 sp held n 4 ((cs.drop 1).take (Tryz.prog.cellsOf 4)) = some x1 := hf 1 _ rfl
    have f2 : DataW.trod enc Tryz.prog W 0 sp held n 9 ((cs.drop 2).take (Tryz.prog.cellsOf 9)) = some x2 := hf 2 _ rfl
    have f3 : DataW.trod enc Tryz.prog W 0 sp held n 120 ((cs.drop 3).take (Tryz.prog.cellsOf 120)) = some x3 := hf 3 _ rfl
    have f4 : DataW.trod enc Tryz.prog W 0 sp held n 3 ((cs.drop 4).take (Tryz.prog.cellsOf 3)) = some x4 := hf 4 _ rfl
    have f5 : DataW.trod enc Tryz.prog W 0 sp held n 4 ((cs.drop 5).take (Tryz.prog.cellsOf 4)) = some x5 := hf 5 _ rfl
    have f6 : DataW.trod enc Tryz.prog W 0 sp held n 78 ((cs.drop 6).take (Tryz.prog.cellsOf 78)) = some x6 := hf 6 _ rfl
    have f7 : DataW.trod enc Tryz.prog W 0 sp held n 78 ((cs.drop 13).take (Tryz.prog.cellsOf 78)) = some x7 := hf 7 _ rfl
    simp only [c3, c4, c9, c120, c78] at f0 f1 f2 f3 f4 f5 f6 f7
    obtain ⟨n0, e0, rfl, _⟩ := DataW.trod_int Tryz.underlying3 f0
    obtain ⟨n1, e1, rfl⟩ := DataW.trod_bool Tryz.underlying4 f1
    obtain ⟨n2, e2, rfl, _⟩ := DataW.trod_string Tryz.underlying9 f2
    obtain ⟨n3, e3, rfl, _⟩ := DataW.trod_int Tryz.underlying120 f3
    obtain ⟨n4, e4, rfl, _⟩ := DataW.trod_int Tryz.underlying3 f4
    obtain ⟨n5, e5, rfl⟩ := DataW.trod_bool Tryz.underlying4 f5
    obtain ⟨l6, r6, _, hz6⟩ := ex_read _ _ _ f6
    obtain ⟨l7, r7, _, hz7⟩ := ex_read _ _ _ f7
    rw [c122] at hl
    have hcs : cs = [.int .i64 n0] ++ ([.bool n1] ++ ([.string n2] ++ ([.int .u8 n3] ++ ([.int .i64 n4] ++ ([.bool n5] ++ ((cs.drop 6).take 7 ++ (cs.drop 13).take 7)))))) := by
      have h7 := cs_split (n := 20) (c := (cs.drop 13).take 7) rfl rfl
      rw [List.drop_eq_nil_of_le (by omega : cs.length ≤ 20), List.append_nil] at h7
      have := cs_split (n := 1) e0 rfl
      rw [List.drop_zero, cs_split (n := 2) e1 rfl, cs_split (n := 3) e2 rfl, cs_split (n := 4) e3 rfl, cs_split (n := 5) e4 rfl, cs_split (n := 6) e5 rfl, cs_split (o := 6) (k := 7) (n := 13) rfl rfl] at this
      rw [← h7]
      exact this
    refine ⟨⟨n0, n1, n2.data.toList, n3, n4, n5, l6, l7⟩, ?_, De.enc_length _, ?_⟩
    · rw [hcs]
      exact relL_cons rfl (relL_cons rfl (relL_cons rel_string (relL_cons rfl (relL_cons rfl (relL_cons rfl (relL_append (xs := l6.enc) (vs := (cs.drop 6).take 7) r6 r7))))))
    · simp only [De.sz, Rows.uptoBulk, Rows.uptoBulkAll, List.map_cons, List.map_nil]
      omega

/-- A PROGRAM IS READ. -/
theorem pr_read (fuel : Nat) (cs : List Value) (x : DataW H × List MemPlace) (h : DataW.trod enc Tryz.prog W 0 sp held fuel 66 cs = some x) : ∃ p : Pr, relL (roW W) p.enc cs ∧ p.sz ≤ Rows.uptoBulk x.1 := by
  obtain ⟨xs, n, rfl, rfl, hl, hxl, hf⟩ := DataW.trod_struct Tryz.underlying66 h
  match xs, hxl with
  | [x0, x1, x2, x3], _ =>
    have f0 : DataW.trod enc Tryz.prog W 0 sp held n 3 ((cs.drop 0).take (Tryz.prog.cellsOf 3)) = some x0 := hf 0 _ rfl
    have f1 : DataW.trod enc Tryz.prog W 0 sp held n 63 ((cs.drop 1).take (Tryz.prog.cellsOf 63)) = some x1 := hf 1 _ rfl
    have f2 : DataW.trod enc Tryz.prog W 0 sp held n 64 ((cs.drop 2).take (Tryz.prog.cellsOf 64)) = some x2 := hf 2 _ rfl
    have f3 : DataW.trod enc Tryz.prog W 0 sp held n 64 ((cs.drop 3).take (Tryz.prog.cellsOf 64)) = some x3 := hf 3 _ rfl
    simp only [c3, c63, c64] at f0 f1 f2 f3
    obtain ⟨n0, e0, rfl, _⟩ := DataW.trod_int Tryz.underlying3 f0
    obtain ⟨z, ds, r1, hz1⟩ : ∃ z ds, relL (roW W) [desX z ds] ((cs.drop 1).take 1) ∧ desSz ds ≤ Rows.uptoBulk x1.1 := by
      rcases slice_rel Tryz.underlying63 f1 c122 (by omega) De.enc (fun e d => e.sz + 1 ≤ Rows.uptoBulk d) (fun m ds y _ => de_read m ds y) with ⟨e1, h1⟩ | ⟨ys, es, rest, h1, h2, h3, h4⟩
      · refine ⟨true, [], by rw [e1]; exact relL_one rfl, by rw [h1]; simp [desSz, Rows.uptoBulk]⟩
      · refine ⟨false, ys, by rw [desX_vsN]; exact h2, ?_⟩
        have := desSz_le ys es h3 h4
        rw [h1]
        simp only [Rows.uptoBulk]
        omega
    obtain ⟨l2, r2, hz2⟩ := sms_read' f2
    obtain ⟨l3, r3, hz3⟩ := sms_read' f3
    rw [c66] at hl
    have hcs : cs = [.int .i64 n0] ++ ((cs.drop 1).take 1 ++ ((cs.drop 2).take 1 ++ (cs.drop 3).take 1)) := by
      have h3 := cs_split (n := 4) (c := (cs.drop 3).take 1) rfl rfl
      rw [List.drop_eq_nil_of_le (by omega : cs.length ≤ 4), List.append_nil] at h3
      have := cs_split (n := 1) e0 rfl
      rw [List.drop_zero, cs_split (o := 1) (k := 1) (n := 2) rfl rfl, cs_split (o := 2) (k := 1) (n := 3) rfl rfl] at this
      rw [← h3]
      exact this
    refine ⟨⟨n0, z, ds, l2, l3⟩, ?_, ?_⟩
    · rw [hcs]
      exact relL_cons rfl (relL_append (xs := [desX z ds]) (vs := (cs.drop 1).take 1) (ys := [l2.x, l3.x]) r1 (relL_append (xs := [l2.x]) (vs := (cs.drop 2).take 1) (ys := [l3.x]) r2 r3))
    · simp only [Pr.sz, Rows.uptoBulk, Rows.uptoBulkAll, List.map_cons, List.map_nil]
      omega
end
end Go.Proofs.YtnifjgdhgnmhmaaGreatDoor
namespace Go.Proofs.YtnifjgdhgnmhmaaGreatDoor
open Go Go.X Go.ChangeShapes Go.WideShapes
set_option maxRecDepth 100000

theorem mixed : Tryz.prog.follows .mixedOrders = true := by kernel_rfl
theorem kids : Kids Tryz.prog (· < Tryz.prog.types.size) := kids_rows (by kernel_rfl) (by kernel_rfl)
theorem full : ∀ t e, t < Tryz.prog.types.size → Tryz.prog.underlying t = some (.slice e) → 0 < Tryz.prog.cellsOf e := slices_full_of Tryz.prog (by kernel_rfl)

theorem lookF_mem : ∀ {l : List (Nat × XF)} {f : Nat} {x : XF}, lookF l f = some x → (f, x) ∈ l
  | [], _, _, h => by simp [lookF] at h
  | (g, y) :: r, f, x, h => by
    simp only [lookF] at h
    split at h
    · rename_i e
      subst e
      cases h
      exact List.mem_cons_self
    · exact List.mem_cons_of_mem _ (lookF_mem h)

theorem fnsTE : FnsOk Tryz.prog TE := by
  intro f xf h
  have hm := lookF_mem h
  simp only [tab, List.mem_cons, List.mem_nil_iff, or_false, Prod.mk.injEq] at hm
  rcases hm with ⟨rfl, rfl⟩ | ⟨rfl, rfl⟩ | ⟨rfl, rfl⟩ | ⟨rfl, rfl⟩ | ⟨rfl, rfl⟩ | ⟨rfl, rfl⟩ | ⟨rfl, rfl⟩ | ⟨rfl, rfl⟩ | ⟨rfl, rfl⟩ | ⟨rfl, rfl⟩ | ⟨rfl, rfl⟩ | ⟨rfl, rfl⟩ | ⟨rfl, rfl⟩ | ⟨rfl, rfl⟩ | ⟨rfl, rfl⟩ | ⟨rfl, rfl⟩ | ⟨rfl, rfl⟩ | ⟨rfl, rfl⟩ | ⟨rfl, rfl⟩ | ⟨rfl, rfl⟩ | ⟨rfl, rfl⟩ | ⟨rfl, rfl⟩ | ⟨rfl, rfl⟩ | ⟨rfl, rfl⟩ | ⟨rfl, rfl⟩ | ⟨rfl, rfl⟩ | ⟨rfl, rfl⟩ | ⟨rfl, rfl⟩ | ⟨rfl, rfl⟩ | ⟨rfl, rfl⟩ | ⟨rfl, rfl⟩ | ⟨rfl, rfl⟩ | ⟨rfl, rfl⟩ | ⟨rfl, rfl⟩ | ⟨rfl, rfl⟩ | ⟨rfl, rfl⟩ | ⟨rfl, rfl⟩ | ⟨rfl, rfl⟩ | ⟨rfl, rfl⟩ | ⟨rfl, rfl⟩ | ⟨rfl, rfl⟩ | ⟨rfl, rfl⟩ | ⟨rfl, rfl⟩ | ⟨rfl, rfl⟩ | ⟨rfl, rfl⟩ | ⟨rfl, rfl⟩ | ⟨rfl, rfl⟩ | ⟨rfl, rfl⟩
  · exact cf38
  · exact cf86
  · exact cf45
  · exact cf41
  · exact cf43
  · exact cf49
  · exact cf48
  · exact cf102
  · exact cf91
  · exact cf92
  · exact cf98
  · exact cf97
  · exact cf99
  · exact cf100
  · exact cf110
  · exact cf106
  · exact cf107
  · exact cf108
  · exact cf109
  · exact cf103
  · exact cf145
  · exact cf146
  · exact cf147
  · exact cf148
  · exact cf149
  · exact cf152
  · exact cf151
  · exact cf153
  · exact cf154
  · exact cf155
  · exact cf189
  · exact cf190
  · exact cf192
  · exact cf191
  · exact cf112
  · exact cf213
  · exact cf39
  · exact cf46
  · exact cf47
  · exact cf50
  · exact cf87
  · exact cf88
  · exact cf104
  · exact cf105
  · exact cf111
  · exact cf144
  · exact cf156
  · exact cf9

theorem oraTE : OraOk Tryz.prog TE := fun f args r _ h => by cases h

theorem gSigns : Tryz.prog.globalNamed "flyball/tree.signs" = some 0 := by kernel_rfl
theorem gSignsT : (Tryz.prog.globals[0]?).map (·.type) = some 228 := by kernel_rfl
theorem c228 : Tryz.prog.cellsOf 228 = 12 := by kernel_rfl

def signsB : List (List UInt8) := [[43], [45], [42], [47], [60], [60, 61], [61, 61], [33, 61], [62], [62, 61], [38, 38], [124, 124]]

theorem globTE {laid : List (String × DataW Unit)} {W : World} (h : laidMetH Tryz.prog laid W) (hf : (laid.filter fun x => x.1 == "flyball/tree.signs") = [("flyball/tree.signs", Rows.laid_flyball_tree_signs)]) : globOk TE (roW W) := by
  intro g cs hg
  have hg' : (if g = 0 then some signsX else none) = some cs := hg
  split at hg'
  · rename_i h0
    subst h0
    cases hg'
    exact glob_strs h "flyball/tree.signs" signsB hf gSigns gSignsT Tryz.underlying228 Tryz.underlying9 c9 c228
  · cases hg'

/-- THE WITNESS's WORLD. -/
noncomputable def laidWorld (os : Os) : World :=
  layAt (layAt (layAt (layAt (layAt (layAt (World.holding Tryz.prog os ⟨#[], #[], []⟩) 7 (litCells (Rows.laid_math_bits_deBruijn32tab (H := Unit)))) 8 (litCells (Rows.laid_math_bits_deBruijn64tab (H := Unit)))) 4 (litCells (Rows.laid_internal_strconv_uint64pow10 (H := Unit))))
    2 (litCells (Rows.laid_unicode_utf8_acceptRanges (H := Unit)))) 0 (litCells (Rows.laid_flyball_tree_signs (H := Unit)))) 1 (litCells Rows.laid_unicode_utf8_first)

def noProgram : Value := .agg #[.int .i64 0, .slice none 0 0, .slice none 0 0, .slice none 0 0]

theorem value_struct {W : World} {r : Reach} {base : Nat} {v : Value} (h : Value.okWide Tryz.prog W r base 66 v) : ∃ cs, v = .agg cs := by
  simp only [Value.okWide, Tryz.underlying66] at h
  obtain ⟨cs, rfl, _⟩ := h
  exact ⟨cs, rfl⟩

theorem pr_arg {H : Type} {enc : TypeId × Value → H} {W : World} {sp : Nat → Bool} {held : Bool} {r : Reach} {base : Nat} {v : Value} {d : DataW H} {p : List MemPlace} (h : Value.okWide Tryz.prog W r base 66 v) (hd : DataW.Trod enc Tryz.prog W 0 sp held 66 v d p) :
    ∃ q : Pr, rel (roW W) (.agg q.enc) v ∧ q.sz ≤ Rows.uptoBulk d := by
  obtain ⟨cs, rfl⟩ := value_struct h
  obtain ⟨n, hn⟩ := hd
  obtain ⟨q, h1, h2⟩ := pr_read n _ _ hn
  exact ⟨q, ⟨cs, rfl, h1⟩, h2⟩

end Go.Proofs.YtnifjgdhgnmhmaaGreatDoor
