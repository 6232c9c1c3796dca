/- Each term is the function, compiled. The environment of the tree law. -/
import Derived.Test.YtnifjgdhgnmhmaaGreatDoorM4
import Derived.Test.YtnifjgdhgnmhmaaGreatDoorChecked
import Derived.KernelRfl
namespace Go.Proofs.YtnifjgdhgnmhmaaGreatDoor
open Go Go.X
set_option maxRecDepth 100000
theorem cf38 : cFunc Tryz.prog 38 = some f38 := by kernel_rfl
theorem cf86 : cFunc Tryz.prog 86 = some f86 := by kernel_rfl
theorem cf45 : cFunc Tryz.prog 45 = some f45 := by kernel_rfl
theorem cf41 : cFunc Tryz.prog 41 = some f41 := by kernel_rfl
theorem cf43 : cFunc Tryz.prog 43 = some f43 := by kernel_rfl
theorem cf49 : cFunc Tryz.prog 49 = some f49 := by kernel_rfl
theorem cf48 : cFunc Tryz.prog 48 = some f48 := by kernel_rfl
theorem cf102 : cFunc Tryz.prog 102 = some f102 := by kernel_rfl
theorem cf91 : cFunc Tryz.prog 91 = some f91 := by kernel_rfl
theorem cf92 : cFunc Tryz.prog 92 = some f92 := by kernel_rfl
theorem cf98 : cFunc Tryz.prog 98 = some f98 := by kernel_rfl
theorem cf97 : cFunc Tryz.prog 97 = some f97 := by kernel_rfl
theorem cf99 : cFunc Tryz.prog 99 = some f99 := by kernel_rfl
theorem cf100 : cFunc Tryz.prog 100 = some f100 := by kernel_rfl
theorem cf110 : cFunc Tryz.prog 110 = some f110 := by kernel_rfl
theorem cf106 : cFunc Tryz.prog 106 = some f106 := by kernel_rfl
theorem cf107 : cFunc Tryz.prog 107 = some f107 := by kernel_rfl
theorem cf108 : cFunc Tryz.prog 108 = some f108 := by kernel_rfl
theorem cf109 : cFunc Tryz.prog 109 = some f109 := by kernel_rfl
theorem cf103 : cFunc Tryz.prog 103 = some f103 := by kernel_rfl
theorem cf145 : cFunc Tryz.prog 145 = some f145 := by kernel_rfl
theorem cf146 : cFunc Tryz.prog 146 = some f146 := by kernel_rfl
theorem cf147 : cFunc Tryz.prog 147 = some f147 := by kernel_rfl
theorem cf148 : cFunc Tryz.prog 148 = some f148 := by kernel_rfl
theorem cf149 : cFunc Tryz.prog 149 = some f149 := by kernel_rfl
theorem cf152 : cFunc Tryz.prog 152 = some f152 := by kernel_rfl
theorem cf151 : cFunc Tryz.prog 151 = some f151 := by kernel_rfl
theorem cf153 : cFunc Tryz.prog 153 = some f153 := by kernel_rfl
theorem cf154 : cFunc Tryz.prog 154 = some f154 := by kernel_rfl
theorem cf155 : cFunc Tryz.prog 155 = some f155 := by kernel_rfl
theorem cf189 : cFunc Tryz.prog 189 = some f189 := by kernel_rfl
theorem cf190 : cFunc Tryz.prog 190 = some f190 := by kernel_rfl
theorem cf192 : cFunc Tryz.prog 192 = some f192 := by kernel_rfl
theorem cf191 : cFunc Tryz.prog 191 = some f191 := by kernel_rfl
theorem cf112 : cFunc Tryz.prog 112 = some f112 := by kernel_rfl
theorem cf213 : cFunc Tryz.prog 213 = some f213 := by kernel_rfl
theorem cf39 : cFunc Tryz.prog 39 = some f39 := by kernel_rfl
theorem cf46 : cFunc Tryz.prog 46 = some f46 := by kernel_rfl
theorem cf47 : cFunc Tryz.prog 47 = some f47 := by kernel_rfl
theorem cf50 : cFunc Tryz.prog 50 = some f50 := by kernel_rfl
theorem cf87 : cFunc Tryz.prog 87 = some f87 := by kernel_rfl
theorem cf88 : cFunc Tryz.prog 88 = some f88 := by kernel_rfl
theorem cf104 : cFunc Tryz.prog 104 = some f104 := by kernel_rfl
theorem cf105 : cFunc Tryz.prog 105 = some f105 := by kernel_rfl
theorem cf111 : cFunc Tryz.prog 111 = some f111 := by kernel_rfl
theorem cf144 : cFunc Tryz.prog 144 = some f144 := by kernel_rfl
theorem cf156 : cFunc Tryz.prog 156 = some f156 := by kernel_rfl
theorem cf9 : cFunc Tryz.prog 9 = some f9 := by kernel_rfl
end Go.Proofs.YtnifjgdhgnmhmaaGreatDoor
namespace Go.Proofs.YtnifjgdhgnmhmaaGreatDoor
open Go Go.X

def tab : List (Nat × XF) := [(38, f38), (86, f86), (45, f45), (41, f41), (43, f43), (49, f49), (48, f48), (102, f102), (91, f91), (92, f92), (98, f98), (97, f97), (99, f99), (100, f100), (110, f110), (106, f106), (107, f107), (108, f108), (109, f109), (103, f103), (145, f145), (146, f146), (147, f147), (148, f148), (149, f149), (152, f152), (151, f151), (153, f153), (154, f154), (155, f155), (189, f189), (190, f190), (192, f192), (191, f191), (112, f112), (213, f213), (39, f39), (46, f46), (47, f47), (50, f50), (87, f87), (88, f88), (104, f104), (105, f105), (111, f111), (144, f144), (156, f156), (9, f9)]
def lookF : List (Nat × XF) → Nat → Option XF
  | [], _ => none
  | (g, x) :: r, f => if g = f then some x else lookF r f
def isoL : List Nat := [38, 86, 45, 41, 43, 49, 48, 98, 110, 106, 107, 108, 109, 103, 145, 147, 148, 152, 153, 190, 192, 112, 213, 39, 46, 47, 50, 87, 88, 104, 105, 111, 144, 156, 9]
def signsX : List XV := [.str [43], .str [45], .str [42], .str [47], .str [60], .str [60, 61], .str [61, 61], .str [33, 61], .str [62], .str [62, 61], .str [38, 38], .str [124, 124]]
def TE : Env := { fns := lookF tab, iso := fun f => isoL.contains f, fz := fun _ => true, ora := fun _ _ => none, glob := fun g => if g = 0 then some signsX else none }

set_option maxRecDepth 100000
theorem works_true : callN TE 400 38 [] [] = some (.ret (.bool true) []) := by kernel_rfl
end Go.Proofs.YtnifjgdhgnmhmaaGreatDoor
