/- The codes are the given program's (written by program: mkq.py). Conditions: none. -/
import Derived.Test.YtjjcfcbhelecgaaGreatAbsQ
import Derived.Test.YtjjcfcbhelecgaaGreatProg
set_option maxRecDepth 100000
namespace Go.Abs
open Go.Proofs
theorem k5 : compFunc Tryz.prog (modesOf []) (fun _ => []) 5 = some c5 := by kernel_rfl
theorem k6 : compFunc Tryz.prog (modesOf []) (fun _ => []) 6 = some c6 := by kernel_rfl
theorem k7 : compFunc Tryz.prog (modesOf []) (fun _ => []) 7 = some c7 := by kernel_rfl
theorem k25 : compFunc Tryz.prog (modesOf []) (fun _ => [[1, 11, 12, 13]]) 25 = some c25 := by kernel_rfl
theorem k26 : compFunc Tryz.prog (modesOf []) (fun _ => [[1, 6, 7, 8]]) 26 = some c26 := by kernel_rfl
theorem k27 : compFunc Tryz.prog (modesOf []) (fun _ => []) 27 = some c27 := by kernel_rfl
theorem k28 : compFunc Tryz.prog (modesOf []) (fun _ => []) 28 = some c28 := by kernel_rfl
theorem k29 : compFunc Tryz.prog (modesOf []) (fun _ => []) 29 = some c29 := by kernel_rfl
theorem k30 : compFunc Tryz.prog (modesOf []) (fun _ => []) 30 = some c30 := by kernel_rfl
theorem k31 : compFunc Tryz.prog (modesOf []) (fun _ => []) 31 = some c31 := by kernel_rfl
theorem k32 : compFunc Tryz.prog (modesOf []) (fun _ => []) 32 = some c32 := by kernel_rfl
theorem k33 : compFunc Tryz.prog (modesOf []) (fun _ => []) 33 = some c33 := by kernel_rfl
theorem k34 : compFunc Tryz.prog (modesOf []) (fun _ => []) 34 = some c34 := by kernel_rfl
theorem k35 : compFunc Tryz.prog (modesOf []) (fun _ => []) 35 = some c35 := by kernel_rfl
theorem k36 : compFunc Tryz.prog (modesOf []) (fun _ => [[1, 3, 95, 96, 97]]) 36 = some c36 := by kernel_rfl
theorem k37 : compFunc Tryz.prog (modesOf []) (fun _ => [[0, 1, 12, 13]]) 37 = some c37 := by kernel_rfl
theorem k52 : compFunc Tryz.prog (modesOf []) (fun _ => []) 52 = some c52 := by kernel_rfl
theorem k66 : compFunc Tryz.prog (modesOf []) (fun _ => []) 66 = some c66 := by kernel_rfl
theorem k72 : compFunc Tryz.prog (modesOf []) (fun _ => []) 72 = some c72 := by kernel_rfl
theorem k73 : compFunc Tryz.prog (modesOf []) (fun _ => []) 73 = some c73 := by kernel_rfl
theorem k74 : compFunc Tryz.prog (modesOf []) (fun _ => []) 74 = some c74 := by kernel_rfl
theorem k75 : compFunc Tryz.prog (modesOf []) (fun _ => []) 75 = some c75 := by kernel_rfl
theorem k76 : compFunc Tryz.prog (modesOf []) (fun _ => []) 76 = some c76 := by kernel_rfl
theorem k77 : compFunc Tryz.prog (modesOf []) (fun _ => []) 77 = some c77 := by kernel_rfl
theorem k78 : compFunc Tryz.prog (modesOf []) (fun _ => []) 78 = some c78 := by kernel_rfl
theorem k79 : compFunc Tryz.prog (modesOf []) (fun _ => []) 79 = some c79 := by kernel_rfl
theorem k80 : compFunc Tryz.prog (modesOf []) (fun _ => []) 80 = some c80 := by kernel_rfl
theorem k81 : compFunc Tryz.prog (modesOf []) (fun _ => []) 81 = some c81 := by kernel_rfl
theorem k82 : compFunc Tryz.prog (modesOf []) (fun _ => []) 82 = some c82 := by kernel_rfl
theorem k83 : compFunc Tryz.prog (modesOf []) (fun _ => []) 83 = some c83 := by kernel_rfl
theorem k99 : compFunc Tryz.prog (modesOf []) (fun _ => []) 99 = some c99 := by kernel_rfl
theorem k104 : compFunc Tryz.prog (modesOf []) (fun _ => []) 104 = some c104 := by kernel_rfl
theorem k110 : compFunc Tryz.prog (modesOf []) (fun _ => []) 110 = some c110 := by kernel_rfl
theorem k143 : compFunc Tryz.prog (modesOf []) (fun _ => [[0, 1, 7, 8]]) 143 = some c143 := by kernel_rfl
theorem k145 : compFunc Tryz.prog (modesOf []) (fun _ => []) 145 = some c145 := by kernel_rfl
theorem k151 : compFunc Tryz.prog (modesOf []) (fun _ => [[0, 1, 7, 8]]) 151 = some c151 := by kernel_rfl
theorem k152 : compFunc Tryz.prog (modesOf []) (fun _ => []) 152 = some c152 := by kernel_rfl
theorem k153 : compFunc Tryz.prog (modesOf []) (fun _ => []) 153 = some c153 := by kernel_rfl
theorem k154 : compFunc Tryz.prog (modesOf []) (fun _ => []) 154 = some c154 := by kernel_rfl
theorem k155 : compFunc Tryz.prog (modesOf []) (fun _ => []) 155 = some c155 := by kernel_rfl
theorem k156 : compFunc Tryz.prog (modesOf []) (fun _ => [[0, 1, 2, 8, 22, 23], [8, 10, 11]]) 156 = some c156 := by kernel_rfl
theorem k157 : compFunc Tryz.prog (modesOf []) (fun _ => [[0, 1, 2, 8, 21, 22], [1, 2, 8, 10]]) 157 = some c157 := by kernel_rfl
theorem k158 : compFunc Tryz.prog (modesOf []) (fun _ => [[0, 1, 3, 28, 29, 30], [1, 48, 49, 50]]) 158 = some c158 := by kernel_rfl
theorem k159 : compFunc Tryz.prog (modesOf []) (fun _ => [[0, 3, 26, 27, 28]]) 159 = some c159 := by kernel_rfl
theorem k160 : compFunc Tryz.prog (modesOf [(1, 1, .thaw)]) (fun _ => [[0, 2, 23, 24, 25]]) 160 = some c160 := by kernel_rfl
theorem k209 : compFunc Tryz.prog (modesOf []) (fun _ => [[0, 1, 7, 8]]) 209 = some c209 := by kernel_rfl
theorem k211 : compFunc Tryz.prog (modesOf []) (fun _ => [[5, 9, 10, 11]]) 211 = some c211 := by kernel_rfl
theorem k212 : compFunc Tryz.prog (modesOf []) (fun _ => []) 212 = some c212 := by kernel_rfl
theorem k213 : compFunc Tryz.prog (modesOf []) (fun _ => []) 213 = some c213 := by kernel_rfl
theorem k214 : compFunc Tryz.prog (modesOf []) (fun _ => []) 214 = some c214 := by kernel_rfl
theorem k252 : compFunc Tryz.prog (modesOf []) (fun _ => [[5, 9, 10, 11]]) 252 = some c252 := by kernel_rfl
theorem k359 : compFunc Tryz.prog (modesOf [(1, 3, .thaw)]) (fun _ => []) 359 = some c359 := by kernel_rfl
theorem k360 : compFunc Tryz.prog (modesOf [(1, 5, .thaw)]) (fun _ => []) 360 = some c360 := by kernel_rfl
theorem k363 : compFunc Tryz.prog (modesOf []) (fun _ => []) 363 = some c363 := by kernel_rfl
theorem k364 : compFunc Tryz.prog (modesOf [(1, 1, .thaw)]) (fun _ => [[0, 2, 9, 24, 25, 26]]) 364 = some c364 := by kernel_rfl
theorem k385 : compFunc Tryz.prog (modesOf [(1, 6, .thaw)]) (fun _ => []) 385 = some c385 := by kernel_rfl
theorem k386 : compFunc Tryz.prog (modesOf [(1, 8, .thaw)]) (fun _ => []) 386 = some c386 := by kernel_rfl
theorem k389 : compFunc Tryz.prog (modesOf []) (fun _ => []) 389 = some c389 := by kernel_rfl
theorem k390 : compFunc Tryz.prog (modesOf [(1, 2, .thaw)]) (fun _ => []) 390 = some c390 := by kernel_rfl
theorem k392 : compFunc Tryz.prog (modesOf []) (fun _ => []) 392 = some c392 := by kernel_rfl
theorem k393 : compFunc Tryz.prog (modesOf []) (fun _ => []) 393 = some c393 := by kernel_rfl
theorem k394 : compFunc Tryz.prog (modesOf []) (fun _ => []) 394 = some c394 := by kernel_rfl
theorem k412 : compFunc Tryz.prog (modesOf [(1, 6, .thaw)]) (fun _ => []) 412 = some c412 := by kernel_rfl
theorem k413 : compFunc Tryz.prog (modesOf [(1, 8, .thaw)]) (fun _ => []) 413 = some c413 := by kernel_rfl
theorem k416 : compFunc Tryz.prog (modesOf []) (fun _ => []) 416 = some c416 := by kernel_rfl
theorem k417 : compFunc Tryz.prog (modesOf [(1, 2, .thaw)]) (fun _ => []) 417 = some c417 := by kernel_rfl
theorem k419 : compFunc Tryz.prog (modesOf []) (fun _ => []) 419 = some c419 := by kernel_rfl
theorem k420 : compFunc Tryz.prog (modesOf []) (fun _ => []) 420 = some c420 := by kernel_rfl
theorem codes_ok : ∀ x ∈ codes, ∃ md lv, compFunc Tryz.prog md lv x.1 = some x.2 := by
  intro x hx
  simp only [codes, List.mem_cons, List.not_mem_nil, or_false] at hx
  rcases hx with rfl | rfl | rfl | rfl | rfl | rfl | rfl | rfl | rfl | rfl | rfl | rfl | rfl | rfl | rfl | rfl | rfl | rfl | rfl | rfl | rfl | rfl | rfl | rfl | rfl | rfl | rfl | rfl | rfl | rfl | rfl | rfl | rfl | rfl | rfl | rfl | rfl | rfl | rfl | rfl | rfl | rfl | rfl | rfl | rfl | rfl | rfl | rfl | rfl | rfl | rfl | rfl | rfl | rfl | rfl | rfl | rfl | rfl | rfl | rfl | rfl | rfl | rfl | rfl | rfl | rfl | rfl | rfl
  · exact ⟨_, _, k5⟩
  · exact ⟨_, _, k6⟩
  · exact ⟨_, _, k7⟩
  · exact ⟨_, _, k25⟩
  · exact ⟨_, _, k26⟩
  · exact ⟨_, _, k27⟩
  · exact ⟨_, _, k28⟩
  · exact ⟨_, _, k29⟩
  · exact ⟨_, _, k30⟩
  · exact ⟨_, _, k31⟩
  · exact ⟨_, _, k32⟩
  · exact ⟨_, _, k33⟩
  · exact ⟨_, _, k34⟩
  · exact ⟨_, _, k35⟩
  · exact ⟨_, _, k36⟩
  · exact ⟨_, _, k37⟩
  · exact ⟨_, _, k52⟩
  · exact ⟨_, _, k66⟩
  · exact ⟨_, _, k72⟩
  · exact ⟨_, _, k73⟩
  · exact ⟨_, _, k74⟩
  · exact ⟨_, _, k75⟩
  · exact ⟨_, _, k76⟩
  · exact ⟨_, _, k77⟩
  · exact ⟨_, _, k78⟩
  · exact ⟨_, _, k79⟩
  · exact ⟨_, _, k80⟩
  · exact ⟨_, _, k81⟩
  · exact ⟨_, _, k82⟩
  · exact ⟨_, _, k83⟩
  · exact ⟨_, _, k99⟩
  · exact ⟨_, _, k104⟩
  · exact ⟨_, _, k110⟩
  · exact ⟨_, _, k143⟩
  · exact ⟨_, _, k145⟩
  · exact ⟨_, _, k151⟩
  · exact ⟨_, _, k152⟩
  · exact ⟨_, _, k153⟩
  · exact ⟨_, _, k154⟩
  · exact ⟨_, _, k155⟩
  · exact ⟨_, _, k156⟩
  · exact ⟨_, _, k157⟩
  · exact ⟨_, _, k158⟩
  · exact ⟨_, _, k159⟩
  · exact ⟨_, _, k160⟩
  · exact ⟨_, _, k209⟩
  · exact ⟨_, _, k211⟩
  · exact ⟨_, _, k212⟩
  · exact ⟨_, _, k213⟩
  · exact ⟨_, _, k214⟩
  · exact ⟨_, _, k252⟩
  · exact ⟨_, _, k359⟩
  · exact ⟨_, _, k360⟩
  · exact ⟨_, _, k363⟩
  · exact ⟨_, _, k364⟩
  · exact ⟨_, _, k385⟩
  · exact ⟨_, _, k386⟩
  · exact ⟨_, _, k389⟩
  · exact ⟨_, _, k390⟩
  · exact ⟨_, _, k392⟩
  · exact ⟨_, _, k393⟩
  · exact ⟨_, _, k394⟩
  · exact ⟨_, _, k412⟩
  · exact ⟨_, _, k413⟩
  · exact ⟨_, _, k416⟩
  · exact ⟨_, _, k417⟩
  · exact ⟨_, _, k419⟩
  · exact ⟨_, _, k420⟩
theorem Q_ok : Q.Ok Tryz.prog where
  orders := by kernel_rfl
  prim := fun f p h => by cases h
  code := fun f F h => codes_ok (f, F) (look_mem h)
end Go.Abs
