/-
  What the types of this cut are, for the symbolic heap. No condition.
-/
import Derived.Test.YtnbpjccacmpnoaaShV
import Derived.Test.YtnbpjccacmpnoaaChecked
namespace Go.Proofs.Ytnbpjccacmpnoaa
set_option linter.unusedVariables false
set_option linter.unusedSimpArgs false
open Go Go.SH
theorem hm : Try.prog.follows .mixedOrders = true := Try.checked.mixed
theorem ti1 : tiOf Try.prog 1 = ⟨.func, 1, 8, [.raw .nilFunc], []⟩ := by kernel_rfl
theorem ti2 : tiOf Try.prog 2 = ⟨.int .i64, 1, 8, [.int .i64 0], []⟩ := by kernel_rfl
theorem ti3 : tiOf Try.prog 3 = ⟨.int .i64, 1, 8, [.int .i64 0], []⟩ := by kernel_rfl
theorem ti4 : tiOf Try.prog 4 = ⟨.bool, 1, 1, [.bool false], []⟩ := by kernel_rfl
theorem ti5 : tiOf Try.prog 5 = ⟨.int .u8, 1, 1, [.int .u8 0], []⟩ := by kernel_rfl
theorem ti6 : tiOf Try.prog 6 = ⟨.int .u8, 1, 1, [.int .u8 0], []⟩ := by kernel_rfl
theorem ti7 : tiOf Try.prog 7 = ⟨.struct [(0, 2, 1), (1, 3, 1), (2, 4, 1), (3, 6, 1)], 4, 24, [.int .i64 0, .int .i64 0, .bool false, .int .u8 0], [(0, .int .i64), (1, .int .i64), (2, .bool), (3, .int .u8)]⟩ := by kernel_rfl
theorem ti8 : tiOf Try.prog 8 = ⟨.struct [(0, 2, 1), (1, 3, 1), (2, 4, 1), (3, 6, 1)], 4, 24, [.int .i64 0, .int .i64 0, .bool false, .int .u8 0], [(0, .int .i64), (1, .int .i64), (2, .bool), (3, .int .u8)]⟩ := by kernel_rfl
theorem ti9 : tiOf Try.prog 9 = ⟨.str, 1, 16, [.str []], []⟩ := by kernel_rfl
theorem ti10 : tiOf Try.prog 10 = ⟨.str, 1, 16, [.str []], []⟩ := by kernel_rfl
theorem ti11 : tiOf Try.prog 11 = ⟨.str, 1, 16, [.str []], []⟩ := by kernel_rfl
theorem ti12 : tiOf Try.prog 12 = ⟨.int .u64, 1, 8, [.int .u64 0], []⟩ := by kernel_rfl
theorem ti13 : tiOf Try.prog 13 = ⟨.struct [(0, 9, 1), (1, 12, 1)], 2, 24, [.str [], .int .u64 0], []⟩ := by kernel_rfl
theorem ti14 : tiOf Try.prog 14 = ⟨.struct [(0, 9, 1), (1, 12, 1)], 2, 24, [.str [], .int .u64 0], []⟩ := by kernel_rfl
theorem ti15 : tiOf Try.prog 15 = ⟨.ptr 69, 1, 8, [.raw (.pointer none)], []⟩ := by kernel_rfl
theorem ti16 : tiOf Try.prog 16 = ⟨.ptr 72, 1, 8, [.raw (.pointer none)], []⟩ := by kernel_rfl
theorem ti17 : tiOf Try.prog 17 = ⟨.ptr 81, 1, 8, [.raw (.pointer none)], []⟩ := by kernel_rfl
theorem ti18 : tiOf Try.prog 18 = ⟨.struct [(0, 17, 1)], 1, 8, [.raw (.pointer none)], []⟩ := by kernel_rfl
theorem ti19 : tiOf Try.prog 19 = ⟨.struct [(0, 17, 1)], 1, 8, [.raw (.pointer none)], []⟩ := by kernel_rfl
theorem ti21 : tiOf Try.prog 21 = ⟨.int .i32, 1, 4, [.int .i32 0], []⟩ := by kernel_rfl
theorem ti22 : tiOf Try.prog 22 = ⟨.slice 3, 1, 24, [.raw (.slice none 0 0)], []⟩ := by kernel_rfl
theorem ti23 : tiOf Try.prog 23 = ⟨.slice 22, 1, 24, [.raw (.slice none 0 0)], []⟩ := by kernel_rfl
theorem ti24 : tiOf Try.prog 24 = ⟨.struct [(0, 22, 1), (1, 22, 1), (2, 23, 1)], 3, 72, [.raw (.slice none 0 0), .raw (.slice none 0 0), .raw (.slice none 0 0)], []⟩ := by kernel_rfl
theorem ti25 : tiOf Try.prog 25 = ⟨.struct [(0, 22, 1), (1, 22, 1), (2, 23, 1)], 3, 72, [.raw (.slice none 0 0), .raw (.slice none 0 0), .raw (.slice none 0 0)], []⟩ := by kernel_rfl
theorem ti26 : tiOf Try.prog 26 = ⟨.slice 4, 1, 24, [.raw (.slice none 0 0)], []⟩ := by kernel_rfl
theorem ti27 : tiOf Try.prog 27 = ⟨.func, 1, 8, [.raw .nilFunc], []⟩ := by kernel_rfl
theorem ti28 : tiOf Try.prog 28 = ⟨.func, 1, 8, [.raw .nilFunc], []⟩ := by kernel_rfl
theorem ti30 : tiOf Try.prog 30 = ⟨.func, 1, 8, [.raw .nilFunc], []⟩ := by kernel_rfl
theorem ti31 : tiOf Try.prog 31 = ⟨.func, 1, 8, [.raw .nilFunc], []⟩ := by kernel_rfl
theorem ti32 : tiOf Try.prog 32 = ⟨.func, 1, 8, [.raw .nilFunc], []⟩ := by kernel_rfl
theorem ti33 : tiOf Try.prog 33 = ⟨.func, 1, 8, [.raw .nilFunc], []⟩ := by kernel_rfl
theorem ti34 : tiOf Try.prog 34 = ⟨.func, 1, 8, [.raw .nilFunc], []⟩ := by kernel_rfl
theorem ti35 : tiOf Try.prog 35 = ⟨.func, 1, 8, [.raw .nilFunc], []⟩ := by kernel_rfl
theorem ti36 : tiOf Try.prog 36 = ⟨.func, 1, 8, [.raw .nilFunc], []⟩ := by kernel_rfl
theorem ti37 : tiOf Try.prog 37 = ⟨.func, 1, 8, [.raw .nilFunc], []⟩ := by kernel_rfl
theorem ti38 : tiOf Try.prog 38 = ⟨.func, 1, 8, [.raw .nilFunc], []⟩ := by kernel_rfl
theorem ti40 : tiOf Try.prog 40 = ⟨.func, 1, 8, [.raw .nilFunc], []⟩ := by kernel_rfl
theorem ti41 : tiOf Try.prog 41 = ⟨.func, 1, 8, [.raw .nilFunc], []⟩ := by kernel_rfl
theorem ti42 : tiOf Try.prog 42 = ⟨.func, 1, 8, [.raw .nilFunc], []⟩ := by kernel_rfl
theorem ti43 : tiOf Try.prog 43 = ⟨.struct [(0, 25, 3), (3, 23, 1)], 4, 96, [.raw (.slice none 0 0), .raw (.slice none 0 0), .raw (.slice none 0 0), .raw (.slice none 0 0)], []⟩ := by kernel_rfl
theorem ti44 : tiOf Try.prog 44 = ⟨.struct [(0, 25, 3), (3, 23, 1)], 4, 96, [.raw (.slice none 0 0), .raw (.slice none 0 0), .raw (.slice none 0 0), .raw (.slice none 0 0)], []⟩ := by kernel_rfl
theorem ti46 : tiOf Try.prog 46 = ⟨.func, 1, 8, [.raw .nilFunc], []⟩ := by kernel_rfl
theorem ti47 : tiOf Try.prog 47 = ⟨.func, 1, 8, [.raw .nilFunc], []⟩ := by kernel_rfl
theorem ti48 : tiOf Try.prog 48 = ⟨.func, 1, 8, [.raw .nilFunc], []⟩ := by kernel_rfl
theorem ti49 : tiOf Try.prog 49 = ⟨.map 3 3, 1, 8, [.raw (.map none)], []⟩ := by kernel_rfl
theorem ti50 : tiOf Try.prog 50 = ⟨.func, 1, 8, [.raw .nilFunc], []⟩ := by kernel_rfl
theorem ti51 : tiOf Try.prog 51 = ⟨.func, 1, 8, [.raw .nilFunc], []⟩ := by kernel_rfl
theorem ti52 : tiOf Try.prog 52 = ⟨.func, 1, 8, [.raw .nilFunc], []⟩ := by kernel_rfl
theorem ti53 : tiOf Try.prog 53 = ⟨.func, 1, 8, [.raw .nilFunc], []⟩ := by kernel_rfl
theorem ti54 : tiOf Try.prog 54 = ⟨.func, 1, 8, [.raw .nilFunc], []⟩ := by kernel_rfl
theorem ti55 : tiOf Try.prog 55 = ⟨.array 2 53, 2, 16, [.raw .nilFunc, .raw .nilFunc], []⟩ := by kernel_rfl
theorem ti56 : tiOf Try.prog 56 = ⟨.struct [(0, 22, 1)], 1, 24, [.raw (.slice none 0 0)], []⟩ := by kernel_rfl
theorem ti57 : tiOf Try.prog 57 = ⟨.struct [(0, 22, 1)], 1, 24, [.raw (.slice none 0 0)], []⟩ := by kernel_rfl
theorem ti58 : tiOf Try.prog 58 = ⟨.func, 1, 8, [.raw .nilFunc], []⟩ := by kernel_rfl
theorem ti60 : tiOf Try.prog 60 = ⟨.func, 1, 8, [.raw .nilFunc], []⟩ := by kernel_rfl
theorem ti61 : tiOf Try.prog 61 = ⟨.func, 1, 8, [.raw .nilFunc], []⟩ := by kernel_rfl
theorem ti62 : tiOf Try.prog 62 = ⟨.func, 1, 8, [.raw .nilFunc], []⟩ := by kernel_rfl
theorem ti63 : tiOf Try.prog 63 = ⟨.func, 1, 8, [.raw .nilFunc], []⟩ := by kernel_rfl
theorem ti64 : tiOf Try.prog 64 = ⟨.func, 1, 8, [.raw .nilFunc], []⟩ := by kernel_rfl
theorem ti65 : tiOf Try.prog 65 = ⟨.ptr 57, 1, 8, [.raw (.pointer none)], []⟩ := by kernel_rfl
theorem ti66 : tiOf Try.prog 66 = ⟨.func, 1, 8, [.raw .nilFunc], []⟩ := by kernel_rfl
theorem ti67 : tiOf Try.prog 67 = ⟨.func, 1, 8, [.raw .nilFunc], []⟩ := by kernel_rfl
theorem ti68 : tiOf Try.prog 68 = ⟨.struct [(0, 17, 1), (1, 17, 1), (2, 17, 1), (3, 9, 1)], 4, 40, [.raw (.pointer none), .raw (.pointer none), .raw (.pointer none), .str []], []⟩ := by kernel_rfl
theorem ti69 : tiOf Try.prog 69 = ⟨.struct [(0, 17, 1), (1, 17, 1), (2, 17, 1), (3, 9, 1)], 4, 40, [.raw (.pointer none), .raw (.pointer none), .raw (.pointer none), .str []], []⟩ := by kernel_rfl
theorem ti70 : tiOf Try.prog 70 = ⟨.array 0 16, 0, 0, [], []⟩ := by kernel_rfl
theorem ti71 : tiOf Try.prog 71 = ⟨.struct [(0, 70, 0)], 0, 0, [], []⟩ := by kernel_rfl
theorem ti72 : tiOf Try.prog 72 = ⟨.struct [(0, 70, 0)], 0, 0, [], []⟩ := by kernel_rfl
theorem ti73 : tiOf Try.prog 73 = ⟨.int .u32, 1, 4, [.int .u32 0], []⟩ := by kernel_rfl
theorem ti74 : tiOf Try.prog 74 = ⟨.int .u8, 1, 1, [.int .u8 0], []⟩ := by kernel_rfl
theorem ti75 : tiOf Try.prog 75 = ⟨.int .u8, 1, 1, [.int .u8 0], []⟩ := by kernel_rfl
theorem ti76 : tiOf Try.prog 76 = ⟨.func, 1, 8, [.raw .nilFunc], []⟩ := by kernel_rfl
theorem ti77 : tiOf Try.prog 77 = ⟨.ptr 5, 1, 8, [.raw (.pointer none)], []⟩ := by kernel_rfl
theorem ti78 : tiOf Try.prog 78 = ⟨.int .i32, 1, 4, [.int .i32 0], []⟩ := by kernel_rfl
theorem ti79 : tiOf Try.prog 79 = ⟨.int .i32, 1, 4, [.int .i32 0], []⟩ := by kernel_rfl
theorem ti80 : tiOf Try.prog 80 = ⟨.struct [(0, 12, 1), (1, 12, 1), (2, 73, 1), (3, 74, 1), (4, 5, 1), (5, 5, 1), (6, 75, 1), (7, 76, 1), (8, 77, 1), (9, 78, 1), (10, 79, 1)], 11, 48, [.int .u64 0, .int .u64 0, .int .u32 0, .int .u8 0, .int .u8 0, .int .u8 0, .int .u8 0, .raw .nilFunc, .raw (.pointer none), .int .i32 0, .int .i32 0], []⟩ := by kernel_rfl
theorem ti81 : tiOf Try.prog 81 = ⟨.struct [(0, 12, 1), (1, 12, 1), (2, 73, 1), (3, 74, 1), (4, 5, 1), (5, 5, 1), (6, 75, 1), (7, 76, 1), (8, 77, 1), (9, 78, 1), (10, 79, 1)], 11, 48, [.int .u64 0, .int .u64 0, .int .u32 0, .int .u8 0, .int .u8 0, .int .u8 0, .int .u8 0, .raw .nilFunc, .raw (.pointer none), .int .i32 0, .int .i32 0], []⟩ := by kernel_rfl
theorem ct2 {args : List AV} {r : AR} (h : SH.Sem Try.prog ⟨0, none⟩ (Try.f2.body.getD .skip) (retK Try.prog [] r) ⟨padA args 1, []⟩) : Contract Try.prog 2 args r := Contract.intro 1 [] Try.call2 Try.func2 rfl rfl rfl h
theorem in2 {args : List AV} {H : List ABlk} {R : AV → List ABlk → Prop} (h : SH.Sem Try.prog ⟨hlen H, none⟩ (Try.f2.body.getD .skip) (retI Try.prog [] R) ⟨padA args 1, H⟩) : EffC Try.prog 2 args H R := EffC.inline 1 [] Try.call2 Try.func2 rfl rfl rfl h
theorem ct3 {args : List AV} {r : AR} (h : SH.Sem Try.prog ⟨0, none⟩ (Try.f3.body.getD .skip) (retK Try.prog [.tmp 6] r) ⟨padA args 69, []⟩) : Contract Try.prog 3 args r := Contract.intro 69 [.tmp 6] Try.call3 Try.func3 rfl rfl rfl h
theorem in3 {args : List AV} {H : List ABlk} {R : AV → List ABlk → Prop} (h : SH.Sem Try.prog ⟨hlen H, none⟩ (Try.f3.body.getD .skip) (retI Try.prog [.tmp 6] R) ⟨padA args 69, H⟩) : EffC Try.prog 3 args H R := EffC.inline 69 [.tmp 6] Try.call3 Try.func3 rfl rfl rfl h
theorem ct4 {args : List AV} {r : AR} (h : SH.Sem Try.prog ⟨0, none⟩ (Try.f4.body.getD .skip) (retK Try.prog [.tmp 8] r) ⟨padA args 151, []⟩) : Contract Try.prog 4 args r := Contract.intro 151 [.tmp 8] Try.call4 Try.func4 rfl rfl rfl h
theorem in4 {args : List AV} {H : List ABlk} {R : AV → List ABlk → Prop} (h : SH.Sem Try.prog ⟨hlen H, none⟩ (Try.f4.body.getD .skip) (retI Try.prog [.tmp 8] R) ⟨padA args 151, H⟩) : EffC Try.prog 4 args H R := EffC.inline 151 [.tmp 8] Try.call4 Try.func4 rfl rfl rfl h
theorem ct5 {args : List AV} {r : AR} (h : SH.Sem Try.prog ⟨0, none⟩ (Try.f5.body.getD .skip) (retK Try.prog [.tmp 6] r) ⟨padA args 154, []⟩) : Contract Try.prog 5 args r := Contract.intro 154 [.tmp 6] Try.call5 Try.func5 rfl rfl rfl h
theorem in5 {args : List AV} {H : List ABlk} {R : AV → List ABlk → Prop} (h : SH.Sem Try.prog ⟨hlen H, none⟩ (Try.f5.body.getD .skip) (retI Try.prog [.tmp 6] R) ⟨padA args 154, H⟩) : EffC Try.prog 5 args H R := EffC.inline 154 [.tmp 6] Try.call5 Try.func5 rfl rfl rfl h
theorem ct6 {args : List AV} {r : AR} (h : SH.Sem Try.prog ⟨0, none⟩ (Try.f6.body.getD .skip) (retK Try.prog [.tmp 6] r) ⟨padA args 67, []⟩) : Contract Try.prog 6 args r := Contract.intro 67 [.tmp 6] Try.call6 Try.func6 rfl rfl rfl h
theorem in6 {args : List AV} {H : List ABlk} {R : AV → List ABlk → Prop} (h : SH.Sem Try.prog ⟨hlen H, none⟩ (Try.f6.body.getD .skip) (retI Try.prog [.tmp 6] R) ⟨padA args 67, H⟩) : EffC Try.prog 6 args H R := EffC.inline 67 [.tmp 6] Try.call6 Try.func6 rfl rfl rfl h
theorem ct7 {args : List AV} {r : AR} (h : SH.Sem Try.prog ⟨0, none⟩ (Try.f7.body.getD .skip) (retK Try.prog [.tmp 8] r) ⟨padA args 144, []⟩) : Contract Try.prog 7 args r := Contract.intro 144 [.tmp 8] Try.call7 Try.func7 rfl rfl rfl h
theorem in7 {args : List AV} {H : List ABlk} {R : AV → List ABlk → Prop} (h : SH.Sem Try.prog ⟨hlen H, none⟩ (Try.f7.body.getD .skip) (retI Try.prog [.tmp 8] R) ⟨padA args 144, H⟩) : EffC Try.prog 7 args H R := EffC.inline 144 [.tmp 8] Try.call7 Try.func7 rfl rfl rfl h
theorem ct8 {args : List AV} {r : AR} (h : SH.Sem Try.prog ⟨0, none⟩ (Try.f8.body.getD .skip) (retK Try.prog [.tmp 6] r) ⟨padA args 76, []⟩) : Contract Try.prog 8 args r := Contract.intro 76 [.tmp 6] Try.call8 Try.func8 rfl rfl rfl h
theorem in8 {args : List AV} {H : List ABlk} {R : AV → List ABlk → Prop} (h : SH.Sem Try.prog ⟨hlen H, none⟩ (Try.f8.body.getD .skip) (retI Try.prog [.tmp 6] R) ⟨padA args 76, H⟩) : EffC Try.prog 8 args H R := EffC.inline 76 [.tmp 6] Try.call8 Try.func8 rfl rfl rfl h
theorem ct9 {args : List AV} {r : AR} (h : SH.Sem Try.prog ⟨0, none⟩ (Try.f9.body.getD .skip) (retK Try.prog [.tmp 0] r) ⟨padA args 81, []⟩) : Contract Try.prog 9 args r := Contract.intro 81 [.tmp 0] Try.call9 Try.func9 rfl rfl rfl h
theorem in9 {args : List AV} {H : List ABlk} {R : AV → List ABlk → Prop} (h : SH.Sem Try.prog ⟨hlen H, none⟩ (Try.f9.body.getD .skip) (retI Try.prog [.tmp 0] R) ⟨padA args 81, H⟩) : EffC Try.prog 9 args H R := EffC.inline 81 [.tmp 0] Try.call9 Try.func9 rfl rfl rfl h
theorem ct10 {args : List AV} {r : AR} (h : SH.Sem Try.prog ⟨0, none⟩ (Try.f10.body.getD .skip) (retK Try.prog [.tmp 4] r) ⟨padA args 39, []⟩) : Contract Try.prog 10 args r := Contract.intro 39 [.tmp 4] Try.call10 Try.func10 rfl rfl rfl h
theorem in10 {args : List AV} {H : List ABlk} {R : AV → List ABlk → Prop} (h : SH.Sem Try.prog ⟨hlen H, none⟩ (Try.f10.body.getD .skip) (retI Try.prog [.tmp 4] R) ⟨padA args 39, H⟩) : EffC Try.prog 10 args H R := EffC.inline 39 [.tmp 4] Try.call10 Try.func10 rfl rfl rfl h
theorem ct11 {args : List AV} {r : AR} (h : SH.Sem Try.prog ⟨0, none⟩ (Try.f11.body.getD .skip) (retK Try.prog [.tmp 6, .tmp 7] r) ⟨padA args 45, []⟩) : Contract Try.prog 11 args r := Contract.intro 45 [.tmp 6, .tmp 7] Try.call11 Try.func11 rfl rfl rfl h
theorem in11 {args : List AV} {H : List ABlk} {R : AV → List ABlk → Prop} (h : SH.Sem Try.prog ⟨hlen H, none⟩ (Try.f11.body.getD .skip) (retI Try.prog [.tmp 6, .tmp 7] R) ⟨padA args 45, H⟩) : EffC Try.prog 11 args H R := EffC.inline 45 [.tmp 6, .tmp 7] Try.call11 Try.func11 rfl rfl rfl h
theorem ct12 {args : List AV} {r : AR} (h : SH.Sem Try.prog ⟨0, none⟩ (Try.f12.body.getD .skip) (retK Try.prog [.tmp 6, .tmp 7] r) ⟨padA args 76, []⟩) : Contract Try.prog 12 args r := Contract.intro 76 [.tmp 6, .tmp 7] Try.call12 Try.func12 rfl rfl rfl h
theorem in12 {args : List AV} {H : List ABlk} {R : AV → List ABlk → Prop} (h : SH.Sem Try.prog ⟨hlen H, none⟩ (Try.f12.body.getD .skip) (retI Try.prog [.tmp 6, .tmp 7] R) ⟨padA args 76, H⟩) : EffC Try.prog 12 args H R := EffC.inline 76 [.tmp 6, .tmp 7] Try.call12 Try.func12 rfl rfl rfl h
theorem ct13 {args : List AV} {r : AR} (h : SH.Sem Try.prog ⟨0, none⟩ (Try.f13.body.getD .skip) (retK Try.prog [.tmp 4] r) ⟨padA args 26, []⟩) : Contract Try.prog 13 args r := Contract.intro 26 [.tmp 4] Try.call13 Try.func13 rfl rfl rfl h
theorem in13 {args : List AV} {H : List ABlk} {R : AV → List ABlk → Prop} (h : SH.Sem Try.prog ⟨hlen H, none⟩ (Try.f13.body.getD .skip) (retI Try.prog [.tmp 4] R) ⟨padA args 26, H⟩) : EffC Try.prog 13 args H R := EffC.inline 26 [.tmp 4] Try.call13 Try.func13 rfl rfl rfl h
theorem ct14 {args : List AV} {r : AR} (h : SH.Sem Try.prog ⟨0, none⟩ (Try.f14.body.getD .skip) (retK Try.prog [.tmp 4] r) ⟨padA args 26, []⟩) : Contract Try.prog 14 args r := Contract.intro 26 [.tmp 4] Try.call14 Try.func14 rfl rfl rfl h
theorem in14 {args : List AV} {H : List ABlk} {R : AV → List ABlk → Prop} (h : SH.Sem Try.prog ⟨hlen H, none⟩ (Try.f14.body.getD .skip) (retI Try.prog [.tmp 4] R) ⟨padA args 26, H⟩) : EffC Try.prog 14 args H R := EffC.inline 26 [.tmp 4] Try.call14 Try.func14 rfl rfl rfl h
theorem ct15 {args : List AV} {r : AR} (h : SH.Sem Try.prog ⟨0, none⟩ (Try.f15.body.getD .skip) (retK Try.prog [.tmp 6] r) ⟨padA args 70, []⟩) : Contract Try.prog 15 args r := Contract.intro 70 [.tmp 6] Try.call15 Try.func15 rfl rfl rfl h
theorem in15 {args : List AV} {H : List ABlk} {R : AV → List ABlk → Prop} (h : SH.Sem Try.prog ⟨hlen H, none⟩ (Try.f15.body.getD .skip) (retI Try.prog [.tmp 6] R) ⟨padA args 70, H⟩) : EffC Try.prog 15 args H R := EffC.inline 70 [.tmp 6] Try.call15 Try.func15 rfl rfl rfl h
theorem ct16 {args : List AV} {r : AR} (h : SH.Sem Try.prog ⟨0, none⟩ (Try.f16.body.getD .skip) (retK Try.prog [.tmp 6] r) ⟨padA args 32, []⟩) : Contract Try.prog 16 args r := Contract.intro 32 [.tmp 6] Try.call16 Try.func16 rfl rfl rfl h
theorem in16 {args : List AV} {H : List ABlk} {R : AV → List ABlk → Prop} (h : SH.Sem Try.prog ⟨hlen H, none⟩ (Try.f16.body.getD .skip) (retI Try.prog [.tmp 6] R) ⟨padA args 32, H⟩) : EffC Try.prog 16 args H R := EffC.inline 32 [.tmp 6] Try.call16 Try.func16 rfl rfl rfl h
theorem ct17 {args : List AV} {r : AR} (h : SH.Sem Try.prog ⟨0, none⟩ (Try.f17.body.getD .skip) (retK Try.prog [.tmp 6] r) ⟨padA args 61, []⟩) : Contract Try.prog 17 args r := Contract.intro 61 [.tmp 6] Try.call17 Try.func17 rfl rfl rfl h
theorem in17 {args : List AV} {H : List ABlk} {R : AV → List ABlk → Prop} (h : SH.Sem Try.prog ⟨hlen H, none⟩ (Try.f17.body.getD .skip) (retI Try.prog [.tmp 6] R) ⟨padA args 61, H⟩) : EffC Try.prog 17 args H R := EffC.inline 61 [.tmp 6] Try.call17 Try.func17 rfl rfl rfl h
theorem ct18 {args : List AV} {r : AR} (h : SH.Sem Try.prog ⟨0, none⟩ (Try.f18.body.getD .skip) (retK Try.prog [.tmp 6] r) ⟨padA args 46, []⟩) : Contract Try.prog 18 args r := Contract.intro 46 [.tmp 6] Try.call18 Try.func18 rfl rfl rfl h
theorem in18 {args : List AV} {H : List ABlk} {R : AV → List ABlk → Prop} (h : SH.Sem Try.prog ⟨hlen H, none⟩ (Try.f18.body.getD .skip) (retI Try.prog [.tmp 6] R) ⟨padA args 46, H⟩) : EffC Try.prog 18 args H R := EffC.inline 46 [.tmp 6] Try.call18 Try.func18 rfl rfl rfl h
theorem ct19 {args : List AV} {r : AR} (h : SH.Sem Try.prog ⟨0, none⟩ (Try.f19.body.getD .skip) (retK Try.prog [.tmp 4] r) ⟨padA args 19, []⟩) : Contract Try.prog 19 args r := Contract.intro 19 [.tmp 4] Try.call19 Try.func19 rfl rfl rfl h
theorem in19 {args : List AV} {H : List ABlk} {R : AV → List ABlk → Prop} (h : SH.Sem Try.prog ⟨hlen H, none⟩ (Try.f19.body.getD .skip) (retI Try.prog [.tmp 4] R) ⟨padA args 19, H⟩) : EffC Try.prog 19 args H R := EffC.inline 19 [.tmp 4] Try.call19 Try.func19 rfl rfl rfl h
theorem ct20 {args : List AV} {r : AR} (h : SH.Sem Try.prog ⟨0, none⟩ (Try.f20.body.getD .skip) (retK Try.prog [.tmp 4] r) ⟨padA args 34, []⟩) : Contract Try.prog 20 args r := Contract.intro 34 [.tmp 4] Try.call20 Try.func20 rfl rfl rfl h
theorem in20 {args : List AV} {H : List ABlk} {R : AV → List ABlk → Prop} (h : SH.Sem Try.prog ⟨hlen H, none⟩ (Try.f20.body.getD .skip) (retI Try.prog [.tmp 4] R) ⟨padA args 34, H⟩) : EffC Try.prog 20 args H R := EffC.inline 34 [.tmp 4] Try.call20 Try.func20 rfl rfl rfl h
theorem ct21 {args : List AV} {r : AR} (h : SH.Sem Try.prog ⟨0, none⟩ (Try.f21.body.getD .skip) (retK Try.prog [.tmp 2] r) ⟨padA args 21, []⟩) : Contract Try.prog 21 args r := Contract.intro 21 [.tmp 2] Try.call21 Try.func21 rfl rfl rfl h
theorem in21 {args : List AV} {H : List ABlk} {R : AV → List ABlk → Prop} (h : SH.Sem Try.prog ⟨hlen H, none⟩ (Try.f21.body.getD .skip) (retI Try.prog [.tmp 2] R) ⟨padA args 21, H⟩) : EffC Try.prog 21 args H R := EffC.inline 21 [.tmp 2] Try.call21 Try.func21 rfl rfl rfl h
theorem ct22 {args : List AV} {r : AR} (h : SH.Sem Try.prog ⟨0, none⟩ (Try.f22.body.getD .skip) (retK Try.prog [.cell 4 25, .tmp 5] r) ⟨padA args 106, []⟩) : Contract Try.prog 22 args r := Contract.intro 106 [.cell 4 25, .tmp 5] Try.call22 Try.func22 rfl rfl rfl h
theorem in22 {args : List AV} {H : List ABlk} {R : AV → List ABlk → Prop} (h : SH.Sem Try.prog ⟨hlen H, none⟩ (Try.f22.body.getD .skip) (retI Try.prog [.cell 4 25, .tmp 5] R) ⟨padA args 106, H⟩) : EffC Try.prog 22 args H R := EffC.inline 106 [.cell 4 25, .tmp 5] Try.call22 Try.func22 rfl rfl rfl h
theorem ct23 {args : List AV} {r : AR} (h : SH.Sem Try.prog ⟨0, none⟩ (Try.f23.body.getD .skip) (retK Try.prog [.tmp 2] r) ⟨padA args 40, []⟩) : Contract Try.prog 23 args r := Contract.intro 40 [.tmp 2] Try.call23 Try.func23 rfl rfl rfl h
theorem in23 {args : List AV} {H : List ABlk} {R : AV → List ABlk → Prop} (h : SH.Sem Try.prog ⟨hlen H, none⟩ (Try.f23.body.getD .skip) (retI Try.prog [.tmp 2] R) ⟨padA args 40, H⟩) : EffC Try.prog 23 args H R := EffC.inline 40 [.tmp 2] Try.call23 Try.func23 rfl rfl rfl h
theorem ct24 {args : List AV} {r : AR} (h : SH.Sem Try.prog ⟨0, none⟩ (Try.f24.body.getD .skip) (retK Try.prog [.cell 0 25] r) ⟨padA args 9, []⟩) : Contract Try.prog 24 args r := Contract.intro 9 [.cell 0 25] Try.call24 Try.func24 rfl rfl rfl h
theorem in24 {args : List AV} {H : List ABlk} {R : AV → List ABlk → Prop} (h : SH.Sem Try.prog ⟨hlen H, none⟩ (Try.f24.body.getD .skip) (retI Try.prog [.cell 0 25] R) ⟨padA args 9, H⟩) : EffC Try.prog 24 args H R := EffC.inline 9 [.cell 0 25] Try.call24 Try.func24 rfl rfl rfl h
theorem ct25 {args : List AV} {r : AR} (h : SH.Sem Try.prog ⟨0, none⟩ (Try.f25.body.getD .skip) (retK Try.prog [.cell 6 44, .tmp 7] r) ⟨padA args 68, []⟩) : Contract Try.prog 25 args r := Contract.intro 68 [.cell 6 44, .tmp 7] Try.call25 Try.func25 rfl rfl rfl h
theorem in25 {args : List AV} {H : List ABlk} {R : AV → List ABlk → Prop} (h : SH.Sem Try.prog ⟨hlen H, none⟩ (Try.f25.body.getD .skip) (retI Try.prog [.cell 6 44, .tmp 7] R) ⟨padA args 68, H⟩) : EffC Try.prog 25 args H R := EffC.inline 68 [.cell 6 44, .tmp 7] Try.call25 Try.func25 rfl rfl rfl h
theorem ct26 {args : List AV} {r : AR} (h : SH.Sem Try.prog ⟨0, none⟩ (Try.f26.body.getD .skip) (retK Try.prog [.tmp 6] r) ⟨padA args 112, []⟩) : Contract Try.prog 26 args r := Contract.intro 112 [.tmp 6] Try.call26 Try.func26 rfl rfl rfl h
theorem in26 {args : List AV} {H : List ABlk} {R : AV → List ABlk → Prop} (h : SH.Sem Try.prog ⟨hlen H, none⟩ (Try.f26.body.getD .skip) (retI Try.prog [.tmp 6] R) ⟨padA args 112, H⟩) : EffC Try.prog 26 args H R := EffC.inline 112 [.tmp 6] Try.call26 Try.func26 rfl rfl rfl h
theorem ct27 {args : List AV} {r : AR} (h : SH.Sem Try.prog ⟨0, none⟩ (Try.f27.body.getD .skip) (retK Try.prog [.tmp 6] r) ⟨padA args 25, []⟩) : Contract Try.prog 27 args r := Contract.intro 25 [.tmp 6] Try.call27 Try.func27 rfl rfl rfl h
theorem in27 {args : List AV} {H : List ABlk} {R : AV → List ABlk → Prop} (h : SH.Sem Try.prog ⟨hlen H, none⟩ (Try.f27.body.getD .skip) (retI Try.prog [.tmp 6] R) ⟨padA args 25, H⟩) : EffC Try.prog 27 args H R := EffC.inline 25 [.tmp 6] Try.call27 Try.func27 rfl rfl rfl h
theorem ct28 {args : List AV} {r : AR} (h : SH.Sem Try.prog ⟨0, none⟩ (Try.f28.body.getD .skip) (retK Try.prog [.tmp 8] r) ⟨padA args 59, []⟩) : Contract Try.prog 28 args r := Contract.intro 59 [.tmp 8] Try.call28 Try.func28 rfl rfl rfl h
theorem in28 {args : List AV} {H : List ABlk} {R : AV → List ABlk → Prop} (h : SH.Sem Try.prog ⟨hlen H, none⟩ (Try.f28.body.getD .skip) (retI Try.prog [.tmp 8] R) ⟨padA args 59, H⟩) : EffC Try.prog 28 args H R := EffC.inline 59 [.tmp 8] Try.call28 Try.func28 rfl rfl rfl h
theorem ct29 {args : List AV} {r : AR} (h : SH.Sem Try.prog ⟨0, none⟩ (Try.f29.body.getD .skip) (retK Try.prog [.tmp 2] r) ⟨padA args 101, []⟩) : Contract Try.prog 29 args r := Contract.intro 101 [.tmp 2] Try.call29 Try.func29 rfl rfl rfl h
theorem in29 {args : List AV} {H : List ABlk} {R : AV → List ABlk → Prop} (h : SH.Sem Try.prog ⟨hlen H, none⟩ (Try.f29.body.getD .skip) (retI Try.prog [.tmp 2] R) ⟨padA args 101, H⟩) : EffC Try.prog 29 args H R := EffC.inline 101 [.tmp 2] Try.call29 Try.func29 rfl rfl rfl h
theorem ct30 {args : List AV} {r : AR} (h : SH.Sem Try.prog ⟨0, none⟩ (Try.f30.body.getD .skip) (retK Try.prog [.tmp 6] r) ⟨padA args 11, []⟩) : Contract Try.prog 30 args r := Contract.intro 11 [.tmp 6] Try.call30 Try.func30 rfl rfl rfl h
theorem in30 {args : List AV} {H : List ABlk} {R : AV → List ABlk → Prop} (h : SH.Sem Try.prog ⟨hlen H, none⟩ (Try.f30.body.getD .skip) (retI Try.prog [.tmp 6] R) ⟨padA args 11, H⟩) : EffC Try.prog 30 args H R := EffC.inline 11 [.tmp 6] Try.call30 Try.func30 rfl rfl rfl h
theorem ct31 {args : List AV} {r : AR} (h : SH.Sem Try.prog ⟨0, none⟩ (Try.f31.body.getD .skip) (retK Try.prog [.tmp 4] r) ⟨padA args 9, []⟩) : Contract Try.prog 31 args r := Contract.intro 9 [.tmp 4] Try.call31 Try.func31 rfl rfl rfl h
theorem in31 {args : List AV} {H : List ABlk} {R : AV → List ABlk → Prop} (h : SH.Sem Try.prog ⟨hlen H, none⟩ (Try.f31.body.getD .skip) (retI Try.prog [.tmp 4] R) ⟨padA args 9, H⟩) : EffC Try.prog 31 args H R := EffC.inline 9 [.tmp 4] Try.call31 Try.func31 rfl rfl rfl h
theorem ct32 {args : List AV} {r : AR} (h : SH.Sem Try.prog ⟨0, none⟩ (Try.f32.body.getD .skip) (retK Try.prog [.tmp 3] r) ⟨padA args 14, []⟩) : Contract Try.prog 32 args r := Contract.intro 14 [.tmp 3] Try.call32 Try.func32 rfl rfl rfl h
theorem in32 {args : List AV} {H : List ABlk} {R : AV → List ABlk → Prop} (h : SH.Sem Try.prog ⟨hlen H, none⟩ (Try.f32.body.getD .skip) (retI Try.prog [.tmp 3] R) ⟨padA args 14, H⟩) : EffC Try.prog 32 args H R := EffC.inline 14 [.tmp 3] Try.call32 Try.func32 rfl rfl rfl h
theorem ct33 {args : List AV} {r : AR} (h : SH.Sem Try.prog ⟨0, none⟩ (Try.f33.body.getD .skip) (retK Try.prog [.tmp 6] r) ⟨padA args 9, []⟩) : Contract Try.prog 33 args r := Contract.intro 9 [.tmp 6] Try.call33 Try.func33 rfl rfl rfl h
theorem in33 {args : List AV} {H : List ABlk} {R : AV → List ABlk → Prop} (h : SH.Sem Try.prog ⟨hlen H, none⟩ (Try.f33.body.getD .skip) (retI Try.prog [.tmp 6] R) ⟨padA args 9, H⟩) : EffC Try.prog 33 args H R := EffC.inline 9 [.tmp 6] Try.call33 Try.func33 rfl rfl rfl h
theorem ct34 {args : List AV} {r : AR} (h : SH.Sem Try.prog ⟨0, none⟩ (Try.f34.body.getD .skip) (retK Try.prog [.tmp 6] r) ⟨padA args 16, []⟩) : Contract Try.prog 34 args r := Contract.intro 16 [.tmp 6] Try.call34 Try.func34 rfl rfl rfl h
theorem in34 {args : List AV} {H : List ABlk} {R : AV → List ABlk → Prop} (h : SH.Sem Try.prog ⟨hlen H, none⟩ (Try.f34.body.getD .skip) (retI Try.prog [.tmp 6] R) ⟨padA args 16, H⟩) : EffC Try.prog 34 args H R := EffC.inline 16 [.tmp 6] Try.call34 Try.func34 rfl rfl rfl h
theorem ct35 {args : List AV} {r : AR} (h : SH.Sem Try.prog ⟨0, none⟩ (Try.f35.body.getD .skip) (retK Try.prog [] r) ⟨padA args 14, []⟩) : Contract Try.prog 35 args r := Contract.intro 14 [] Try.call35 Try.func35 rfl rfl rfl h
theorem in35 {args : List AV} {H : List ABlk} {R : AV → List ABlk → Prop} (h : SH.Sem Try.prog ⟨hlen H, none⟩ (Try.f35.body.getD .skip) (retI Try.prog [] R) ⟨padA args 14, H⟩) : EffC Try.prog 35 args H R := EffC.inline 14 [] Try.call35 Try.func35 rfl rfl rfl h
theorem ct36 {args : List AV} {r : AR} (h : SH.Sem Try.prog ⟨0, none⟩ (Try.f36.body.getD .skip) (retK Try.prog [.tmp 2, .tmp 3] r) ⟨padA args 26, []⟩) : Contract Try.prog 36 args r := Contract.intro 26 [.tmp 2, .tmp 3] Try.call36 Try.func36 rfl rfl rfl h
theorem in36 {args : List AV} {H : List ABlk} {R : AV → List ABlk → Prop} (h : SH.Sem Try.prog ⟨hlen H, none⟩ (Try.f36.body.getD .skip) (retI Try.prog [.tmp 2, .tmp 3] R) ⟨padA args 26, H⟩) : EffC Try.prog 36 args H R := EffC.inline 26 [.tmp 2, .tmp 3] Try.call36 Try.func36 rfl rfl rfl h
theorem ct37 {args : List AV} {r : AR} (h : SH.Sem Try.prog ⟨0, none⟩ (Try.f37.body.getD .skip) (retK Try.prog [.tmp 0] r) ⟨padA args 1, []⟩) : Contract Try.prog 37 args r := Contract.intro 1 [.tmp 0] Try.call37 Try.func37 rfl rfl rfl h
theorem in37 {args : List AV} {H : List ABlk} {R : AV → List ABlk → Prop} (h : SH.Sem Try.prog ⟨hlen H, none⟩ (Try.f37.body.getD .skip) (retI Try.prog [.tmp 0] R) ⟨padA args 1, H⟩) : EffC Try.prog 37 args H R := EffC.inline 1 [.tmp 0] Try.call37 Try.func37 rfl rfl rfl h
theorem ct38 {args : List AV} {r : AR} (h : SH.Sem Try.prog ⟨0, none⟩ (Try.f38.body.getD .skip) (retK Try.prog [.tmp 4] r) ⟨padA args 9, []⟩) : Contract Try.prog 38 args r := Contract.intro 9 [.tmp 4] Try.call38 Try.func38 rfl rfl rfl h
theorem in38 {args : List AV} {H : List ABlk} {R : AV → List ABlk → Prop} (h : SH.Sem Try.prog ⟨hlen H, none⟩ (Try.f38.body.getD .skip) (retI Try.prog [.tmp 4] R) ⟨padA args 9, H⟩) : EffC Try.prog 38 args H R := EffC.inline 9 [.tmp 4] Try.call38 Try.func38 rfl rfl rfl h
theorem ct39 {args : List AV} {r : AR} (h : SH.Sem Try.prog ⟨0, none⟩ (Try.f39.body.getD .skip) (retK Try.prog [.tmp 4] r) ⟨padA args 13, []⟩) : Contract Try.prog 39 args r := Contract.intro 13 [.tmp 4] Try.call39 Try.func39 rfl rfl rfl h
theorem in39 {args : List AV} {H : List ABlk} {R : AV → List ABlk → Prop} (h : SH.Sem Try.prog ⟨hlen H, none⟩ (Try.f39.body.getD .skip) (retI Try.prog [.tmp 4] R) ⟨padA args 13, H⟩) : EffC Try.prog 39 args H R := EffC.inline 13 [.tmp 4] Try.call39 Try.func39 rfl rfl rfl h
theorem ct40 {args : List AV} {r : AR} (h : SH.Sem Try.prog ⟨0, none⟩ (Try.f40.body.getD .skip) (retK Try.prog [.tmp 4] r) ⟨padA args 19, []⟩) : Contract Try.prog 40 args r := Contract.intro 19 [.tmp 4] Try.call40 Try.func40 rfl rfl rfl h
theorem in40 {args : List AV} {H : List ABlk} {R : AV → List ABlk → Prop} (h : SH.Sem Try.prog ⟨hlen H, none⟩ (Try.f40.body.getD .skip) (retI Try.prog [.tmp 4] R) ⟨padA args 19, H⟩) : EffC Try.prog 40 args H R := EffC.inline 19 [.tmp 4] Try.call40 Try.func40 rfl rfl rfl h
theorem ct41 {args : List AV} {r : AR} (h : SH.Sem Try.prog ⟨0, none⟩ (Try.f41.body.getD .skip) (retK Try.prog [.tmp 4] r) ⟨padA args 19, []⟩) : Contract Try.prog 41 args r := Contract.intro 19 [.tmp 4] Try.call41 Try.func41 rfl rfl rfl h
theorem in41 {args : List AV} {H : List ABlk} {R : AV → List ABlk → Prop} (h : SH.Sem Try.prog ⟨hlen H, none⟩ (Try.f41.body.getD .skip) (retI Try.prog [.tmp 4] R) ⟨padA args 19, H⟩) : EffC Try.prog 41 args H R := EffC.inline 19 [.tmp 4] Try.call41 Try.func41 rfl rfl rfl h
-- EVS
set_option maxRecDepth 10000
/-- The unfolding of a step, once written. -/
theorem ev {p q : Prop} (k : q) (h : p = q := by simp -implicitDefEqProofs only [Option.getD, w_skip, w_reg, w_regd, w_seq, w_cond, w_block, w_loop, w_rf, w_exit, w_ret, f_ok, f_call, f_yield, yK_cons, a_normal, r_normal, r_ret, r_exit, rg_cons, putL, frz, beq_self_eq_true, Nat.reduceBEq, updG_same, f_bad, cK_nil, cK_cons, v_nil, v_cons, gK_tt, gK_ff, gK_tf, gK_ft, dK_go, d_nil, d_cons, gD_tt, gD_ff, gD_tf, gD_ft, eC_one, eC_tup, eC_own, eE_ok, eE_bad, eD, eff, eBin, eEq, eUn, eConv, eLen, eMin, eMax, eField, eFieldAddr, eIndex, eIndexAddr, eSlice, eLoad, eStore, eAlloc, eBox, eBuild, eBuildSlice, eMake, eAppend, eCopy, eNil, ePick, eExtract, E.pure, Eff.only, Eff.notB, evalA, AV.ofV, AV.ofC, sget, sput, putA, applyU, hset, hget, hlen, alen, takeA, dropA, spliceA, mapA, allA, lget, oget, pget, tget, cellsA, AV.one, AV.goneB, partA, partC, TK.isAgg, nilish, natA, natC, loN, hiN, optC, roCut, loadP, loadC, aggOr, fillA, fillC, allPos, partsC, partsCells, partsAll, kills, killIds, liveAll, gnd, srcOf, inBlk, mapO, mapP, Go.SH.IntKind.uns, TK.flat, eqSc, eqScC, eqFs, eqFsC, seqK, blockK, condK, l_exit, l_ret, retK, retS, rsV, rsC, allT, padA, mapT, glook, bsel, gsplit_true, gsplit_false, resOf, resIds, resAll, nodupN, notin, like, like1, likeL, likeAll, AV.np, AV.gb, idsR, idsM, retI, retR, reify, AR.v, AR.u, AR.nv, nvec, impV, impU, isAlloc, callOf, countA, upIds, Option.map_none, Option.map_some, Option.isSome_some, Option.isSome_none, List.map_cons, List.map_nil, true_and, and_true, List.cons_append, List.nil_append, List.append_nil, List.length_cons, List.length_nil, List.nodup_nil, List.not_mem_nil, not_false_eq_true, ne_eq, reduceCtorEq, Bool.and_true, Bool.true_and, Bool.not_true, Bool.not_false, if_true, if_false, reduceIte, en_byte, en_byte', en_int, en_int', en_bool, en_bool', en_str, en_str', en_row, en_row', sh_at, sh_at', and_assoc, Nat.zero_add, Nat.add_zero, Nat.reduceAdd, appF_zero, Option.isNone_none, Option.isNone_some, en_byteL, en_intL, en_rowL, Int.reduceToNat, Nat.mul_one, Nat.one_mul, Nat.zero_mul, Nat.reduceMul, Nat.reduceSub, Nat.sub_zero, bne_self_eq_false, ti1, ti2, ti3, ti4, ti5, ti6, ti7, ti8, ti9, ti10, ti11, ti12, ti13, ti14, ti15, ti16, ti17, ti18, ti19, ti21, ti22, ti23, ti24, ti25, ti26, ti27, ti28, ti30, ti31, ti32, ti33, ti34, ti35, ti36, ti37, ti38, ti40, ti41, ti42, ti43, ti44, ti46, ti47, ti48, ti49, ti50, ti51, ti52, ti53, ti54, ti55, ti56, ti57, ti58, ti60, ti61, ti62, ti63, ti64, ti65, ti66, ti67, ti68, ti69, ti70, ti71, ti72, ti73, ti74, ti75, ti76, ti77, ti78, ti79, ti80, ti81]; exact rfl) : p := h ▸ k
/-- The same without the types. -/
theorem evL {p q : Prop} (k : q) (h : p = q := by simp -implicitDefEqProofs only [Option.getD, w_skip, w_reg, w_regd, w_seq, w_cond, w_block, w_loop, w_rf, w_exit, w_ret, f_ok, f_call, f_yield, yK_cons, a_normal, r_normal, r_ret, r_exit, rg_cons, putL, frz, beq_self_eq_true, Nat.reduceBEq, updG_same, f_bad, cK_nil, cK_cons, v_nil, v_cons, gK_tt, gK_ff, gK_tf, gK_ft, dK_go, d_nil, d_cons, gD_tt, gD_ff, gD_tf, gD_ft, eC_one, eC_tup, eC_own, eE_ok, eE_bad, eD, eff, eBin, eEq, eUn, eConv, eLen, eMin, eMax, eField, eFieldAddr, eIndex, eIndexAddr, eSlice, eLoad, eStore, eAlloc, eBox, eBuild, eBuildSlice, eMake, eAppend, eCopy, eNil, ePick, eExtract, E.pure, Eff.only, Eff.notB, evalA, AV.ofV, AV.ofC, sget, sput, putA, applyU, hset, hget, hlen, alen, takeA, dropA, spliceA, mapA, allA, lget, oget, pget, tget, cellsA, AV.one, AV.goneB, partA, partC, TK.isAgg, nilish, natA, natC, loN, hiN, optC, roCut, loadP, loadC, aggOr, fillA, fillC, allPos, partsC, partsCells, partsAll, kills, killIds, liveAll, gnd, srcOf, inBlk, mapO, mapP, Go.SH.IntKind.uns, TK.flat, eqSc, eqScC, eqFs, eqFsC, seqK, blockK, condK, l_exit, l_ret, retK, retS, rsV, rsC, allT, padA, mapT, glook, bsel, gsplit_true, gsplit_false, resOf, resIds, resAll, nodupN, notin, like, like1, likeL, likeAll, AV.np, AV.gb, idsR, idsM, retI, retR, reify, AR.v, AR.u, AR.nv, nvec, impV, impU, isAlloc, callOf, countA, upIds, Option.map_none, Option.map_some, Option.isSome_some, Option.isSome_none, List.map_cons, List.map_nil, true_and, and_true, List.cons_append, List.nil_append, List.append_nil, List.length_cons, List.length_nil, List.nodup_nil, List.not_mem_nil, not_false_eq_true, ne_eq, reduceCtorEq, Bool.and_true, Bool.true_and, Bool.not_true, Bool.not_false, if_true, if_false, reduceIte, en_byte, en_byte', en_int, en_int', en_bool, en_bool', en_str, en_str', en_row, en_row', sh_at, sh_at', and_assoc, Nat.zero_add, Nat.add_zero, Nat.reduceAdd, appF_zero, Option.isNone_none, Option.isNone_some, en_byteL, en_intL, en_rowL, Int.reduceToNat, Nat.mul_one, Nat.one_mul, Nat.zero_mul, Nat.reduceMul, Nat.reduceSub, Nat.sub_zero, bne_self_eq_false]; exact rfl) : p := h ▸ k
/-- Forgetting. -/
theorem evE {p q : Prop} (k : q) (h : p = q := by simp -implicitDefEqProofs only [padA, St.le, slotsLe, heapLe, blkLe, rowLe, live, injOn, loLe, nget, nlook, ren, okA, allP, mapA, hget, ABlk.used, notin, List.map_cons, List.map_nil, true_or, or_true, false_or, or_false, true_and, and_true, and_self, AV.int.injEq, AV.bool.injEq, AV.str.injEq, AV.sl.injEq, AV.ro.injEq, AV.agg.injEq, List.cons.injEq, reduceCtorEq, ne_eq, not_false_eq_true, not_true_eq_false]; exact rfl) : p := h ▸ k
end Go.Proofs.Ytnbpjccacmpnoaa
