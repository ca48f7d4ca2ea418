/- PRINTED BY A PROGRAM of this repo (wip/gen4.lean): the types; the compiled functions are the program's. -/
import Derived.Test.YtjldgekmjnkofaaF1
set_option linter.unusedVariables false
set_option linter.unusedSimpArgs false
namespace Go.Eng
open Go Go.Proofs

noncomputable def ty : Ty
  | 3 => some ⟨Try.t3.desc, 1, 8, (some (.int .i64 (0)))⟩
  | 4 => some ⟨Try.t4.desc, 1, 1, (some (.bool false))⟩
  | 9 => some ⟨Try.t9.desc, 1, 16, (some (.str []))⟩
  | 22 => some ⟨Try.t22.desc, 1, 24, (some .nsl)⟩
  | 23 => some ⟨Try.t23.desc, 1, 24, (some .nsl)⟩
  | 24 => some ⟨Try.t24.desc, 1, 24, (some .nsl)⟩
  | 26 => some ⟨Try.t25.desc, 3, 32, (some (.agg [(.bool false), (.bool false), .nsl]))⟩
  | 27 => some ⟨Try.t27.desc, 1, 24, (some .nsl)⟩
  | 29 => some ⟨Try.t28.desc, 3, 48, (some (.agg [(.int .i64 (0)), (.str []), .nsl]))⟩
  | 30 => some ⟨Try.t30.desc, 1, 24, (some .nsl)⟩
  | 32 => some ⟨Try.t31.desc, 7, 104, (some (.agg [(.bool false), (.bool false), .nsl, (.int .i64 (0)), (.str []), .nsl, .nsl]))⟩
  | 35 => some ⟨Try.t35.desc, 1, 24, (some .nsl)⟩
  | 37 => some ⟨Try.t37.desc, 1, 24, (some .nsl)⟩
  | 39 => some ⟨Try.t39.desc, 1, 24, (some .nsl)⟩
  | 41 => some ⟨Try.t40.desc, 3, 48, (some (.agg [(.int .i64 (0)), (.str []), .nsl]))⟩
  | 43 => some ⟨Try.t43.desc, 1, 24, (some .nsl)⟩
  | 45 => some ⟨Try.t44.desc, 3, 32, (some (.agg [(.bool false), (.bool false), .nsl]))⟩
  | 50 => some ⟨Try.t49.desc, 2, 24, (some (.agg [(.bool false), (.str [])]))⟩
  | 55 => some ⟨Try.t55.desc, 3, 48, (some (.agg [(.str []), (.str []), (.str [])]))⟩
  | 57 => some ⟨Try.t57.desc, 1, 24, (some .nsl)⟩
  | 59 => some ⟨Try.t58.desc, 4, 56, (some (.agg [(.int .i64 (0)), (.str []), .nsl, (.int .i64 (0))]))⟩
  | 70 => some ⟨Try.t69.desc, 4, 96, (some (.agg [.nsl, .nsl, .nsl, .nsl]))⟩
  | 75 => some ⟨Try.t75.desc, 1, 8, (some .nfunc)⟩
  | 79 => some ⟨Try.t78.desc, 6, 96, (some (.agg [(.str []), .nsl, (.int .i64 (0)), (.str []), .nsl, (.bool false)]))⟩
  | 81 => some ⟨Try.t80.desc, 6, 96, (some (.agg [(.str []), .nsl, (.int .i64 (0)), (.str []), .nsl, (.bool false)]))⟩
  | 83 => some ⟨Try.t82.desc, 4, 48, (some (.agg [(.str []), (.bool false), (.bool false), .nsl]))⟩
  | 85 => some ⟨Try.t84.desc, 4, 48, (some (.agg [(.str []), (.bool false), (.bool false), .nsl]))⟩
  | 86 => some ⟨Try.t49.desc, 2, 24, (some (.agg [(.bool false), (.str [])]))⟩
  | 92 => some ⟨Try.t92.desc, 1, 8, (some .nfunc)⟩
  | 94 => some ⟨Try.t94.desc, 1, 8, (some .nfunc)⟩
  | 96 => some ⟨Try.t96.desc, 1, 8, (some .nfunc)⟩
  | 98 => some ⟨Try.t98.desc, 1, 8, (some .nptr)⟩
  | 107 => some ⟨Try.t106.desc, 3, 72, (some (.agg [.nsl, .nsl, .nsl]))⟩
  | 108 => some ⟨Try.t108.desc, 1, 8, (some .nfunc)⟩
  | 109 => some ⟨Try.t109.desc, 1, 8, (some .nptr)⟩
  | 111 => some ⟨Try.t110.desc, 2, 32, (some (.agg [.nsl, (.int .i64 (0))]))⟩
  | 113 => some ⟨Try.t113.desc, 3, 3, (some (.agg [(.bool false), (.bool false), (.bool false)]))⟩
  | 114 => some ⟨Try.t114.desc, 1, 8, (some .nmap)⟩
  | 117 => some ⟨Try.t117.desc, 1, 8, (some .nptr)⟩
  | 123 => some ⟨Try.t123.desc, 1, 8, (some .nmap)⟩
  | 127 => some ⟨Try.t127.desc, 1, 8, (some .nfunc)⟩
  | 129 => some ⟨Try.t129.desc, 1, 8, (some .nfunc)⟩
  | _ => none

def ft : FuncId → Option CF
  | 3 => some cf3
  | 4 => some cf4
  | 5 => some cf5
  | 6 => some cf6
  | 7 => some cf7
  | 8 => some cf8
  | 9 => some cf9
  | 10 => some cf10
  | 11 => some cf11
  | 12 => some cf12
  | 13 => some cf13
  | 14 => some cf14
  | 15 => some cf15
  | 16 => some cf16
  | 17 => some cf17
  | 18 => some cf18
  | 19 => some cf19
  | 20 => some cf20
  | 21 => some cf21
  | 22 => some cf22
  | 23 => some cf23
  | 24 => some cf24
  | 25 => some cf25
  | 26 => some cf26
  | 27 => some cf27
  | 28 => some cf28
  | 29 => some cf29
  | 30 => some cf30
  | 31 => some cf31
  | 32 => some cf32
  | 33 => some cf33
  | 34 => some cf34
  | 35 => some cf35
  | 36 => some cf36
  | 37 => some cf37
  | 38 => some cf38
  | 39 => some cf39
  | 40 => some cf40
  | 41 => some cf41
  | 42 => some cf42
  | 43 => some cf43
  | 44 => some cf44
  | 45 => some cf45
  | 46 => some cf46
  | 47 => some cf47
  | 48 => some cf48
  | 49 => some cf49
  | 50 => some cf50
  | 51 => some cf51
  | 52 => some cf52
  | 53 => some cf53
  | 54 => some cf54
  | 55 => some cf55
  | 56 => some cf56
  | 57 => some cf57
  | 58 => some cf58
  | 59 => some cf59
  | 60 => some cf60
  | 61 => some cf61
  | 62 => some cf62
  | 63 => some cf63
  | 64 => some cf64
  | 65 => some cf65
  | 66 => some cf66
  | 67 => some cf67
  | 68 => some cf68
  | 69 => some cf69
  | 70 => some cf70
  | 71 => some cf71
  | 72 => some cf72
  | 73 => some cf73
  | 74 => some cf74
  | 75 => some cf75
  | 76 => some cf76
  | 77 => some cf77
  | 78 => some cf78
  | 79 => some cf79
  | 80 => some cf80
  | 81 => some cf81
  | _ => none

theorem zok {o : Option Value} {z : Option V} (h : o.bind (ofC 100) = z) : ∀ z', z = some z' → ∃ u, o = some u ∧ ofC 100 u = some z' := fun z' hz => by rw [hz] at h; exact Option.bind_eq_some_iff.1 h

theorem tok : TyOk Try.prog ty := by
  refine ⟨fun t i h => ?_, fun t i h => ?_⟩
  · unfold ty at h
    split at h <;> cases h
    · exact ⟨Try.t3, by kernel_rfl, by kernel_rfl, by kernel_rfl, zok (by kernel_rfl)⟩
    · exact ⟨Try.t4, by kernel_rfl, by kernel_rfl, by kernel_rfl, zok (by kernel_rfl)⟩
    · exact ⟨Try.t9, by kernel_rfl, by kernel_rfl, by kernel_rfl, zok (by kernel_rfl)⟩
    · exact ⟨Try.t22, by kernel_rfl, by kernel_rfl, by kernel_rfl, zok (by kernel_rfl)⟩
    · exact ⟨Try.t23, by kernel_rfl, by kernel_rfl, by kernel_rfl, zok (by kernel_rfl)⟩
    · exact ⟨Try.t24, by kernel_rfl, by kernel_rfl, by kernel_rfl, zok (by kernel_rfl)⟩
    · exact ⟨Try.t26, by kernel_rfl, by kernel_rfl, by kernel_rfl, zok (by kernel_rfl)⟩
    · exact ⟨Try.t27, by kernel_rfl, by kernel_rfl, by kernel_rfl, zok (by kernel_rfl)⟩
    · exact ⟨Try.t29, by kernel_rfl, by kernel_rfl, by kernel_rfl, zok (by kernel_rfl)⟩
    · exact ⟨Try.t30, by kernel_rfl, by kernel_rfl, by kernel_rfl, zok (by kernel_rfl)⟩
    · exact ⟨Try.t32, by kernel_rfl, by kernel_rfl, by kernel_rfl, zok (by kernel_rfl)⟩
    · exact ⟨Try.t35, by kernel_rfl, by kernel_rfl, by kernel_rfl, zok (by kernel_rfl)⟩
    · exact ⟨Try.t37, by kernel_rfl, by kernel_rfl, by kernel_rfl, zok (by kernel_rfl)⟩
    · exact ⟨Try.t39, by kernel_rfl, by kernel_rfl, by kernel_rfl, zok (by kernel_rfl)⟩
    · exact ⟨Try.t41, by kernel_rfl, by kernel_rfl, by kernel_rfl, zok (by kernel_rfl)⟩
    · exact ⟨Try.t43, by kernel_rfl, by kernel_rfl, by kernel_rfl, zok (by kernel_rfl)⟩
    · exact ⟨Try.t45, by kernel_rfl, by kernel_rfl, by kernel_rfl, zok (by kernel_rfl)⟩
    · exact ⟨Try.t50, by kernel_rfl, by kernel_rfl, by kernel_rfl, zok (by kernel_rfl)⟩
    · exact ⟨Try.t55, by kernel_rfl, by kernel_rfl, by kernel_rfl, zok (by kernel_rfl)⟩
    · exact ⟨Try.t57, by kernel_rfl, by kernel_rfl, by kernel_rfl, zok (by kernel_rfl)⟩
    · exact ⟨Try.t59, by kernel_rfl, by kernel_rfl, by kernel_rfl, zok (by kernel_rfl)⟩
    · exact ⟨Try.t70, by kernel_rfl, by kernel_rfl, by kernel_rfl, zok (by kernel_rfl)⟩
    · exact ⟨Try.t75, by kernel_rfl, by kernel_rfl, by kernel_rfl, zok (by kernel_rfl)⟩
    · exact ⟨Try.t79, by kernel_rfl, by kernel_rfl, by kernel_rfl, zok (by kernel_rfl)⟩
    · exact ⟨Try.t81, by kernel_rfl, by kernel_rfl, by kernel_rfl, zok (by kernel_rfl)⟩
    · exact ⟨Try.t83, by kernel_rfl, by kernel_rfl, by kernel_rfl, zok (by kernel_rfl)⟩
    · exact ⟨Try.t85, by kernel_rfl, by kernel_rfl, by kernel_rfl, zok (by kernel_rfl)⟩
    · exact ⟨Try.t86, by kernel_rfl, by kernel_rfl, by kernel_rfl, zok (by kernel_rfl)⟩
    · exact ⟨Try.t92, by kernel_rfl, by kernel_rfl, by kernel_rfl, zok (by kernel_rfl)⟩
    · exact ⟨Try.t94, by kernel_rfl, by kernel_rfl, by kernel_rfl, zok (by kernel_rfl)⟩
    · exact ⟨Try.t96, by kernel_rfl, by kernel_rfl, by kernel_rfl, zok (by kernel_rfl)⟩
    · exact ⟨Try.t98, by kernel_rfl, by kernel_rfl, by kernel_rfl, zok (by kernel_rfl)⟩
    · exact ⟨Try.t107, by kernel_rfl, by kernel_rfl, by kernel_rfl, zok (by kernel_rfl)⟩
    · exact ⟨Try.t108, by kernel_rfl, by kernel_rfl, by kernel_rfl, zok (by kernel_rfl)⟩
    · exact ⟨Try.t109, by kernel_rfl, by kernel_rfl, by kernel_rfl, zok (by kernel_rfl)⟩
    · exact ⟨Try.t111, by kernel_rfl, by kernel_rfl, by kernel_rfl, zok (by kernel_rfl)⟩
    · exact ⟨Try.t113, by kernel_rfl, by kernel_rfl, by kernel_rfl, zok (by kernel_rfl)⟩
    · exact ⟨Try.t114, by kernel_rfl, by kernel_rfl, by kernel_rfl, zok (by kernel_rfl)⟩
    · exact ⟨Try.t117, by kernel_rfl, by kernel_rfl, by kernel_rfl, zok (by kernel_rfl)⟩
    · exact ⟨Try.t123, by kernel_rfl, by kernel_rfl, by kernel_rfl, zok (by kernel_rfl)⟩
    · exact ⟨Try.t127, by kernel_rfl, by kernel_rfl, by kernel_rfl, zok (by kernel_rfl)⟩
    · exact ⟨Try.t129, by kernel_rfl, by kernel_rfl, by kernel_rfl, zok (by kernel_rfl)⟩
  · unfold ty at h
    split at h <;> cases h
    · kernel_rfl
    · kernel_rfl
    · kernel_rfl
    · kernel_rfl
    · kernel_rfl
    · kernel_rfl
    · kernel_rfl
    · kernel_rfl
    · kernel_rfl
    · kernel_rfl
    · kernel_rfl
    · kernel_rfl
    · kernel_rfl
    · kernel_rfl
    · kernel_rfl
    · kernel_rfl
    · kernel_rfl
    · kernel_rfl
    · kernel_rfl
    · kernel_rfl
    · kernel_rfl
    · kernel_rfl
    · kernel_rfl
    · kernel_rfl
    · kernel_rfl
    · kernel_rfl
    · kernel_rfl
    · kernel_rfl
    · kernel_rfl
    · kernel_rfl
    · kernel_rfl
    · kernel_rfl
    · kernel_rfl
    · kernel_rfl
    · kernel_rfl
    · kernel_rfl
    · kernel_rfl
    · kernel_rfl
    · kernel_rfl
    · kernel_rfl
    · kernel_rfl
    · kernel_rfl

theorem comp3 : cFn ty Try.f3 3 fh3 = some cf3 := by kernel_rfl
theorem comp4 : cFn ty Try.f4 3 fh4 = some cf4 := by kernel_rfl
theorem comp5 : cFn ty Try.f5 2 fh5 = some cf5 := by kernel_rfl
theorem comp6 : cFn ty Try.f6 3 fh6 = some cf6 := by kernel_rfl
theorem comp7 : cFn ty Try.f7 2 fh7 = some cf7 := by kernel_rfl
theorem comp8 : cFn ty Try.f8 2 fh8 = some cf8 := by kernel_rfl
theorem comp9 : cFn ty Try.f9 1 fh9 = some cf9 := by kernel_rfl
theorem comp10 : cFn ty Try.f10 1 fh10 = some cf10 := by kernel_rfl
theorem comp11 : cFn ty Try.f11 1 fh11 = some cf11 := by kernel_rfl
theorem comp12 : cFn ty Try.f12 1 fh12 = some cf12 := by kernel_rfl
theorem comp13 : cFn ty Try.f13 1 fh13 = some cf13 := by kernel_rfl
theorem comp14 : cFn ty Try.f14 1 fh14 = some cf14 := by kernel_rfl
theorem comp15 : cFn ty Try.f15 4 fh15 = some cf15 := by kernel_rfl
theorem comp16 : cFn ty Try.f16 0 fh16 = some cf16 := by kernel_rfl
theorem comp17 : cFn ty Try.f17 2 fh17 = some cf17 := by kernel_rfl
theorem comp18 : cFn ty Try.f18 2 fh18 = some cf18 := by kernel_rfl
theorem comp19 : cFn ty Try.f19 2 fh19 = some cf19 := by kernel_rfl
theorem comp20 : cFn ty Try.f20 2 fh20 = some cf20 := by kernel_rfl
theorem comp21 : cFn ty Try.f21 2 fh21 = some cf21 := by kernel_rfl
theorem comp22 : cFn ty Try.f22 2 fh22 = some cf22 := by kernel_rfl
theorem comp23 : cFn ty Try.f23 2 fh23 = some cf23 := by kernel_rfl
theorem comp24 : cFn ty Try.f24 2 fh24 = some cf24 := by kernel_rfl
theorem comp25 : cFn ty Try.f25 1 fh25 = some cf25 := by kernel_rfl
theorem comp26 : cFn ty Try.f26 1 fh26 = some cf26 := by kernel_rfl
theorem comp27 : cFn ty Try.f27 1 fh27 = some cf27 := by kernel_rfl
theorem comp28 : cFn ty Try.f28 4 fh28 = some cf28 := by kernel_rfl
theorem comp29 : cFn ty Try.f29 1 fh29 = some cf29 := by kernel_rfl
theorem comp30 : cFn ty Try.f30 0 fh30 = some cf30 := by kernel_rfl
theorem comp31 : cFn ty Try.f31 2 fh31 = some cf31 := by kernel_rfl
theorem comp32 : cFn ty Try.f32 2 fh32 = some cf32 := by kernel_rfl
theorem comp33 : cFn ty Try.f33 2 fh33 = some cf33 := by kernel_rfl
theorem comp34 : cFn ty Try.f34 1 fh34 = some cf34 := by kernel_rfl
theorem comp35 : cFn ty Try.f35 2 fh35 = some cf35 := by kernel_rfl
theorem comp36 : cFn ty Try.f36 2 fh36 = some cf36 := by kernel_rfl
theorem comp37 : cFn ty Try.f37 2 fh37 = some cf37 := by kernel_rfl
theorem comp38 : cFn ty Try.f38 2 fh38 = some cf38 := by kernel_rfl
theorem comp39 : cFn ty Try.f39 2 fh39 = some cf39 := by kernel_rfl
theorem comp40 : cFn ty Try.f40 2 fh40 = some cf40 := by kernel_rfl
theorem comp41 : cFn ty Try.f41 2 fh41 = some cf41 := by kernel_rfl
theorem comp42 : cFn ty Try.f42 1 fh42 = some cf42 := by kernel_rfl
theorem comp43 : cFn ty Try.f43 1 fh43 = some cf43 := by kernel_rfl
theorem comp44 : cFn ty Try.f44 2 fh44 = some cf44 := by kernel_rfl
theorem comp45 : cFn ty Try.f45 2 fh45 = some cf45 := by kernel_rfl
theorem comp46 : cFn ty Try.f46 1 fh46 = some cf46 := by kernel_rfl
theorem comp47 : cFn ty Try.f47 1 fh47 = some cf47 := by kernel_rfl
theorem comp48 : cFn ty Try.f48 3 fh48 = some cf48 := by kernel_rfl
theorem comp49 : cFn ty Try.f49 3 fh49 = some cf49 := by kernel_rfl
theorem comp50 : cFn ty Try.f50 4 fh50 = some cf50 := by kernel_rfl
theorem comp51 : cFn ty Try.f51 3 fh51 = some cf51 := by kernel_rfl
theorem comp52 : cFn ty Try.f52 2 fh52 = some cf52 := by kernel_rfl
theorem comp53 : cFn ty Try.f53 1 fh53 = some cf53 := by kernel_rfl
theorem comp54 : cFn ty Try.f54 3 fh54 = some cf54 := by kernel_rfl
theorem comp55 : cFn ty Try.f55 3 fh55 = some cf55 := by kernel_rfl
theorem comp56 : cFn ty Try.f56 1 fh56 = some cf56 := by kernel_rfl
theorem comp57 : cFn ty Try.f57 0 fh57 = some cf57 := by kernel_rfl
theorem comp58 : cFn ty Try.f58 2 fh58 = some cf58 := by kernel_rfl
theorem comp59 : cFn ty Try.f59 2 fh59 = some cf59 := by kernel_rfl
theorem comp60 : cFn ty Try.f60 2 fh60 = some cf60 := by kernel_rfl
theorem comp61 : cFn ty Try.f61 1 fh61 = some cf61 := by kernel_rfl
theorem comp62 : cFn ty Try.f62 3 fh62 = some cf62 := by kernel_rfl
theorem comp63 : cFn ty Try.f63 2 fh63 = some cf63 := by kernel_rfl
theorem comp64 : cFn ty Try.f64 1 fh64 = some cf64 := by kernel_rfl
theorem comp65 : cFn ty Try.f65 2 fh65 = some cf65 := by kernel_rfl
theorem comp66 : cFn ty Try.f66 4 fh66 = some cf66 := by kernel_rfl
theorem comp67 : cFn ty Try.f67 2 fh67 = some cf67 := by kernel_rfl
theorem comp68 : cFn ty Try.f68 3 fh68 = some cf68 := by kernel_rfl
theorem comp69 : cFn ty Try.f69 3 fh69 = some cf69 := by kernel_rfl
theorem comp70 : cFn ty Try.f70 2 fh70 = some cf70 := by kernel_rfl
theorem comp71 : cFn ty Try.f71 3 fh71 = some cf71 := by kernel_rfl
theorem comp72 : cFn ty Try.f72 2 fh72 = some cf72 := by kernel_rfl
theorem comp73 : cFn ty Try.f73 2 fh73 = some cf73 := by kernel_rfl
theorem comp74 : cFn ty Try.f74 2 fh74 = some cf74 := by kernel_rfl
theorem comp75 : cFn ty Try.f75 3 fh75 = some cf75 := by kernel_rfl
theorem comp76 : cFn ty Try.f76 2 fh76 = some cf76 := by kernel_rfl
theorem comp77 : cFn ty Try.f77 2 fh77 = some cf77 := by kernel_rfl
theorem comp78 : cFn ty Try.f78 1 fh78 = some cf78 := by kernel_rfl
theorem comp79 : cFn ty Try.f79 2 fh79 = some cf79 := by kernel_rfl
theorem comp80 : cFn ty Try.f80 1 fh80 = some cf80 := by kernel_rfl
theorem comp81 : cFn ty Try.f81 1 fh81 = some cf81 := by kernel_rfl

theorem ftOk : FtOk Try.prog ty ft := by
  intro f cf h
  unfold ft at h
  split at h <;> cases h
  · exact ⟨Try.f3, fh3, Try.func3, comp3⟩
  · exact ⟨Try.f4, fh4, Try.func4, comp4⟩
  · exact ⟨Try.f5, fh5, Try.func5, comp5⟩
  · exact ⟨Try.f6, fh6, Try.func6, comp6⟩
  · exact ⟨Try.f7, fh7, Try.func7, comp7⟩
  · exact ⟨Try.f8, fh8, Try.func8, comp8⟩
  · exact ⟨Try.f9, fh9, Try.func9, comp9⟩
  · exact ⟨Try.f10, fh10, Try.func10, comp10⟩
  · exact ⟨Try.f11, fh11, Try.func11, comp11⟩
  · exact ⟨Try.f12, fh12, Try.func12, comp12⟩
  · exact ⟨Try.f13, fh13, Try.func13, comp13⟩
  · exact ⟨Try.f14, fh14, Try.func14, comp14⟩
  · exact ⟨Try.f15, fh15, Try.func15, comp15⟩
  · exact ⟨Try.f16, fh16, Try.func16, comp16⟩
  · exact ⟨Try.f17, fh17, Try.func17, comp17⟩
  · exact ⟨Try.f18, fh18, Try.func18, comp18⟩
  · exact ⟨Try.f19, fh19, Try.func19, comp19⟩
  · exact ⟨Try.f20, fh20, Try.func20, comp20⟩
  · exact ⟨Try.f21, fh21, Try.func21, comp21⟩
  · exact ⟨Try.f22, fh22, Try.func22, comp22⟩
  · exact ⟨Try.f23, fh23, Try.func23, comp23⟩
  · exact ⟨Try.f24, fh24, Try.func24, comp24⟩
  · exact ⟨Try.f25, fh25, Try.func25, comp25⟩
  · exact ⟨Try.f26, fh26, Try.func26, comp26⟩
  · exact ⟨Try.f27, fh27, Try.func27, comp27⟩
  · exact ⟨Try.f28, fh28, Try.func28, comp28⟩
  · exact ⟨Try.f29, fh29, Try.func29, comp29⟩
  · exact ⟨Try.f30, fh30, Try.func30, comp30⟩
  · exact ⟨Try.f31, fh31, Try.func31, comp31⟩
  · exact ⟨Try.f32, fh32, Try.func32, comp32⟩
  · exact ⟨Try.f33, fh33, Try.func33, comp33⟩
  · exact ⟨Try.f34, fh34, Try.func34, comp34⟩
  · exact ⟨Try.f35, fh35, Try.func35, comp35⟩
  · exact ⟨Try.f36, fh36, Try.func36, comp36⟩
  · exact ⟨Try.f37, fh37, Try.func37, comp37⟩
  · exact ⟨Try.f38, fh38, Try.func38, comp38⟩
  · exact ⟨Try.f39, fh39, Try.func39, comp39⟩
  · exact ⟨Try.f40, fh40, Try.func40, comp40⟩
  · exact ⟨Try.f41, fh41, Try.func41, comp41⟩
  · exact ⟨Try.f42, fh42, Try.func42, comp42⟩
  · exact ⟨Try.f43, fh43, Try.func43, comp43⟩
  · exact ⟨Try.f44, fh44, Try.func44, comp44⟩
  · exact ⟨Try.f45, fh45, Try.func45, comp45⟩
  · exact ⟨Try.f46, fh46, Try.func46, comp46⟩
  · exact ⟨Try.f47, fh47, Try.func47, comp47⟩
  · exact ⟨Try.f48, fh48, Try.func48, comp48⟩
  · exact ⟨Try.f49, fh49, Try.func49, comp49⟩
  · exact ⟨Try.f50, fh50, Try.func50, comp50⟩
  · exact ⟨Try.f51, fh51, Try.func51, comp51⟩
  · exact ⟨Try.f52, fh52, Try.func52, comp52⟩
  · exact ⟨Try.f53, fh53, Try.func53, comp53⟩
  · exact ⟨Try.f54, fh54, Try.func54, comp54⟩
  · exact ⟨Try.f55, fh55, Try.func55, comp55⟩
  · exact ⟨Try.f56, fh56, Try.func56, comp56⟩
  · exact ⟨Try.f57, fh57, Try.func57, comp57⟩
  · exact ⟨Try.f58, fh58, Try.func58, comp58⟩
  · exact ⟨Try.f59, fh59, Try.func59, comp59⟩
  · exact ⟨Try.f60, fh60, Try.func60, comp60⟩
  · exact ⟨Try.f61, fh61, Try.func61, comp61⟩
  · exact ⟨Try.f62, fh62, Try.func62, comp62⟩
  · exact ⟨Try.f63, fh63, Try.func63, comp63⟩
  · exact ⟨Try.f64, fh64, Try.func64, comp64⟩
  · exact ⟨Try.f65, fh65, Try.func65, comp65⟩
  · exact ⟨Try.f66, fh66, Try.func66, comp66⟩
  · exact ⟨Try.f67, fh67, Try.func67, comp67⟩
  · exact ⟨Try.f68, fh68, Try.func68, comp68⟩
  · exact ⟨Try.f69, fh69, Try.func69, comp69⟩
  · exact ⟨Try.f70, fh70, Try.func70, comp70⟩
  · exact ⟨Try.f71, fh71, Try.func71, comp71⟩
  · exact ⟨Try.f72, fh72, Try.func72, comp72⟩
  · exact ⟨Try.f73, fh73, Try.func73, comp73⟩
  · exact ⟨Try.f74, fh74, Try.func74, comp74⟩
  · exact ⟨Try.f75, fh75, Try.func75, comp75⟩
  · exact ⟨Try.f76, fh76, Try.func76, comp76⟩
  · exact ⟨Try.f77, fh77, Try.func77, comp77⟩
  · exact ⟨Try.f78, fh78, Try.func78, comp78⟩
  · exact ⟨Try.f79, fh79, Try.func79, comp79⟩
  · exact ⟨Try.f80, fh80, Try.func80, comp80⟩
  · exact ⟨Try.f81, fh81, Try.func81, comp81⟩

end Go.Eng
