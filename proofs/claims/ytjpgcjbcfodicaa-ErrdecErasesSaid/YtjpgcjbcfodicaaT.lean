/- What is taken off the loaded program: numbers, bodies, types. No condition. -/
import Derived.Test.YtjpgcjbcfodicaaEngC
import Derived.Test.YtjpgcjbcfodicaaProg
import Derived.KernelRfl
namespace Go.Eng
open Go.Proofs
set_option linter.unusedVariables false
noncomputable abbrev PP : Program := Try.prog
abbrev t_func : Nat := 1
abbrev t_int : Nat := 3
abbrev t_bool : Nat := 4
abbrev t_uint8 : Nat := 5
abbrev t_string : Nat := 9
abbrev t_sl_uint8 : Nat := 22
abbrev t_sl_bool : Nat := 23
abbrev t_ptr_gf_Field : Nat := 25
abbrev t_api_Errno : Nat := 27
abbrev t_sl_sl_uint8 : Nat := 29
abbrev t_sl_sl_uint8_api_Errno : Nat := 30
abbrev t_sl_int : Nat := 34
abbrev t_sl_uint8_sl_int_api_Errno : Nat := 35
abbrev t_sl_sl_uint8_sl_int_api_Errno : Nat := 41
abbrev t_510_uint8 : Nat := 44
abbrev t_256_int : Nat := 45
abbrev t_struct_exp_510_uint8_log_256_int : Nat := 46
abbrev t_gf_Field : Nat := 47
abbrev t_func_int_int : Nat := 48
abbrev t_uint : Nat := 49
abbrev t_struct_Rows_int_Cols_int_A_sl_uint8 : Nat := 50
abbrev t_api_Matrix : Nat := 51
abbrev t_api_Matrix_api_Errno : Nat := 52
abbrev t_func_int_sl_uint8 : Nat := 55
abbrev t_sl_uint8_api_Errno : Nat := 57
abbrev t_sl_uint8_sl_uint8_api_Errno : Nat := 62
abbrev t_uint8_api_Errno : Nat := 66
abbrev t_func_uint8_bool : Nat := 70
abbrev t_sl_int_api_Errno : Nat := 72
abbrev t_func_int_api_Errno : Nat := 78
abbrev t_func_int_uint8 : Nat := 82
abbrev t_func_int_int_uint8 : Nat := 89
abbrev t_func_int_bool : Nat := 98
abbrev t_slices_sortedHint : Nat := 100
abbrev t_int_slices_sortedHint : Nat := 101
abbrev t_int_bool : Nat := 106
abbrev t_uint32 : Nat := 109
abbrev t_uint64 : Nat := 111
abbrev t_slices_xorshift : Nat := 112
abbrev t_ptr_int : Nat := 116
abbrev t_ptr_slices_xorshift : Nat := 118
abbrev t_int_int : Nat := 119
instance und0 : Und PP 0 (Go.TypeDesc.tuple #[]) := ⟨Try.underlying0⟩
instance und1 : Und PP 1 (Go.TypeDesc.func #[] #[] false) := ⟨Try.underlying1⟩
instance und3 : Und PP 3 (Go.TypeDesc.int Go.IntKind.i64) := ⟨Try.underlying3⟩
instance und4 : Und PP 4 Go.TypeDesc.bool := ⟨Try.underlying4⟩
instance und5 : Und PP 5 (Go.TypeDesc.int Go.IntKind.u8) := ⟨Try.underlying5⟩
instance und9 : Und PP 9 Go.TypeDesc.string := ⟨Try.underlying9⟩
instance und22 : Und PP 22 (Go.TypeDesc.slice 5) := ⟨Try.underlying22⟩
instance und23 : Und PP 23 (Go.TypeDesc.slice 4) := ⟨Try.underlying23⟩
instance und25 : Und PP 25 (Go.TypeDesc.pointer 47) := ⟨Try.underlying25⟩
instance und27 : Und PP 27 (Go.TypeDesc.int Go.IntKind.i64) := ⟨Try.underlying27⟩
instance und29 : Und PP 29 (Go.TypeDesc.slice 22) := ⟨Try.underlying29⟩
instance und30 : Und PP 30 (Go.TypeDesc.tuple #[29, 27]) := ⟨Try.underlying30⟩
instance und34 : Und PP 34 (Go.TypeDesc.slice 3) := ⟨Try.underlying34⟩
instance und35 : Und PP 35 (Go.TypeDesc.tuple #[22, 34, 27]) := ⟨Try.underlying35⟩
instance und41 : Und PP 41 (Go.TypeDesc.tuple #[29, 34, 27]) := ⟨Try.underlying41⟩
instance und44 : Und PP 44 (Go.TypeDesc.array 510 5) := ⟨Try.underlying44⟩
instance und45 : Und PP 45 (Go.TypeDesc.array 256 3) := ⟨Try.underlying45⟩
instance und48 : Und PP 48 (Go.TypeDesc.func #[3, 3] #[] false) := ⟨Try.underlying48⟩
instance und49 : Und PP 49 (Go.TypeDesc.int Go.IntKind.u64) := ⟨Try.underlying49⟩
instance und52 : Und PP 52 (Go.TypeDesc.tuple #[51, 27]) := ⟨Try.underlying52⟩
instance und55 : Und PP 55 (Go.TypeDesc.func #[3, 22] #[] false) := ⟨Try.underlying55⟩
instance und57 : Und PP 57 (Go.TypeDesc.tuple #[22, 27]) := ⟨Try.underlying57⟩
instance und62 : Und PP 62 (Go.TypeDesc.tuple #[22, 22, 27]) := ⟨Try.underlying62⟩
instance und66 : Und PP 66 (Go.TypeDesc.tuple #[5, 27]) := ⟨Try.underlying66⟩
instance und70 : Und PP 70 (Go.TypeDesc.func #[5] #[4] false) := ⟨Try.underlying70⟩
instance und72 : Und PP 72 (Go.TypeDesc.tuple #[34, 27]) := ⟨Try.underlying72⟩
instance und76 : Und PP 76 (Go.TypeDesc.func #[3] #[22] false) := ⟨Try.underlying76⟩
instance und78 : Und PP 78 (Go.TypeDesc.func #[3] #[27] false) := ⟨Try.underlying78⟩
instance und82 : Und PP 82 (Go.TypeDesc.func #[3] #[5] false) := ⟨Try.underlying82⟩
instance und89 : Und PP 89 (Go.TypeDesc.func #[3, 3] #[5] false) := ⟨Try.underlying89⟩
instance und98 : Und PP 98 (Go.TypeDesc.func #[3] #[4] false) := ⟨Try.underlying98⟩
instance und100 : Und PP 100 (Go.TypeDesc.int Go.IntKind.i64) := ⟨Try.underlying100⟩
instance und101 : Und PP 101 (Go.TypeDesc.tuple #[3, 100]) := ⟨Try.underlying101⟩
instance und106 : Und PP 106 (Go.TypeDesc.tuple #[3, 4]) := ⟨Try.underlying106⟩
instance und109 : Und PP 109 (Go.TypeDesc.int Go.IntKind.u32) := ⟨Try.underlying109⟩
instance und111 : Und PP 111 (Go.TypeDesc.int Go.IntKind.u64) := ⟨Try.underlying111⟩
instance und112 : Und PP 112 (Go.TypeDesc.int Go.IntKind.u64) := ⟨Try.underlying112⟩
instance und116 : Und PP 116 (Go.TypeDesc.pointer 3) := ⟨Try.underlying116⟩
instance und118 : Und PP 118 (Go.TypeDesc.pointer 112) := ⟨Try.underlying118⟩
instance und119 : Und PP 119 (Go.TypeDesc.tuple #[3, 3]) := ⟨Try.underlying119⟩
instance inf0 : Inf PP 0 (.tuple #[]) 1 0 := ⟨by kernel_rfl⟩
instance inf1 : Inf PP 1 .nilFunc 1 8 := ⟨by kernel_rfl⟩
instance inf3 : Inf PP 3 (.int .i64 0) 1 8 := ⟨by kernel_rfl⟩
instance inf4 : Inf PP 4 (.bool false) 1 1 := ⟨by kernel_rfl⟩
instance inf5 : Inf PP 5 (.int .u8 0) 1 1 := ⟨by kernel_rfl⟩
instance inf9 : Inf PP 9 (.string ByteArray.empty) 1 16 := ⟨by kernel_rfl⟩
instance inf22 : Inf PP 22 (.slice none 0 0) 1 24 := ⟨by kernel_rfl⟩
instance inf23 : Inf PP 23 (.slice none 0 0) 1 24 := ⟨by kernel_rfl⟩
instance inf25 : Inf PP 25 (.pointer none) 1 8 := ⟨by kernel_rfl⟩
instance inf27 : Inf PP 27 (.int .i64 0) 1 8 := ⟨by kernel_rfl⟩
instance inf29 : Inf PP 29 (.slice none 0 0) 1 24 := ⟨by kernel_rfl⟩
instance inf30 : Inf PP 30 (.tuple #[(.slice none 0 0), (.int .i64 0)]) 1 0 := ⟨by kernel_rfl⟩
instance inf34 : Inf PP 34 (.slice none 0 0) 1 24 := ⟨by kernel_rfl⟩
instance inf35 : Inf PP 35 (.tuple #[(.slice none 0 0), (.slice none 0 0), (.int .i64 0)]) 1 0 := ⟨by kernel_rfl⟩
instance inf41 : Inf PP 41 (.tuple #[(.slice none 0 0), (.slice none 0 0), (.int .i64 0)]) 1 0 := ⟨by kernel_rfl⟩
instance inf48 : Inf PP 48 .nilFunc 1 8 := ⟨by kernel_rfl⟩
instance inf49 : Inf PP 49 (.int .u64 0) 1 8 := ⟨by kernel_rfl⟩
instance inf50 : Inf PP 50 (.agg #[(.int .i64 0), (.int .i64 0), (.slice none 0 0)]) 3 40 := ⟨by kernel_rfl⟩
instance inf51 : Inf PP 51 (.agg #[(.int .i64 0), (.int .i64 0), (.slice none 0 0)]) 3 40 := ⟨by kernel_rfl⟩
instance inf52 : Inf PP 52 (.tuple #[(.agg #[(.int .i64 0), (.int .i64 0), (.slice none 0 0)]), (.int .i64 0)]) 1 0 := ⟨by kernel_rfl⟩
instance inf55 : Inf PP 55 .nilFunc 1 8 := ⟨by kernel_rfl⟩
instance inf57 : Inf PP 57 (.tuple #[(.slice none 0 0), (.int .i64 0)]) 1 0 := ⟨by kernel_rfl⟩
instance inf62 : Inf PP 62 (.tuple #[(.slice none 0 0), (.slice none 0 0), (.int .i64 0)]) 1 0 := ⟨by kernel_rfl⟩
instance inf66 : Inf PP 66 (.tuple #[(.int .u8 0), (.int .i64 0)]) 1 0 := ⟨by kernel_rfl⟩
instance inf70 : Inf PP 70 .nilFunc 1 8 := ⟨by kernel_rfl⟩
instance inf72 : Inf PP 72 (.tuple #[(.slice none 0 0), (.int .i64 0)]) 1 0 := ⟨by kernel_rfl⟩
instance inf76 : Inf PP 76 .nilFunc 1 8 := ⟨by kernel_rfl⟩
instance inf78 : Inf PP 78 .nilFunc 1 8 := ⟨by kernel_rfl⟩
instance inf82 : Inf PP 82 .nilFunc 1 8 := ⟨by kernel_rfl⟩
instance inf89 : Inf PP 89 .nilFunc 1 8 := ⟨by kernel_rfl⟩
instance inf98 : Inf PP 98 .nilFunc 1 8 := ⟨by kernel_rfl⟩
instance inf100 : Inf PP 100 (.int .i64 0) 1 8 := ⟨by kernel_rfl⟩
instance inf101 : Inf PP 101 (.tuple #[(.int .i64 0), (.int .i64 0)]) 1 0 := ⟨by kernel_rfl⟩
instance inf106 : Inf PP 106 (.tuple #[(.int .i64 0), (.bool false)]) 1 0 := ⟨by kernel_rfl⟩
instance inf109 : Inf PP 109 (.int .u32 0) 1 4 := ⟨by kernel_rfl⟩
instance inf111 : Inf PP 111 (.int .u64 0) 1 8 := ⟨by kernel_rfl⟩
instance inf112 : Inf PP 112 (.int .u64 0) 1 8 := ⟨by kernel_rfl⟩
instance inf116 : Inf PP 116 (.pointer none) 1 8 := ⟨by kernel_rfl⟩
instance inf118 : Inf PP 118 (.pointer none) 1 8 := ⟨by kernel_rfl⟩
instance inf119 : Inf PP 119 (.tuple #[(.int .i64 0), (.int .i64 0)]) 1 0 := ⟨by kernel_rfl⟩
instance fld47_0 : FldAt PP 47 0 0 := FldAt.of (by kernel_rfl)
instance fld47_1 : FldAt PP 47 1 510 := FldAt.of (by kernel_rfl)
instance fld51_0 : FldAt PP 51 0 0 := FldAt.of (by kernel_rfl)
instance fld51_1 : FldAt PP 51 1 1 := FldAt.of (by kernel_rfl)
instance fld51_2 : FldAt PP 51 2 2 := FldAt.of (by kernel_rfl)
instance sc0 : Sc PP 0 := ⟨by rw [Try.underlying0]; rfl⟩
instance sc1 : Sc PP 1 := ⟨by rw [Try.underlying1]; rfl⟩
instance sc3 : Sc PP 3 := ⟨by rw [Try.underlying3]; rfl⟩
instance sc4 : Sc PP 4 := ⟨by rw [Try.underlying4]; rfl⟩
instance sc5 : Sc PP 5 := ⟨by rw [Try.underlying5]; rfl⟩
instance sc9 : Sc PP 9 := ⟨by rw [Try.underlying9]; rfl⟩
instance sc22 : Sc PP 22 := ⟨by rw [Try.underlying22]; rfl⟩
instance sc23 : Sc PP 23 := ⟨by rw [Try.underlying23]; rfl⟩
instance sc25 : Sc PP 25 := ⟨by rw [Try.underlying25]; rfl⟩
instance sc27 : Sc PP 27 := ⟨by rw [Try.underlying27]; rfl⟩
instance sc29 : Sc PP 29 := ⟨by rw [Try.underlying29]; rfl⟩
instance sc30 : Sc PP 30 := ⟨by rw [Try.underlying30]; rfl⟩
instance sc34 : Sc PP 34 := ⟨by rw [Try.underlying34]; rfl⟩
instance sc35 : Sc PP 35 := ⟨by rw [Try.underlying35]; rfl⟩
instance sc41 : Sc PP 41 := ⟨by rw [Try.underlying41]; rfl⟩
instance sc48 : Sc PP 48 := ⟨by rw [Try.underlying48]; rfl⟩
instance sc49 : Sc PP 49 := ⟨by rw [Try.underlying49]; rfl⟩
instance sc52 : Sc PP 52 := ⟨by rw [Try.underlying52]; rfl⟩
instance sc55 : Sc PP 55 := ⟨by rw [Try.underlying55]; rfl⟩
instance sc57 : Sc PP 57 := ⟨by rw [Try.underlying57]; rfl⟩
instance sc62 : Sc PP 62 := ⟨by rw [Try.underlying62]; rfl⟩
instance sc66 : Sc PP 66 := ⟨by rw [Try.underlying66]; rfl⟩
instance sc70 : Sc PP 70 := ⟨by rw [Try.underlying70]; rfl⟩
instance sc72 : Sc PP 72 := ⟨by rw [Try.underlying72]; rfl⟩
instance sc76 : Sc PP 76 := ⟨by rw [Try.underlying76]; rfl⟩
instance sc78 : Sc PP 78 := ⟨by rw [Try.underlying78]; rfl⟩
instance sc82 : Sc PP 82 := ⟨by rw [Try.underlying82]; rfl⟩
instance sc89 : Sc PP 89 := ⟨by rw [Try.underlying89]; rfl⟩
instance sc98 : Sc PP 98 := ⟨by rw [Try.underlying98]; rfl⟩
instance sc100 : Sc PP 100 := ⟨by rw [Try.underlying100]; rfl⟩
instance sc101 : Sc PP 101 := ⟨by rw [Try.underlying101]; rfl⟩
instance sc106 : Sc PP 106 := ⟨by rw [Try.underlying106]; rfl⟩
instance sc109 : Sc PP 109 := ⟨by rw [Try.underlying109]; rfl⟩
instance sc111 : Sc PP 111 := ⟨by rw [Try.underlying111]; rfl⟩
instance sc112 : Sc PP 112 := ⟨by rw [Try.underlying112]; rfl⟩
instance sc116 : Sc PP 116 := ⟨by rw [Try.underlying116]; rfl⟩
instance sc118 : Sc PP 118 := ⟨by rw [Try.underlying118]; rfl⟩
instance sc119 : Sc PP 119 := ⟨by rw [Try.underlying119]; rfl⟩
instance ag44 : Ag PP 44 510 := ⟨by rw [Try.underlying44], by kernel_rfl⟩
instance ag45 : Ag PP 45 256 := ⟨by rw [Try.underlying45], by kernel_rfl⟩
instance ag46 : Ag PP 46 766 := ⟨by rw [Try.underlying46], by kernel_rfl⟩
instance ag47 : Ag PP 47 766 := ⟨by rw [Try.underlying47], by kernel_rfl⟩
instance ag50 : Ag PP 50 3 := ⟨by rw [Try.underlying50], by kernel_rfl⟩
instance lay50 : Lay PP 50 #[(0, 1), (1, 1), (2, 1)] #[(.int .i64 0), (.int .i64 0), (.slice none 0 0)] := ⟨fun w => by kernel_rfl⟩
instance ag51 : Ag PP 51 3 := ⟨by rw [Try.underlying51], by kernel_rfl⟩
instance lay51 : Lay PP 51 #[(0, 1), (1, 1), (2, 1)] #[(.int .i64 0), (.int .i64 0), (.slice none 0 0)] := ⟨fun w => by kernel_rfl⟩
instance fun3 : Fun PP 3 := ⟨by rw [Try.func3]; kernel_rfl⟩
abbrev f_aumbrylaw10_ErrdecErases : Nat := 3
theorem h_aumbrylaw10_ErrdecErases : PP.funcs[f_aumbrylaw10_ErrdecErases]? = some Try.f3 := Try.func3
instance fun4 : Fun PP 4 := ⟨by rw [Try.func4]; kernel_rfl⟩
abbrev f_aumbrylaw10_awake : Nat := 4
theorem h_aumbrylaw10_awake : PP.funcs[f_aumbrylaw10_awake]? = some Try.f4 := Try.func4
instance fun5 : Fun PP 5 := ⟨by rw [Try.func5]; kernel_rfl⟩
abbrev f_gf_New : Nat := 5
theorem h_gf_New : PP.funcs[f_gf_New]? = some Try.f5 := Try.func5
instance fun6 : Fun PP 6 := ⟨by rw [Try.func6]; kernel_rfl⟩
abbrev f_cauchy_Check : Nat := 6
theorem h_cauchy_Check : PP.funcs[f_cauchy_Check]? = some Try.f6 := Try.func6
instance fun7 : Fun PP 7 := ⟨by rw [Try.func7]; kernel_rfl⟩
abbrev f_bulk_Encode : Nat := 7
theorem h_bulk_Encode : PP.funcs[f_bulk_Encode]? = some Try.f7 := Try.func7
instance fun8 : Fun PP 8 := ⟨by rw [Try.func8]; kernel_rfl⟩
abbrev f_aumbryref08_Column : Nat := 8
theorem h_aumbryref08_Column : PP.funcs[f_aumbryref08_Column]? = some Try.f8 := Try.func8
instance fun9 : Fun PP 9 := ⟨by rw [Try.func9]; kernel_rfl⟩
abbrev f_aumbryref08_Line : Nat := 9
theorem h_aumbryref08_Line : PP.funcs[f_aumbryref08_Line]? = some Try.f9 := Try.func9
instance fun10 : Fun PP 10 := ⟨by rw [Try.func10]; kernel_rfl⟩
abbrev f_errdec_Word : Nat := 10
theorem h_errdec_Word : PP.funcs[f_errdec_Word]? = some Try.f10 := Try.func10
instance fun11 : Fun PP 11 := ⟨by rw [Try.func11]; kernel_rfl⟩
abbrev f_erase_Decode : Nat := 11
theorem h_erase_Decode : PP.funcs[f_erase_Decode]? = some Try.f11 := Try.func11
instance fun12 : Fun PP 12 := ⟨by rw [Try.func12]; kernel_rfl⟩
abbrev f_aumbrylaw10_count : Nat := 12
theorem h_aumbrylaw10_count : PP.funcs[f_aumbrylaw10_count]? = some Try.f12 := Try.func12
instance fun13 : Fun PP 13 := ⟨by rw [Try.func13]; kernel_rfl⟩
abbrev f_aumbryref02_Same : Nat := 13
theorem h_aumbryref02_Same : PP.funcs[f_aumbryref02_Same]? = some Try.f13 := Try.func13
instance fun14 : Fun PP 14 := ⟨by rw [Try.func14]; kernel_rfl⟩
abbrev f_errdec_Shards : Nat := 14
theorem h_errdec_Shards : PP.funcs[f_errdec_Shards]? = some Try.f14 := Try.func14
instance fun15 : Fun PP 15 := ⟨by rw [Try.func15]; kernel_rfl⟩
abbrev f_aumbryref06_Same : Nat := 15
theorem h_aumbryref06_Same : PP.funcs[f_aumbryref06_Same]? = some Try.f15 := Try.func15
instance fun16 : Fun PP 16 := ⟨by rw [Try.func16]; kernel_rfl⟩
abbrev f_gf_New_1 : Nat := 16
theorem h_gf_New_1 : PP.funcs[f_gf_New_1]? = some Try.f16 := Try.func16
instance fun17 : Fun PP 17 := ⟨by rw [Try.func17]; kernel_rfl⟩
abbrev f_bulk_checked : Nat := 17
theorem h_bulk_checked : PP.funcs[f_bulk_checked]? = some Try.f17 := Try.func17
instance fun18 : Fun PP 18 := ⟨by rw [Try.func18]; kernel_rfl⟩
abbrev f_bulk_own : Nat := 18
theorem h_bulk_own : PP.funcs[f_bulk_own]? = some Try.f18 := Try.func18
instance fun19 : Fun PP 19 := ⟨by rw [Try.func19]; kernel_rfl⟩
abbrev f_bulk_adder : Nat := 19
theorem h_bulk_adder : PP.funcs[f_bulk_adder]? = some Try.f19 := Try.func19
instance fun20 : Fun PP 20 := ⟨by rw [Try.func20]; kernel_rfl⟩
abbrev f_syndrome_Weights : Nat := 20
theorem h_syndrome_Weights : PP.funcs[f_syndrome_Weights]? = some Try.f20 := Try.func20
instance fun21 : Fun PP 21 := ⟨by rw [Try.func21]; kernel_rfl⟩
abbrev f_slices_Clone_byte_byte : Nat := 21
theorem h_slices_Clone_byte_byte : PP.funcs[f_slices_Clone_byte_byte]? = some Try.f21 := Try.func21
instance fun22 : Fun PP 22 := ⟨by rw [Try.func22]; kernel_rfl⟩
abbrev f_syndrome_Of : Nat := 22
theorem h_syndrome_Of : PP.funcs[f_syndrome_Of]? = some Try.f22 := Try.func22
instance fun23 : Fun PP 23 := ⟨by rw [Try.func23]; kernel_rfl⟩
abbrev f_keyeq_Locator : Nat := 23
theorem h_keyeq_Locator : PP.funcs[f_keyeq_Locator]? = some Try.f23 := Try.func23
instance fun24 : Fun PP 24 := ⟨by rw [Try.func24]; kernel_rfl⟩
abbrev f_keyeq_Solve : Nat := 24
theorem h_keyeq_Solve : PP.funcs[f_keyeq_Solve]? = some Try.f24 := Try.func24
instance fun25 : Fun PP 25 := ⟨by rw [Try.func25]; kernel_rfl⟩
abbrev f_poly_Mul : Nat := 25
theorem h_poly_Mul : PP.funcs[f_poly_Mul]? = some Try.f25 := Try.func25
instance fun26 : Fun PP 26 := ⟨by rw [Try.func26]; kernel_rfl⟩
abbrev f_poly_Deriv : Nat := 26
theorem h_poly_Deriv : PP.funcs[f_poly_Deriv]? = some Try.f26 := Try.func26
instance fun27 : Fun PP 27 := ⟨by rw [Try.func27]; kernel_rfl⟩
abbrev f_poly_Eval : Nat := 27
theorem h_poly_Eval : PP.funcs[f_poly_Eval]? = some Try.f27 := Try.func27
instance fun28 : Fun PP 28 := ⟨by rw [Try.func28]; kernel_rfl⟩
abbrev f_gf_Field_Div : Nat := 28
theorem h_gf_Field_Div : PP.funcs[f_gf_Field_Div]? = some Try.f28 := Try.func28
instance fun29 : Fun PP 29 := ⟨by rw [Try.func29]; kernel_rfl⟩
abbrev f_gf_Field_Mul : Nat := 29
theorem h_gf_Field_Mul : PP.funcs[f_gf_Field_Mul]? = some Try.f29 := Try.func29
instance fun30 : Fun PP 30 := ⟨by rw [Try.func30]; kernel_rfl⟩
abbrev f_slices_ContainsFunc_byte_byte : Nat := 30
theorem h_slices_ContainsFunc_byte_byte : PP.funcs[f_slices_ContainsFunc_byte_byte]? = some Try.f30 := Try.func30
instance fun31 : Fun PP 31 := ⟨by rw [Try.func31]; kernel_rfl⟩
abbrev f_errdec_Word_1 : Nat := 31
theorem h_errdec_Word_1 : PP.funcs[f_errdec_Word_1]? = some Try.f31 := Try.func31
instance fun32 : Fun PP 32 := ⟨by rw [Try.func32]; kernel_rfl⟩
abbrev f_cauchy_Generator : Nat := 32
theorem h_cauchy_Generator : PP.funcs[f_cauchy_Generator]? = some Try.f32 := Try.func32
instance fun33 : Fun PP 33 := ⟨by rw [Try.func33]; kernel_rfl⟩
abbrev f_erase_found : Nat := 33
theorem h_erase_found : PP.funcs[f_erase_found]? = some Try.f33 := Try.func33
instance fun34 : Fun PP 34 := ⟨by rw [Try.func34]; kernel_rfl⟩
abbrev f_matrix_Pick : Nat := 34
theorem h_matrix_Pick : PP.funcs[f_matrix_Pick]? = some Try.f34 := Try.func34
instance fun35 : Fun PP 35 := ⟨by rw [Try.func35]; kernel_rfl⟩
abbrev f_matrix_Invert : Nat := 35
theorem h_matrix_Invert : PP.funcs[f_matrix_Invert]? = some Try.f35 := Try.func35
instance fun36 : Fun PP 36 := ⟨by rw [Try.func36]; kernel_rfl⟩
abbrev f_erase_Decode_1 : Nat := 36
theorem h_erase_Decode_1 : PP.funcs[f_erase_Decode_1]? = some Try.f36 := Try.func36
instance fun37 : Fun PP 37 := ⟨by rw [Try.func37]; kernel_rfl⟩
abbrev f_errdec_size : Nat := 37
theorem h_errdec_size : PP.funcs[f_errdec_size]? = some Try.f37 := Try.func37
instance fun38 : Fun PP 38 := ⟨by rw [Try.func38]; kernel_rfl⟩
abbrev f_errdec_Shards_1 : Nat := 38
theorem h_errdec_Shards_1 : PP.funcs[f_errdec_Shards_1]? = some Try.f38 := Try.func38
instance fun39 : Fun PP 39 := ⟨by rw [Try.func39]; kernel_rfl⟩
abbrev f_slices_Sort_int_int : Nat := 39
theorem h_slices_Sort_int_int : PP.funcs[f_slices_Sort_int_int]? = some Try.f39 := Try.func39
instance fun40 : Fun PP 40 := ⟨by rw [Try.func40]; kernel_rfl⟩
abbrev f_slices_Compact_int_int : Nat := 40
theorem h_slices_Compact_int_int : PP.funcs[f_slices_Compact_int_int]? = some Try.f40 := Try.func40
instance fun41 : Fun PP 41 := ⟨by rw [Try.func41]; kernel_rfl⟩
abbrev f_cauchy_Parity : Nat := 41
theorem h_cauchy_Parity : PP.funcs[f_cauchy_Parity]? = some Try.f41 := Try.func41
instance fun42 : Fun PP 42 := ⟨by rw [Try.func42]; kernel_rfl⟩
abbrev f_bulk_adder_1 : Nat := 42
theorem h_bulk_adder_1 : PP.funcs[f_bulk_adder_1]? = some Try.f42 := Try.func42
instance fun43 : Fun PP 43 := ⟨by rw [Try.func43]; kernel_rfl⟩
abbrev f_syndrome_Weights_1 : Nat := 43
theorem h_syndrome_Weights_1 : PP.funcs[f_syndrome_Weights_1]? = some Try.f43 := Try.func43
instance fun44 : Fun PP 44 := ⟨by rw [Try.func44]; kernel_rfl⟩
abbrev f_gf_Field_Inv : Nat := 44
theorem h_gf_Field_Inv : PP.funcs[f_gf_Field_Inv]? = some Try.f44 := Try.func44
instance fun45 : Fun PP 45 := ⟨by rw [Try.func45]; kernel_rfl⟩
abbrev f_poly_Norm : Nat := 45
theorem h_poly_Norm : PP.funcs[f_poly_Norm]? = some Try.f45 := Try.func45
instance fun46 : Fun PP 46 := ⟨by rw [Try.func46]; kernel_rfl⟩
abbrev f_slices_Reverse_byte_byte : Nat := 46
theorem h_slices_Reverse_byte_byte : PP.funcs[f_slices_Reverse_byte_byte]? = some Try.f46 := Try.func46
instance fun47 : Fun PP 47 := ⟨by rw [Try.func47]; kernel_rfl⟩
abbrev f_keyeq_Solve_1 : Nat := 47
theorem h_keyeq_Solve_1 : PP.funcs[f_keyeq_Solve_1]? = some Try.f47 := Try.func47
instance fun48 : Fun PP 48 := ⟨by rw [Try.func48]; kernel_rfl⟩
abbrev f_poly_Divide : Nat := 48
theorem h_poly_Divide : PP.funcs[f_poly_Divide]? = some Try.f48 := Try.func48
instance fun49 : Fun PP 49 := ⟨by rw [Try.func49]; kernel_rfl⟩
abbrev f_poly_Add : Nat := 49
theorem h_poly_Add : PP.funcs[f_poly_Add]? = some Try.f49 := Try.func49
instance fun50 : Fun PP 50 := ⟨by rw [Try.func50]; kernel_rfl⟩
abbrev f_poly_scaled : Nat := 50
theorem h_poly_scaled : PP.funcs[f_poly_scaled]? = some Try.f50 := Try.func50
instance fun51 : Fun PP 51 := ⟨by rw [Try.func51]; kernel_rfl⟩
abbrev f_poly_sum : Nat := 51
theorem h_poly_sum : PP.funcs[f_poly_sum]? = some Try.f51 := Try.func51
instance fun52 : Fun PP 52 := ⟨by rw [Try.func52]; kernel_rfl⟩
abbrev f_slices_IndexFunc_byte_byte : Nat := 52
theorem h_slices_IndexFunc_byte_byte : PP.funcs[f_slices_IndexFunc_byte_byte]? = some Try.f52 := Try.func52
instance fun53 : Fun PP 53 := ⟨by rw [Try.func53]; kernel_rfl⟩
abbrev f_cauchy_made : Nat := 53
theorem h_cauchy_made : PP.funcs[f_cauchy_made]? = some Try.f53 := Try.func53
instance fun54 : Fun PP 54 := ⟨by rw [Try.func54]; kernel_rfl⟩
abbrev f_cauchy_Generator_1 : Nat := 54
theorem h_cauchy_Generator_1 : PP.funcs[f_cauchy_Generator_1]? = some Try.f54 := Try.func54
instance fun55 : Fun PP 55 := ⟨by rw [Try.func55]; kernel_rfl⟩
abbrev f_cauchy_one : Nat := 55
theorem h_cauchy_one : PP.funcs[f_cauchy_one]? = some Try.f55 := Try.func55
instance fun56 : Fun PP 56 := ⟨by rw [Try.func56]; kernel_rfl⟩
abbrev f_cauchy_between : Nat := 56
theorem h_cauchy_between : PP.funcs[f_cauchy_between]? = some Try.f56 := Try.func56
instance fun57 : Fun PP 57 := ⟨by rw [Try.func57]; kernel_rfl⟩
abbrev f_matrix_Check : Nat := 57
theorem h_matrix_Check : PP.funcs[f_matrix_Check]? = some Try.f57 := Try.func57
instance fun58 : Fun PP 58 := ⟨by rw [Try.func58]; kernel_rfl⟩
abbrev f_matrix_empty : Nat := 58
theorem h_matrix_empty : PP.funcs[f_matrix_empty]? = some Try.f58 := Try.func58
instance fun59 : Fun PP 59 := ⟨by rw [Try.func59]; kernel_rfl⟩
abbrev f_matrix_row : Nat := 59
theorem h_matrix_row : PP.funcs[f_matrix_row]? = some Try.f59 := Try.func59
instance fun60 : Fun PP 60 := ⟨by rw [Try.func60]; kernel_rfl⟩
abbrev f_matrix_adds : Nat := 60
theorem h_matrix_adds : PP.funcs[f_matrix_adds]? = some Try.f60 := Try.func60
instance fun61 : Fun PP 61 := ⟨by rw [Try.func61]; kernel_rfl⟩
abbrev f_slices_pdqsortOrdered_int : Nat := 61
theorem h_slices_pdqsortOrdered_int : PP.funcs[f_slices_pdqsortOrdered_int]? = some Try.f61 := Try.func61
instance fun62 : Fun PP 62 := ⟨by rw [Try.func62]; kernel_rfl⟩
abbrev f_math_bits_Len : Nat := 62
theorem h_math_bits_Len : PP.funcs[f_math_bits_Len]? = some Try.f62 := Try.func62
instance fun63 : Fun PP 63 := ⟨by rw [Try.func63]; kernel_rfl⟩
abbrev f_cauchy_Parity_1 : Nat := 63
theorem h_cauchy_Parity_1 : PP.funcs[f_cauchy_Parity_1]? = some Try.f63 := Try.func63
instance fun64 : Fun PP 64 := ⟨by rw [Try.func64]; kernel_rfl⟩
abbrev f_gf_Field_Pow : Nat := 64
theorem h_gf_Field_Pow : PP.funcs[f_gf_Field_Pow]? = some Try.f64 := Try.func64
instance fun65 : Fun PP 65 := ⟨by rw [Try.func65]; kernel_rfl⟩
abbrev f_matrix_Check_1 : Nat := 65
theorem h_matrix_Check_1 : PP.funcs[f_matrix_Check_1]? = some Try.f65 := Try.func65
instance fun66 : Fun PP 66 := ⟨by rw [Try.func66]; kernel_rfl⟩
abbrev f_slices_insertionSortOrdered_int : Nat := 66
theorem h_slices_insertionSortOrdered_int : PP.funcs[f_slices_insertionSortOrdered_int]? = some Try.f66 := Try.func66
instance fun67 : Fun PP 67 := ⟨by rw [Try.func67]; kernel_rfl⟩
abbrev f_slices_heapSortOrdered_int : Nat := 67
theorem h_slices_heapSortOrdered_int : PP.funcs[f_slices_heapSortOrdered_int]? = some Try.f67 := Try.func67
instance fun68 : Fun PP 68 := ⟨by rw [Try.func68]; kernel_rfl⟩
abbrev f_slices_breakPatternsOrdered_int : Nat := 68
theorem h_slices_breakPatternsOrdered_int : PP.funcs[f_slices_breakPatternsOrdered_int]? = some Try.f68 := Try.func68
instance fun69 : Fun PP 69 := ⟨by rw [Try.func69]; kernel_rfl⟩
abbrev f_slices_choosePivotOrdered_int : Nat := 69
theorem h_slices_choosePivotOrdered_int : PP.funcs[f_slices_choosePivotOrdered_int]? = some Try.f69 := Try.func69
instance fun70 : Fun PP 70 := ⟨by rw [Try.func70]; kernel_rfl⟩
abbrev f_slices_reverseRangeOrdered_int : Nat := 70
theorem h_slices_reverseRangeOrdered_int : PP.funcs[f_slices_reverseRangeOrdered_int]? = some Try.f70 := Try.func70
instance fun71 : Fun PP 71 := ⟨by rw [Try.func71]; kernel_rfl⟩
abbrev f_slices_partialInsertionSortOrdered_int : Nat := 71
theorem h_slices_partialInsertionSortOrdered_int : PP.funcs[f_slices_partialInsertionSortOrdered_int]? = some Try.f71 := Try.func71
instance fun72 : Fun PP 72 := ⟨by rw [Try.func72]; kernel_rfl⟩
abbrev f_cmp_Less_int : Nat := 72
theorem h_cmp_Less_int : PP.funcs[f_cmp_Less_int]? = some Try.f72 := Try.func72
instance fun73 : Fun PP 73 := ⟨by rw [Try.func73]; kernel_rfl⟩
abbrev f_slices_partitionEqualOrdered_int : Nat := 73
theorem h_slices_partitionEqualOrdered_int : PP.funcs[f_slices_partitionEqualOrdered_int]? = some Try.f73 := Try.func73
instance fun74 : Fun PP 74 := ⟨by rw [Try.func74]; kernel_rfl⟩
abbrev f_slices_partitionOrdered_int : Nat := 74
theorem h_slices_partitionOrdered_int : PP.funcs[f_slices_partitionOrdered_int]? = some Try.f74 := Try.func74
instance fun75 : Fun PP 75 := ⟨by rw [Try.func75]; kernel_rfl⟩
abbrev f_math_bits_Len32 : Nat := 75
theorem h_math_bits_Len32 : PP.funcs[f_math_bits_Len32]? = some Try.f75 := Try.func75
instance fun76 : Fun PP 76 := ⟨by rw [Try.func76]; kernel_rfl⟩
abbrev f_math_bits_Len64 : Nat := 76
theorem h_math_bits_Len64 : PP.funcs[f_math_bits_Len64]? = some Try.f76 := Try.func76
instance fun77 : Fun PP 77 := ⟨by rw [Try.func77]; kernel_rfl⟩
abbrev f_slices_siftDownOrdered_int : Nat := 77
theorem h_slices_siftDownOrdered_int : PP.funcs[f_slices_siftDownOrdered_int]? = some Try.f77 := Try.func77
instance fun78 : Fun PP 78 := ⟨by rw [Try.func78]; kernel_rfl⟩
abbrev f_slices_nextPowerOfTwo : Nat := 78
theorem h_slices_nextPowerOfTwo : PP.funcs[f_slices_nextPowerOfTwo]? = some Try.f78 := Try.func78
instance fun79 : Fun PP 79 := ⟨by rw [Try.func79]; kernel_rfl⟩
abbrev f_slices_xorshift_Next : Nat := 79
theorem h_slices_xorshift_Next : PP.funcs[f_slices_xorshift_Next]? = some Try.f79 := Try.func79
instance fun80 : Fun PP 80 := ⟨by rw [Try.func80]; kernel_rfl⟩
abbrev f_slices_medianAdjacentOrdered_int : Nat := 80
theorem h_slices_medianAdjacentOrdered_int : PP.funcs[f_slices_medianAdjacentOrdered_int]? = some Try.f80 := Try.func80
instance fun81 : Fun PP 81 := ⟨by rw [Try.func81]; kernel_rfl⟩
abbrev f_slices_medianOrdered_int : Nat := 81
theorem h_slices_medianOrdered_int : PP.funcs[f_slices_medianOrdered_int]? = some Try.f81 := Try.func81
instance fun82 : Fun PP 82 := ⟨by rw [Try.func82]; kernel_rfl⟩
abbrev f_cmp_isNaN_int : Nat := 82
theorem h_cmp_isNaN_int : PP.funcs[f_cmp_isNaN_int]? = some Try.f82 := Try.func82
instance fun83 : Fun PP 83 := ⟨by rw [Try.func83]; kernel_rfl⟩
abbrev f_slices_order2Ordered_int : Nat := 83
theorem h_slices_order2Ordered_int : PP.funcs[f_slices_order2Ordered_int]? = some Try.f83 := Try.func83
noncomputable abbrev c_aumbrylaw10_ErrdecErases : Ctx := ⟨PP, 177, 0x7ffff0f⟩
noncomputable abbrev c_aumbrylaw10_awake : Ctx := ⟨PP, 83, 0x1f9f⟩
noncomputable abbrev c_gf_New : Ctx := ⟨PP, 23, 0x11f⟩
noncomputable abbrev c_cauchy_Check : Ctx := ⟨PP, 21, 0x13⟩
noncomputable abbrev c_bulk_Encode : Ctx := ⟨PP, 61, 0x70000c000ff0f⟩
noncomputable abbrev c_aumbryref08_Column : Ctx := ⟨PP, 20, 0x1d⟩
noncomputable abbrev c_aumbryref08_Line : Ctx := ⟨PP, 18, 0x1d⟩
noncomputable abbrev c_errdec_Word : Ctx := ⟨PP, 177, 0x300000000000380000007fdffc1f⟩
noncomputable abbrev c_erase_Decode : Ctx := ⟨PP, 91, 0x60000000000001efe7f⟩
noncomputable abbrev c_aumbrylaw10_count : Ctx := ⟨PP, 18, 0x1d⟩
noncomputable abbrev c_aumbryref02_Same : Ctx := ⟨PP, 26, 0x33⟩
noncomputable abbrev c_errdec_Shards : Ctx := ⟨PP, 63, 0x6000001fffff⟩
noncomputable abbrev c_aumbryref06_Same : Ctx := ⟨PP, 29, 0x73⟩
noncomputable abbrev c_gf_New_1 : Ctx := ⟨PP, 26, 0x7⟩
noncomputable abbrev c_bulk_checked : Ctx := ⟨PP, 49, 0x700017c1f⟩
noncomputable abbrev c_bulk_own : Ctx := ⟨PP, 23, 0xe3d⟩
noncomputable abbrev c_bulk_adder : Ctx := ⟨PP, 8, 0x7f⟩
noncomputable abbrev c_syndrome_Weights : Ctx := ⟨PP, 38, 0xc000fff⟩
noncomputable abbrev c_slices_Clone_byte_byte : Ctx := ⟨PP, 8, 0x5⟩
noncomputable abbrev c_syndrome_Of : Ctx := ⟨PP, 70, 0x1800600000ff0f⟩
noncomputable abbrev c_keyeq_Locator : Ctx := ⟨PP, 24, 0x38b3⟩
noncomputable abbrev c_keyeq_Solve : Ctx := ⟨PP, 111, 0x5fffcf⟩
noncomputable abbrev c_poly_Mul : Ctx := ⟨PP, 28, 0x1fc7⟩
noncomputable abbrev c_poly_Deriv : Ctx := ⟨PP, 24, 0x1d⟩
noncomputable abbrev c_poly_Eval : Ctx := ⟨PP, 30, 0x1c7⟩
noncomputable abbrev c_gf_Field_Div : Ctx := ⟨PP, 21, 0x3c7⟩
noncomputable abbrev c_gf_Field_Mul : Ctx := ⟨PP, 35, 0x47⟩
noncomputable abbrev c_slices_ContainsFunc_byte_byte : Ctx := ⟨PP, 9, 0x13⟩
noncomputable abbrev c_errdec_Word_1 : Ctx := ⟨PP, 5, 0x5⟩
noncomputable abbrev c_cauchy_Generator : Ctx := ⟨PP, 19, 0xdf⟩
noncomputable abbrev c_erase_found : Ctx := ⟨PP, 52, 0x7fc7⟩
noncomputable abbrev c_matrix_Pick : Ctx := ⟨PP, 48, 0x38001f7⟩
noncomputable abbrev c_matrix_Invert : Ctx := ⟨PP, 153, 0xc000006001c00000000300006000007dffb⟩
noncomputable abbrev c_erase_Decode_1 : Ctx := ⟨PP, 61, 0xe0001c03fbf⟩
noncomputable abbrev c_errdec_size : Ctx := ⟨PP, 55, 0x1c000f0f⟩
noncomputable abbrev c_errdec_Shards_1 : Ctx := ⟨PP, 79, 0xe0000000387fdff⟩
noncomputable abbrev c_slices_Sort_int_int : Ctx := ⟨PP, 11, 0x5⟩
noncomputable abbrev c_slices_Compact_int_int : Ctx := ⟨PP, 61, 0x3d⟩
noncomputable abbrev c_cauchy_Parity : Ctx := ⟨PP, 17, 0xdf⟩
noncomputable abbrev c_bulk_adder_1 : Ctx := ⟨PP, 48, 0xe0007f9f⟩
noncomputable abbrev c_syndrome_Weights_1 : Ctx := ⟨PP, 35, 0x1ef⟩
noncomputable abbrev c_gf_Field_Inv : Ctx := ⟨PP, 11, 0x33⟩
noncomputable abbrev c_poly_Norm : Ctx := ⟨PP, 6, 0x5⟩
noncomputable abbrev c_slices_Reverse_byte_byte : Ctx := ⟨PP, 28, 0xd⟩
noncomputable abbrev c_keyeq_Solve_1 : Ctx := ⟨PP, 25, 0x7f⟩
noncomputable abbrev c_poly_Divide : Ctx := ⟨PP, 71, 0x5fc7⟩
noncomputable abbrev c_poly_Add : Ctx := ⟨PP, 9, 0x13⟩
noncomputable abbrev c_poly_scaled : Ctx := ⟨PP, 35, 0x6070f⟩
noncomputable abbrev c_poly_sum : Ctx := ⟨PP, 55, 0x1c7ed⟩
noncomputable abbrev c_slices_IndexFunc_byte_byte : Ctx := ⟨PP, 19, 0x1b3⟩
noncomputable abbrev c_cauchy_made : Ctx := ⟨PP, 51, 0x198003f03f⟩
noncomputable abbrev c_cauchy_Generator_1 : Ctx := ⟨PP, 17, 0x4f⟩
noncomputable abbrev c_cauchy_one : Ctx := ⟨PP, 8, 0x13⟩
noncomputable abbrev c_cauchy_between : Ctx := ⟨PP, 19, 0xc7⟩
noncomputable abbrev c_matrix_Check : Ctx := ⟨PP, 27, 0xf⟩
noncomputable abbrev c_matrix_empty : Ctx := ⟨PP, 12, 0x13⟩
noncomputable abbrev c_matrix_row : Ctx := ⟨PP, 17, 0x17⟩
noncomputable abbrev c_matrix_adds : Ctx := ⟨PP, 28, 0x1f0f⟩
noncomputable abbrev c_slices_pdqsortOrdered_int : Ctx := ⟨PP, 134, 0x7ff0f⟩
noncomputable abbrev c_math_bits_Len : Ctx := ⟨PP, 8, 0x5⟩
noncomputable abbrev c_cauchy_Parity_1 : Ctx := ⟨PP, 13, 0x4f⟩
noncomputable abbrev c_gf_Field_Pow : Ctx := ⟨PP, 43, 0xc7⟩
noncomputable abbrev c_matrix_Check_1 : Ctx := ⟨PP, 9, 0x5⟩
noncomputable abbrev c_slices_insertionSortOrdered_int : Ctx := ⟨PP, 49, 0xc7⟩
noncomputable abbrev c_slices_heapSortOrdered_int : Ctx := ⟨PP, 56, 0x7c7⟩
noncomputable abbrev c_slices_breakPatternsOrdered_int : Ctx := ⟨PP, 65, 0x7c7⟩
noncomputable abbrev c_slices_choosePivotOrdered_int : Ctx := ⟨PP, 57, 0x2000000001fc7⟩
noncomputable abbrev c_slices_reverseRangeOrdered_int : Ctx := ⟨PP, 32, 0xc7⟩
noncomputable abbrev c_slices_partialInsertionSortOrdered_int : Ctx := ⟨PP, 133, 0x7c7⟩
noncomputable abbrev c_cmp_Less_int : Ctx := ⟨PP, 17, 0x13⟩
noncomputable abbrev c_slices_partitionEqualOrdered_int : Ctx := ⟨PP, 84, 0x70f⟩
noncomputable abbrev c_slices_partitionOrdered_int : Ctx := ⟨PP, 168, 0xf0f⟩
noncomputable abbrev c_math_bits_Len32 : Ctx := ⟨PP, 19, 0x5⟩
noncomputable abbrev c_math_bits_Len64 : Ctx := ⟨PP, 25, 0x5⟩
noncomputable abbrev c_slices_siftDownOrdered_int : Ctx := ⟨PP, 76, 0x30f⟩
noncomputable abbrev c_slices_nextPowerOfTwo : Ctx := ⟨PP, 7, 0x5⟩
noncomputable abbrev c_slices_xorshift_Next : Ctx := ⟨PP, 33, 0x5⟩
noncomputable abbrev c_slices_medianAdjacentOrdered_int : Ctx := ⟨PP, 15, 0x47⟩
noncomputable abbrev c_slices_medianOrdered_int : Ctx := ⟨PP, 36, 0x41f⟩
noncomputable abbrev c_cmp_isNaN_int : Ctx := ⟨PP, 6, 0x5⟩
noncomputable abbrev c_slices_order2Ordered_int : Ctx := ⟨PP, 28, 0x30f⟩
instance mixed : Mixed PP := ⟨by kernel_rfl⟩
end Go.Eng
