import Derived.Test.YtmnmbpcbfmhceaaEng25
import Derived.Test.YtmnmbpcbfmhceaaProg
/-
  The small machine's code of functions of the program, as a program of mine printed it; each is checked against the loaded function.
-/
set_option linter.unusedVariables false
namespace Go.Eng
open Go.Proofs

def k104_0 : List AO := [o1 4 (.mv (.k (.c (.p (.string (str []))))))]
def k104_1 : List AO := [o1 7 (.mv (.t 1)), o1 8 (.cmp .lt (.t 7) (.k (.c (.p (.int .i64 0))))), o1 9 (.mv (.t 8)), og 10 9 false (.mv (.t 1)), og 11 9 false (.cmp .gt (.t 10) (.k (.c (.p (.int .i64 8))))), o1 12 (.pk (.t 9) (.k (.c (.p (.bool true)))) (.t 11))]
def k104_2 : List AO := [o1 4 (.mv (.k (.c (.p (.string (str []))))))]
def k104_3 : List AO := [o1 13 (.mv (.t 1)), o1 14 (.ms 1 1 [(b8 0)] (.t 13) (.t 13)), o1 5 (.mv (.t 14))]
def k104_4 : List AO := [o1 15 (.mv (.t 5)), o1 16 (.ln (.t 15)), o1 17 (.mv (.k (.c (.p (.int .i64 0)))))]
def k104_5 : List AO := [o1 18 (.cmp .lt (.t 17) (.t 16))]
def k104_6 : List AO := [o1 19 (.mv (.t 17)), o1 6 (.mv (.t 19))]
def k104_7 : List AO := [o1 20 (.mv (.t 5)), o1 21 (.mv (.t 6)), o1 22 (.mv (.t 0)), o1 23 (.mv (.t 6)), o1 24 (.ari .mul (.k (.c (.p (.int .i64 8)))) (.t 23)), o1 25 (.ari .shr (.t 22) (.t 24)), o1 26 (.cvi .u8 (.t 25)), o1 27 (.is 1 (.t 20) (.t 21)), o0 (.st 1 (.t 27) (.t 26))]
def k104_8 : List AO := [o1 28 (.ari .add (.t 17) (.k (.c (.p (.int .i64 1))))), o1 17 (.mv (.t 28))]
def k104_9 : List AO := [o1 29 (.mv (.t 5)), o1 30 (.cvs (.t 29)), o1 4 (.mv (.t 30))]
def k104 : AC := (.seq (.reg k104_0) (.seq (.seq (.reg k104_1) (.cond (.t 12) (.seq (.reg k104_2) .ret) .skip)) (.seq (.reg k104_3) (.seq (.seq (.reg k104_4) (.block 0 (.loop (.seq (.reg k104_5) (.seq (.cond (.t 18) .skip (.exit 0)) (.seq (.block 1 (.seq (.reg k104_6) (.reg k104_7))) (.reg k104_8))))))) (.seq (.reg k104_9) .ret)))))
def F104 : AFn := ⟨2, 31, k104, [(.t 4)]⟩
theorem F104_ok : cfn Try.prog [26,27,28,29,32,34,36,37,38,39,41,42,50,51,52,53,54,55,56,57,58,59,60,61,62,63,64,65,66,67,68,69,70,71,72,73,74,75,76,77,78,79,80,83,84,85,86,87,88,89,99,100,101,102,103,104,105,108,110,112,113,114,115,116,117,118,119,120,121,122,123,124,125,126,128,129,131,132,133,134,135,136,137,138,139,140,143,144,146,147,148,149,150,151,152,153,156,157,158,159,160,161,162] Try.f104 = some F104 := by kernel_rfl
theorem f104_at : Try.prog.funcs[104]? = some Try.f104 := by kernel_rfl
theorem f104_fn : okFn Try.prog 104 = true := by kernel_rfl

def k115_0 : List AO := [o1 6 (.mv (.k (.c (c64 0)))), o1 7 (.mv (.k (.c (.p (.bool false)))))]
def k115_1 : List AO := [o1 10 (.mv (.t 2)), o1 11 (.cmp .lt (.t 10) (.k (.c (.p (.int .i64 0))))), o1 12 (.mv (.t 11)), og 13 12 false (.mv (.t 2)), og 14 12 false (.cmp .gt (.t 13) (.k (.c (.p (.int .i64 8))))), o1 15 (.pk (.t 12) (.k (.c (.p (.bool true)))) (.t 14)), o1 16 (.mv (.t 15)), og 17 16 false (.mv (.t 1)), og 18 16 false (.cmp .lt (.t 17) (.k (.c (.p (.int .i64 0))))), o1 19 (.pk (.t 16) (.k (.c (.p (.bool true)))) (.t 18)), o1 20 (.mv (.t 19)), og 21 20 false (.mv (.t 1)), og 22 20 false (.mv (.t 0)), og 23 20 false (.lns (.t 22)), og 24 20 false (.cmp .gt (.t 21) (.t 23)), o1 25 (.pk (.t 20) (.k (.c (.p (.bool true)))) (.t 24)), o1 26 (.mv (.t 25)), og 27 26 false (.mv (.t 2)), og 28 26 false (.mv (.t 0)), og 29 26 false (.lns (.t 28)), og 30 26 false (.mv (.t 1)), og 31 26 false (.ari .sub (.t 29) (.t 30)), og 32 26 false (.cmp .gt (.t 27) (.t 31)), o1 33 (.pk (.t 26) (.k (.c (.p (.bool true)))) (.t 32))]
def k115_2 : List AO := [o1 6 (.mv (.k (.c (c64 0)))), o1 7 (.mv (.k (.c (.p (.bool false)))))]
def k115_3 : List AO := [o1 8 (.mv (.k (.c (c64 0))))]
def k115_4 : List AO := [o1 34 (.mv (.t 2)), o1 35 (.ari .sub (.t 34) (.k (.c (.p (.int .i64 1))))), o1 9 (.mv (.t 35))]
def k115_5 : List AO := [o1 36 (.mv (.t 9)), o1 37 (.cmp .ge (.t 36) (.k (.c (.p (.int .i64 0)))))]
def k115_6 : List AO := [o1 40 (.mv (.t 8)), o1 41 (.ari .shl (.t 40) (.k (.c (c64 8)))), o1 42 (.mv (.t 0)), o1 43 (.mv (.t 1)), o1 44 (.mv (.t 9)), o1 45 (.ari .add (.t 43) (.t 44)), o1 46 (.ix (.t 42) (.t 45)), o1 47 (.cvi .u64 (.t 46)), o1 48 (.ari .or (.t 41) (.t 47)), o1 8 (.mv (.t 48))]
def k115_7 : List AO := [o1 38 (.mv (.t 9)), o1 39 (.ari .sub (.t 38) (.k (.c (.p (.int .i64 1))))), o1 9 (.mv (.t 39))]
def k115_8 : List AO := [o1 49 (.mv (.t 8)), o1 6 (.mv (.t 49)), o1 7 (.mv (.k (.c (.p (.bool true)))))]
def k115 : AC := (.seq (.reg k115_0) (.seq (.seq (.reg k115_1) (.cond (.t 33) (.seq (.reg k115_2) .ret) .skip)) (.seq (.reg k115_3) (.seq (.seq (.reg k115_4) (.block 0 (.loop (.seq (.seq (.reg k115_5) (.cond (.t 37) .skip (.exit 0))) (.seq (.block 1 (.reg k115_6)) (.reg k115_7)))))) (.seq (.reg k115_8) .ret)))))
def F115 : AFn := ⟨3, 50, k115, [(.t 6), (.t 7)]⟩
theorem F115_ok : cfn Try.prog [26,27,28,29,32,34,36,37,38,39,41,42,50,51,52,53,54,55,56,57,58,59,60,61,62,63,64,65,66,67,68,69,70,71,72,73,74,75,76,77,78,79,80,83,84,85,86,87,88,89,99,100,101,102,103,104,105,108,110,112,113,114,115,116,117,118,119,120,121,122,123,124,125,126,128,129,131,132,133,134,135,136,137,138,139,140,143,144,146,147,148,149,150,151,152,153,156,157,158,159,160,161,162] Try.f115 = some F115 := by kernel_rfl
theorem f115_at : Try.prog.funcs[115]? = some Try.f115 := by kernel_rfl
theorem f115_fn : okFn Try.prog 115 = true := by kernel_rfl

def k119_0 : List AO := [o1 4 (.mv (.k (.c (.p (.string (str []))))))]
def k119_1 : List AO := [o1 7 (.mv (.t 1)), o1 8 (.cmp .lt (.t 7) (.k (.c (.p (.int .i64 0))))), o1 9 (.mv (.t 8)), og 10 9 false (.mv (.t 1)), og 11 9 false (.cmp .gt (.t 10) (.k (.c (.p (.int .i64 8))))), o1 12 (.pk (.t 9) (.k (.c (.p (.bool true)))) (.t 11))]
def k119_2 : List AO := [o1 4 (.mv (.k (.c (.p (.string (str []))))))]
def k119_3 : List AO := [o1 5 (.mv (.k (.c (.p (.string (str []))))))]
def k119_4 : List AO := [o1 6 (.mv (.k (.c (.p (.int .i64 0)))))]
def k119_5 : List AO := [o1 13 (.mv (.t 6)), o1 14 (.mv (.t 1)), o1 15 (.cmp .lt (.t 13) (.t 14))]
def k119_6 : List AO := [o1 18 (.mv (.t 5)), o1 19 (.mv (.t 0)), o1 20 (.ari .rem (.t 19) (.k (.c (c64 256)))), o1 21 (.cvi .u8 (.t 20)), o1 22 (.bs 1 1 5 [(b8 0)] [(0, (.t 21))]), o1 23 (.cvs (.t 22)), o1 24 (.ari .add (.t 18) (.t 23)), o1 5 (.mv (.t 24))]
def k119_7 : List AO := [o1 25 (.mv (.t 0)), o1 26 (.ari .quo (.t 25) (.k (.c (c64 256)))), o1 0 (.mv (.t 26))]
def k119_8 : List AO := [o1 16 (.mv (.t 6)), o1 17 (.ari .add (.t 16) (.k (.c (.p (.int .i64 1))))), o1 6 (.mv (.t 17))]
def k119_9 : List AO := [o1 27 (.mv (.t 5)), o1 4 (.mv (.t 27))]
def k119 : AC := (.seq (.reg k119_0) (.seq (.seq (.reg k119_1) (.cond (.t 12) (.seq (.reg k119_2) .ret) .skip)) (.seq (.reg k119_3) (.seq (.seq (.reg k119_4) (.block 0 (.loop (.seq (.seq (.reg k119_5) (.cond (.t 15) .skip (.exit 0))) (.seq (.block 1 (.seq (.reg k119_6) (.reg k119_7))) (.reg k119_8)))))) (.seq (.reg k119_9) .ret)))))
def F119 : AFn := ⟨2, 28, k119, [(.t 4)]⟩
theorem F119_ok : cfn Try.prog [26,27,28,29,32,34,36,37,38,39,41,42,50,51,52,53,54,55,56,57,58,59,60,61,62,63,64,65,66,67,68,69,70,71,72,73,74,75,76,77,78,79,80,83,84,85,86,87,88,89,99,100,101,102,103,104,105,108,110,112,113,114,115,116,117,118,119,120,121,122,123,124,125,126,128,129,131,132,133,134,135,136,137,138,139,140,143,144,146,147,148,149,150,151,152,153,156,157,158,159,160,161,162] Try.f119 = some F119 := by kernel_rfl
theorem f119_at : Try.prog.funcs[119]? = some Try.f119 := by kernel_rfl
theorem f119_fn : okFn Try.prog 119 = true := by kernel_rfl

def k131_0 : List AO := [o1 6 (.mv (.k (.c (c64 0)))), o1 7 (.mv (.k (.c (.p (.bool false)))))]
def k131_1 : List AO := [o1 11 (.mv (.t 2)), o1 12 (.cmp .lt (.t 11) (.k (.c (.p (.int .i64 0))))), o1 13 (.mv (.t 12)), og 14 13 false (.mv (.t 2)), og 15 13 false (.cmp .gt (.t 14) (.k (.c (.p (.int .i64 8))))), o1 16 (.pk (.t 13) (.k (.c (.p (.bool true)))) (.t 15)), o1 17 (.mv (.t 16)), og 18 17 false (.mv (.t 1)), og 19 17 false (.cmp .lt (.t 18) (.k (.c (.p (.int .i64 0))))), o1 20 (.pk (.t 17) (.k (.c (.p (.bool true)))) (.t 19)), o1 21 (.mv (.t 20)), og 22 21 false (.mv (.t 1)), og 23 21 false (.mv (.t 0)), og 24 21 false (.lns (.t 23)), og 25 21 false (.cmp .gt (.t 22) (.t 24)), o1 26 (.pk (.t 21) (.k (.c (.p (.bool true)))) (.t 25)), o1 27 (.mv (.t 26)), og 28 27 false (.mv (.t 0)), og 29 27 false (.lns (.t 28)), og 30 27 false (.mv (.t 1)), og 31 27 false (.ari .sub (.t 29) (.t 30)), og 32 27 false (.mv (.t 2)), og 33 27 false (.cmp .lt (.t 31) (.t 32)), o1 34 (.pk (.t 27) (.k (.c (.p (.bool true)))) (.t 33))]
def k131_2 : List AO := [o1 6 (.mv (.k (.c (c64 0)))), o1 7 (.mv (.k (.c (.p (.bool false)))))]
def k131_3 : List AO := [o1 8 (.mv (.k (.c (c64 0)))), o1 9 (.mv (.k (.c (c64 1))))]
def k131_4 : List AO := [o1 10 (.mv (.k (.c (.p (.int .i64 0)))))]
def k131_5 : List AO := [o1 35 (.mv (.t 10)), o1 36 (.mv (.t 2)), o1 37 (.cmp .lt (.t 35) (.t 36))]
def k131_6 : List AO := [o1 40 (.mv (.t 8)), o1 41 (.mv (.t 9)), o1 42 (.mv (.t 0)), o1 43 (.mv (.t 1)), o1 44 (.mv (.t 10)), o1 45 (.ari .add (.t 43) (.t 44)), o1 46 (.ix (.t 42) (.t 45)), o1 47 (.cvi .u64 (.t 46)), o1 48 (.ari .mul (.t 41) (.t 47)), o1 49 (.ari .add (.t 40) (.t 48)), o1 8 (.mv (.t 49))]
def k131_7 : List AO := [o1 50 (.mv (.t 9)), o1 51 (.ari .mul (.t 50) (.k (.c (c64 256)))), o1 9 (.mv (.t 51))]
def k131_8 : List AO := [o1 38 (.mv (.t 10)), o1 39 (.ari .add (.t 38) (.k (.c (.p (.int .i64 1))))), o1 10 (.mv (.t 39))]
def k131_9 : List AO := [o1 52 (.mv (.t 8)), o1 6 (.mv (.t 52)), o1 7 (.mv (.k (.c (.p (.bool true)))))]
def k131 : AC := (.seq (.reg k131_0) (.seq (.seq (.reg k131_1) (.cond (.t 34) (.seq (.reg k131_2) .ret) .skip)) (.seq (.reg k131_3) (.seq (.seq (.reg k131_4) (.block 0 (.loop (.seq (.seq (.reg k131_5) (.cond (.t 37) .skip (.exit 0))) (.seq (.block 1 (.seq (.reg k131_6) (.reg k131_7))) (.reg k131_8)))))) (.seq (.reg k131_9) .ret)))))
def F131 : AFn := ⟨3, 53, k131, [(.t 6), (.t 7)]⟩
theorem F131_ok : cfn Try.prog [26,27,28,29,32,34,36,37,38,39,41,42,50,51,52,53,54,55,56,57,58,59,60,61,62,63,64,65,66,67,68,69,70,71,72,73,74,75,76,77,78,79,80,83,84,85,86,87,88,89,99,100,101,102,103,104,105,108,110,112,113,114,115,116,117,118,119,120,121,122,123,124,125,126,128,129,131,132,133,134,135,136,137,138,139,140,143,144,146,147,148,149,150,151,152,153,156,157,158,159,160,161,162] Try.f131 = some F131 := by kernel_rfl
theorem f131_at : Try.prog.funcs[131]? = some Try.f131 := by kernel_rfl
theorem f131_fn : okFn Try.prog 131 = true := by kernel_rfl

def k158_0 : List AO := [o1 2 (.mv (.k (.c (c32 0))))]
def k158_1 : List AO := [o1 3 (.mv (.t 0)), o1 4 (.ari .shr (.t 3) (.k (.c (c64 1)))), o1 5 (.mv (.t 0)), o1 6 (.ari .and (.t 5) (.k (.c (c32 1)))), o1 7 (.neg (.t 6)), o1 8 (.ari .and (.k (.c (c32 3988292384))) (.t 7)), o1 9 (.ari .xor (.t 4) (.t 8)), o1 2 (.mv (.t 9))]
def k158 : AC := (.seq (.reg k158_0) (.seq (.reg k158_1) .ret))
def F158 : AFn := ⟨1, 10, k158, [(.t 2)]⟩
theorem F158_ok : cfn Try.prog [26,27,28,29,32,34,36,37,38,39,41,42,50,51,52,53,54,55,56,57,58,59,60,61,62,63,64,65,66,67,68,69,70,71,72,73,74,75,76,77,78,79,80,83,84,85,86,87,88,89,99,100,101,102,103,104,105,108,110,112,113,114,115,116,117,118,119,120,121,122,123,124,125,126,128,129,131,132,133,134,135,136,137,138,139,140,143,144,146,147,148,149,150,151,152,153,156,157,158,159,160,161,162] Try.f158 = some F158 := by kernel_rfl
theorem f158_at : Try.prog.funcs[158]? = some Try.f158 := by kernel_rfl
theorem f158_fn : okFn Try.prog 158 = true := by kernel_rfl

def k144_0 : List AO := [o1 4 (.mv (.k (.c (c32 0))))]
def k144_1 : List AO := [o1 7 (.mv (.t 0)), o1 8 (.cpl (.t 7)), o1 5 (.mv (.t 8))]
def k144_2 : List AO := [o1 6 (.mv (.k (.c (.p (.int .i64 0)))))]
def k144_3 : List AO := [o1 9 (.mv (.t 6)), o1 10 (.mv (.t 1)), o1 11 (.lns (.t 10)), o1 12 (.cmp .lt (.t 9) (.t 11))]
def k144_4 : List AO := [o1 15 (.mv (.t 5)), o1 16 (.mv (.t 1)), o1 17 (.mv (.t 6)), o1 18 (.ix (.t 16) (.t 17)), o1 19 (.cvi .u32 (.t 18)), o1 20 (.ari .xor (.t 15) (.t 19)), o1 5 (.mv (.t 20))]
def k144_5 : List AO := [o1 21 (.mv (.k (.c (.p (.int .i64 0)))))]
def k144_6 : List AO := [o1 22 (.cmp .lt (.t 21) (.k (.c (.p (.int .i64 8)))))]
def k144_7 : List AO := [o1 23 (.mv (.t 5)), o1 24 (.callp 158 [(.t 23)]), o1 5 (.mv (.t 24))]
def k144_8 : List AO := [o1 25 (.ari .add (.t 21) (.k (.c (.p (.int .i64 1))))), o1 21 (.mv (.t 25))]
def k144_9 : List AO := [o1 13 (.mv (.t 6)), o1 14 (.ari .add (.t 13) (.k (.c (.p (.int .i64 1))))), o1 6 (.mv (.t 14))]
def k144_10 : List AO := [o1 26 (.mv (.t 5)), o1 27 (.cpl (.t 26)), o1 4 (.mv (.t 27))]
def k144 : AC := (.seq (.reg k144_0) (.seq (.reg k144_1) (.seq (.seq (.reg k144_2) (.block 0 (.loop (.seq (.seq (.reg k144_3) (.cond (.t 12) .skip (.exit 0))) (.seq (.block 1 (.seq (.reg k144_4) (.seq (.reg k144_5) (.block 2 (.loop (.seq (.reg k144_6) (.seq (.cond (.t 22) .skip (.exit 2)) (.seq (.block 3 (.reg k144_7)) (.reg k144_8))))))))) (.reg k144_9)))))) (.seq (.reg k144_10) .ret))))
def F144 : AFn := ⟨2, 28, k144, [(.t 4)]⟩
theorem F144_ok : cfn Try.prog [26,27,28,29,32,34,36,37,38,39,41,42,50,51,52,53,54,55,56,57,58,59,60,61,62,63,64,65,66,67,68,69,70,71,72,73,74,75,76,77,78,79,80,83,84,85,86,87,88,89,99,100,101,102,103,104,105,108,110,112,113,114,115,116,117,118,119,120,121,122,123,124,125,126,128,129,131,132,133,134,135,136,137,138,139,140,143,144,146,147,148,149,150,151,152,153,156,157,158,159,160,161,162] Try.f144 = some F144 := by kernel_rfl
theorem f144_at : Try.prog.funcs[144]? = some Try.f144 := by kernel_rfl
theorem f144_fn : okFn Try.prog 144 = true := by kernel_rfl

def k105_0 : List AO := [o1 2 (.mv (.k (.c (c32 0))))]
def k105_1 : List AO := [o1 3 (.mv (.t 0)), o1 4 (.callp 144 [(.k (.c (c32 0))), (.t 3)]), o1 2 (.mv (.t 4))]
def k105 : AC := (.seq (.reg k105_0) (.seq (.reg k105_1) .ret))
def F105 : AFn := ⟨1, 5, k105, [(.t 2)]⟩
theorem F105_ok : cfn Try.prog [26,27,28,29,32,34,36,37,38,39,41,42,50,51,52,53,54,55,56,57,58,59,60,61,62,63,64,65,66,67,68,69,70,71,72,73,74,75,76,77,78,79,80,83,84,85,86,87,88,89,99,100,101,102,103,104,105,108,110,112,113,114,115,116,117,118,119,120,121,122,123,124,125,126,128,129,131,132,133,134,135,136,137,138,139,140,143,144,146,147,148,149,150,151,152,153,156,157,158,159,160,161,162] Try.f105 = some F105 := by kernel_rfl
theorem f105_at : Try.prog.funcs[105]? = some Try.f105 := by kernel_rfl
theorem f105_fn : okFn Try.prog 105 = true := by kernel_rfl

def k159_0 : List AO := [o1 2 (.mv (.k (.c (c32 0))))]
def k159_1 : List AO := [o1 3 (.mv (.t 0)), o1 4 (.ari .rem (.t 3) (.k (.c (c32 2)))), o1 5 (.cmp .eq (.t 4) (.k (.c (c32 1))))]
def k159_2 : List AO := [o1 6 (.mv (.t 0)), o1 7 (.ari .quo (.t 6) (.k (.c (c32 2)))), o1 8 (.ari .xor (.t 7) (.k (.c (c32 3988292384)))), o1 2 (.mv (.t 8))]
def k159_3 : List AO := [o1 9 (.mv (.t 0)), o1 10 (.ari .quo (.t 9) (.k (.c (c32 2)))), o1 2 (.mv (.t 10))]
def k159 : AC := (.seq (.reg k159_0) (.seq (.seq (.reg k159_1) (.cond (.t 5) (.seq (.reg k159_2) .ret) .skip)) (.seq (.reg k159_3) .ret)))
def F159 : AFn := ⟨1, 11, k159, [(.t 2)]⟩
theorem F159_ok : cfn Try.prog [26,27,28,29,32,34,36,37,38,39,41,42,50,51,52,53,54,55,56,57,58,59,60,61,62,63,64,65,66,67,68,69,70,71,72,73,74,75,76,77,78,79,80,83,84,85,86,87,88,89,99,100,101,102,103,104,105,108,110,112,113,114,115,116,117,118,119,120,121,122,123,124,125,126,128,129,131,132,133,134,135,136,137,138,139,140,143,144,146,147,148,149,150,151,152,153,156,157,158,159,160,161,162] Try.f159 = some F159 := by kernel_rfl
theorem f159_at : Try.prog.funcs[159]? = some Try.f159 := by kernel_rfl
theorem f159_fn : okFn Try.prog 159 = true := by kernel_rfl

def k149_0 : List AO := [o1 4 (.mv (.k (.c (c32 0))))]
def k149_1 : List AO := [o1 8 (.mv (.t 0)), o1 9 (.ari .sub (.k (.c (c32 4294967295))) (.t 8)), o1 5 (.mv (.t 9))]
def k149_2 : List AO := [o1 6 (.mv (.k (.c (.p (.int .i64 0)))))]
def k149_3 : List AO := [o1 10 (.mv (.t 6)), o1 11 (.mv (.t 1)), o1 12 (.lns (.t 11)), o1 13 (.cmp .lt (.t 10) (.t 12))]
def k149_4 : List AO := [o1 16 (.mv (.t 5)), o1 17 (.mv (.t 1)), o1 18 (.mv (.t 6)), o1 19 (.ix (.t 17) (.t 18)), o1 20 (.cvi .u32 (.t 19)), o1 21 (.ari .xor (.t 16) (.t 20)), o1 5 (.mv (.t 21))]
def k149_5 : List AO := [o1 7 (.mv (.k (.c (.p (.int .i64 0)))))]
def k149_6 : List AO := [o1 22 (.mv (.t 7)), o1 23 (.cmp .lt (.t 22) (.k (.c (.p (.int .i64 8)))))]
def k149_7 : List AO := [o1 26 (.mv (.t 5)), o1 27 (.callp 159 [(.t 26)]), o1 5 (.mv (.t 27))]
def k149_8 : List AO := [o1 24 (.mv (.t 7)), o1 25 (.ari .add (.t 24) (.k (.c (.p (.int .i64 1))))), o1 7 (.mv (.t 25))]
def k149_9 : List AO := [o1 14 (.mv (.t 6)), o1 15 (.ari .add (.t 14) (.k (.c (.p (.int .i64 1))))), o1 6 (.mv (.t 15))]
def k149_10 : List AO := [o1 28 (.mv (.t 5)), o1 29 (.ari .sub (.k (.c (c32 4294967295))) (.t 28)), o1 4 (.mv (.t 29))]
def k149 : AC := (.seq (.reg k149_0) (.seq (.reg k149_1) (.seq (.seq (.reg k149_2) (.block 0 (.loop (.seq (.seq (.reg k149_3) (.cond (.t 13) .skip (.exit 0))) (.seq (.block 1 (.seq (.reg k149_4) (.seq (.reg k149_5) (.block 2 (.loop (.seq (.seq (.reg k149_6) (.cond (.t 23) .skip (.exit 2))) (.seq (.block 3 (.reg k149_7)) (.reg k149_8)))))))) (.reg k149_9)))))) (.seq (.reg k149_10) .ret))))
def F149 : AFn := ⟨2, 30, k149, [(.t 4)]⟩
theorem F149_ok : cfn Try.prog [26,27,28,29,32,34,36,37,38,39,41,42,50,51,52,53,54,55,56,57,58,59,60,61,62,63,64,65,66,67,68,69,70,71,72,73,74,75,76,77,78,79,80,83,84,85,86,87,88,89,99,100,101,102,103,104,105,108,110,112,113,114,115,116,117,118,119,120,121,122,123,124,125,126,128,129,131,132,133,134,135,136,137,138,139,140,143,144,146,147,148,149,150,151,152,153,156,157,158,159,160,161,162] Try.f149 = some F149 := by kernel_rfl
theorem f149_at : Try.prog.funcs[149]? = some Try.f149 := by kernel_rfl
theorem f149_fn : okFn Try.prog 149 = true := by kernel_rfl

def k124_0 : List AO := [o1 2 (.mv (.k (.c (c32 0))))]
def k124_1 : List AO := [o1 3 (.mv (.t 0)), o1 4 (.callp 149 [(.k (.c (c32 0))), (.t 3)]), o1 2 (.mv (.t 4))]
def k124 : AC := (.seq (.reg k124_0) (.seq (.reg k124_1) .ret))
def F124 : AFn := ⟨1, 5, k124, [(.t 2)]⟩
theorem F124_ok : cfn Try.prog [26,27,28,29,32,34,36,37,38,39,41,42,50,51,52,53,54,55,56,57,58,59,60,61,62,63,64,65,66,67,68,69,70,71,72,73,74,75,76,77,78,79,80,83,84,85,86,87,88,89,99,100,101,102,103,104,105,108,110,112,113,114,115,116,117,118,119,120,121,122,123,124,125,126,128,129,131,132,133,134,135,136,137,138,139,140,143,144,146,147,148,149,150,151,152,153,156,157,158,159,160,161,162] Try.f124 = some F124 := by kernel_rfl
theorem f124_at : Try.prog.funcs[124]? = some Try.f124 := by kernel_rfl
theorem f124_fn : okFn Try.prog 124 = true := by kernel_rfl

end Go.Eng
/-
  The small machine's code of functions of the program, as a program of mine printed it; each is checked against the loaded function.
-/
set_option linter.unusedVariables false
namespace Go.Eng
open Go.Proofs

def k148_0 : List AO := [o1 1 (.bx 224 (.t 0)), o1 2 (.mv (.k (.c (c32 0))))]
def k148_1 : List AO := [o1 3 (.sla 224 1 (.t 1) (some (.k (.c (.p (.int .i64 3))))) (some (.k (.c (.p (.int .i64 7)))))), o1 4 (.cpy 1 (.t 3) (.k (.c (.p (.string (str [0, 0, 0, 0]))))))]
def k148_2 : List AO := [o1 5 (.sla 224 1 (.t 1) none none), o1 6 (.cvs (.t 5)), o1 7 (.callp 105 [(.t 6)]), o1 2 (.mv (.t 7))]
def k148 : AC := (.seq (.reg k148_0) (.seq (.reg k148_1) (.seq (.reg k148_2) .ret)))
def F148 : AFn := ⟨1, 8, k148, [(.t 2)]⟩
theorem F148_ok : cfn Try.prog [26,27,28,29,32,34,36,37,38,39,41,42,50,51,52,53,54,55,56,57,58,59,60,61,62,63,64,65,66,67,68,69,70,71,72,73,74,75,76,77,78,79,80,83,84,85,86,87,88,89,99,100,101,102,103,104,105,108,110,112,113,114,115,116,117,118,119,120,121,122,123,124,125,126,128,129,131,132,133,134,135,136,137,138,139,140,143,144,146,147,148,149,150,151,152,153,156,157,158,159,160,161,162] Try.f148 = some F148 := by kernel_rfl
theorem f148_at : Try.prog.funcs[148]? = some Try.f148 := by kernel_rfl
theorem f148_fn : okFn Try.prog 148 = true := by kernel_rfl

def k117_0 : List AO := [o1 7 (.bx 224 (.t 3)), o1 8 (.al (rep 224 (b8 0)))]
def k117_1 : List AO := [o1 9 (.mv (.t 0)), o1 10 (.ia 224 1 (.t 7) (.k (.c (.p (.int .i64 0))))), o0 (.st 1 (.t 10) (.t 9))]
def k117_2 : List AO := [o1 11 (.sla 224 1 (.t 7) (some (.k (.c (.p (.int .i64 1))))) none), o1 12 (.mv (.t 1)), o1 13 (.cvi .u64 (.t 12)), o1 14 (.callp 104 [(.t 13), (.k (.c (.p (.int .i64 2))))]), o1 15 (.cpy 1 (.t 11) (.t 14))]
def k117_3 : List AO := [o1 16 (.sla 224 1 (.t 7) (some (.k (.c (.p (.int .i64 7))))) none), o1 17 (.mv (.t 2)), o1 18 (.callp 104 [(.t 17), (.k (.c (.p (.int .i64 8))))]), o1 19 (.cpy 1 (.t 16) (.t 18))]
def k117_4 : List AO := [o1 20 (.sla 224 1 (.t 7) (some (.k (.c (.p (.int .i64 3))))) none), o1 21 (.ld (some 224) (.t 7)), o1 22 (.callp 148 [(.t 21)]), o1 23 (.cvi .u64 (.t 22)), o1 24 (.callp 104 [(.t 23), (.k (.c (.p (.int .i64 4))))]), o1 25 (.cpy 1 (.t 20) (.t 24))]
def k117_5 : List AO := [o1 26 (.ld (some 224) (.t 7)), o0 (.st 224 (.t 8) (.t 26))]
def k117 : AC := (.seq (.reg k117_0) (.seq (.reg k117_1) (.seq (.reg k117_2) (.seq (.reg k117_3) (.seq (.reg k117_4) (.seq (.reg k117_5) .ret))))))
def F117 : AFn := ⟨4, 27, k117, [(.c 8 (some 224))]⟩
theorem F117_ok : cfn Try.prog [26,27,28,29,32,34,36,37,38,39,41,42,50,51,52,53,54,55,56,57,58,59,60,61,62,63,64,65,66,67,68,69,70,71,72,73,74,75,76,77,78,79,80,83,84,85,86,87,88,89,99,100,101,102,103,104,105,108,110,112,113,114,115,116,117,118,119,120,121,122,123,124,125,126,128,129,131,132,133,134,135,136,137,138,139,140,143,144,146,147,148,149,150,151,152,153,156,157,158,159,160,161,162] Try.f117 = some F117 := by kernel_rfl
theorem f117_at : Try.prog.funcs[117]? = some Try.f117 := by kernel_rfl
theorem f117_fn : okFn Try.prog 117 = true := by kernel_rfl

def k114_0 : List AO := [o1 5 (.bx 224 (.t 2)), o1 6 (.mv (.k (.c (.p (.bool false)))))]
def k114_1 : List AO := [o1 12 (.sla 224 1 (.t 5) none none), o1 13 (.cvs (.t 12)), o1 14 (.callp 115 [(.t 13), (.k (.c (.p (.int .i64 1)))), (.k (.c (.p (.int .i64 2))))]), o1 11 (.mv (.t 14)), o1 15 (.ex 0 (.t 11)), o1 16 (.ex 1 (.t 11)), o1 7 (.mv (.t 15)), o1 8 (.mv (.t 16))]
def k114_2 : List AO := [o1 18 (.sla 224 1 (.t 5) none none), o1 19 (.cvs (.t 18)), o1 20 (.callp 115 [(.t 19), (.k (.c (.p (.int .i64 3)))), (.k (.c (.p (.int .i64 4))))]), o1 17 (.mv (.t 20)), o1 21 (.ex 0 (.t 17)), o1 22 (.ex 1 (.t 17)), o1 9 (.mv (.t 21)), o1 10 (.mv (.t 22))]
def k114_3 : List AO := [o1 23 (.ia 224 1 (.t 5) (.k (.c (.p (.int .i64 0))))), o1 24 (.ld none (.t 23)), o1 25 (.mv (.t 0)), o1 26 (.cmp .eq (.t 24) (.t 25)), o1 27 (.mv (.t 26)), og 28 27 true (.mv (.t 7)), og 29 27 true (.mv (.t 1)), og 30 27 true (.cvi .u64 (.t 29)), og 31 27 true (.cmp .eq (.t 28) (.t 30)), o1 32 (.pk (.t 27) (.t 31) (.k (.c (.p (.bool false))))), o1 33 (.mv (.t 32)), og 34 33 true (.mv (.t 9)), og 35 33 true (.ld (some 224) (.t 5)), og 36 33 true (.callp 148 [(.t 35)]), og 37 33 true (.cvi .u64 (.t 36)), og 38 33 true (.cmp .eq (.t 34) (.t 37)), o1 39 (.pk (.t 33) (.t 38) (.k (.c (.p (.bool false))))), o1 6 (.mv (.t 39))]
def k114 : AC := (.seq (.reg k114_0) (.seq (.reg k114_1) (.seq (.reg k114_2) (.seq (.reg k114_3) .ret))))
def F114 : AFn := ⟨3, 40, k114, [(.t 6)]⟩
theorem F114_ok : cfn Try.prog [26,27,28,29,32,34,36,37,38,39,41,42,50,51,52,53,54,55,56,57,58,59,60,61,62,63,64,65,66,67,68,69,70,71,72,73,74,75,76,77,78,79,80,83,84,85,86,87,88,89,99,100,101,102,103,104,105,108,110,112,113,114,115,116,117,118,119,120,121,122,123,124,125,126,128,129,131,132,133,134,135,136,137,138,139,140,143,144,146,147,148,149,150,151,152,153,156,157,158,159,160,161,162] Try.f114 = some F114 := by kernel_rfl
theorem f114_at : Try.prog.funcs[114]? = some Try.f114 := by kernel_rfl
theorem f114_fn : okFn Try.prog 114 = true := by kernel_rfl

def k57_0 : List AO := [o1 1 (.bx 224 (.t 0)), o1 2 (.mv (.k (.c (c64 0))))]
def k57_1 : List AO := [o1 6 (.sla 224 1 (.t 1) none none), o1 7 (.cvs (.t 6)), o1 8 (.callp 115 [(.t 7), (.k (.c (.p (.int .i64 7)))), (.k (.c (.p (.int .i64 8))))]), o1 5 (.mv (.t 8)), o1 9 (.ex 0 (.t 5)), o1 10 (.ex 1 (.t 5)), o1 3 (.mv (.t 9)), o1 4 (.mv (.t 10))]
def k57_2 : List AO := [o1 11 (.mv (.t 3)), o1 2 (.mv (.t 11))]
def k57 : AC := (.seq (.reg k57_0) (.seq (.reg k57_1) (.seq (.reg k57_2) .ret)))
def F57 : AFn := ⟨1, 12, k57, [(.t 2)]⟩
theorem F57_ok : cfn Try.prog [26,27,28,29,32,34,36,37,38,39,41,42,50,51,52,53,54,55,56,57,58,59,60,61,62,63,64,65,66,67,68,69,70,71,72,73,74,75,76,77,78,79,80,83,84,85,86,87,88,89,99,100,101,102,103,104,105,108,110,112,113,114,115,116,117,118,119,120,121,122,123,124,125,126,128,129,131,132,133,134,135,136,137,138,139,140,143,144,146,147,148,149,150,151,152,153,156,157,158,159,160,161,162] Try.f57 = some F57 := by kernel_rfl
theorem f57_at : Try.prog.funcs[57]? = some Try.f57 := by kernel_rfl
theorem f57_fn : okFn Try.prog 57 = true := by kernel_rfl

def k55_0 : List AO := [o1 3 (.bx 68 (.t 1)), o1 4 (.al (rep 224 (b8 0)))]
def k55_1 : List AO := [o1 5 (.al (rep 224 (b8 0)))]
def k55_2 : List AO := [o1 6 (.sla 224 1 (.t 5) (some (.k (.c (.p (.int .i64 15))))) none), o1 7 (.fa 1 1 (.t 3)), o1 8 (.ld none (.t 7)), o1 9 (.cvi .u64 (.t 8)), o1 10 (.callp 104 [(.t 9), (.k (.c (.p (.int .i64 4))))]), o1 11 (.cpy 1 (.t 6) (.t 10))]
def k55_3 : List AO := [o1 12 (.sla 224 1 (.t 5) (some (.k (.c (.p (.int .i64 19))))) none), o1 13 (.fa 2 2 (.t 3)), o1 14 (.fa 0 1 (.t 13)), o1 15 (.ld none (.t 14)), o1 16 (.cvi .u64 (.t 15)), o1 17 (.callp 104 [(.t 16), (.k (.c (.p (.int .i64 2))))]), o1 18 (.cpy 1 (.t 12) (.t 17))]
def k55_4 : List AO := [o1 19 (.fa 2 2 (.t 3)), o1 20 (.fa 1 1 (.t 19)), o1 21 (.ld none (.t 20)), o1 22 (.ia 224 1 (.t 5) (.k (.c (.p (.int .i64 21))))), o0 (.st 1 (.t 22) (.t 21))]
def k55_5 : List AO := [o1 23 (.sla 224 1 (.t 5) (some (.k (.c (.p (.int .i64 22))))) none), o1 24 (.fa 4 64 (.t 3)), o1 25 (.sla 64 1 (.t 24) none none), o1 26 (.cpy 1 (.t 23) (.t 25))]
def k55_6 : List AO := [o1 27 (.mv (.t 0)), o1 28 (.fa 0 1 (.t 3)), o1 29 (.ld none (.t 28)), o1 30 (.ld (some 224) (.t 5)), o1 31 (.callp 117 [(.k (.c (b8 1))), (.t 27), (.t 29), (.t 30)]), o0 (.st 224 (.t 4) (.t 31))]
def k55 : AC := (.seq (.reg k55_0) (.seq (.reg k55_1) (.seq (.reg k55_2) (.seq (.reg k55_3) (.seq (.reg k55_4) (.seq (.reg k55_5) (.seq (.reg k55_6) .ret)))))))
def F55 : AFn := ⟨2, 32, k55, [(.c 4 (some 224))]⟩
theorem F55_ok : cfn Try.prog [26,27,28,29,32,34,36,37,38,39,41,42,50,51,52,53,54,55,56,57,58,59,60,61,62,63,64,65,66,67,68,69,70,71,72,73,74,75,76,77,78,79,80,83,84,85,86,87,88,89,99,100,101,102,103,104,105,108,110,112,113,114,115,116,117,118,119,120,121,122,123,124,125,126,128,129,131,132,133,134,135,136,137,138,139,140,143,144,146,147,148,149,150,151,152,153,156,157,158,159,160,161,162] Try.f55 = some F55 := by kernel_rfl
theorem f55_at : Try.prog.funcs[55]? = some Try.f55 := by kernel_rfl
theorem f55_fn : okFn Try.prog 55 = true := by kernel_rfl

def k53_0 : List AO := [o1 3 (.bx 224 (.t 1)), o1 4 (.al ([(c64 0), (c32 0), (c16 0)] ++ rep 65 (b8 0))), o1 5 (.mv (.k (.c (.p (.int .i64 0)))))]
def k53_1 : List AO := [o1 14 (.mv (.t 0)), o1 15 (.ld (some 224) (.t 3)), o1 16 (.callp 114 [(.k (.c (b8 1))), (.t 14), (.t 15)]), o1 17 (.not (.t 16))]
def k53_2 : List AO := [o1 18 (.bd ([(c64 0), (c32 0), (c16 0)] ++ rep 65 (b8 0)) []), o0 (.st 68 (.t 4) (.t 18)), o1 5 (.mv (.k (.c (.p (.int .i64 2)))))]
def k53_3 : List AO := [o1 19 (.sla 224 1 (.t 3) (some (.k (.c (.p (.int .i64 86))))) none), o1 20 (.ln (.t 19)), o1 21 (.mv (.k (.c (.p (.int .i64 0)))))]
def k53_4 : List AO := [o1 22 (.cmp .lt (.t 21) (.t 20))]
def k53_5 : List AO := [o1 23 (.is 1 (.t 19) (.t 21)), o1 24 (.ld none (.t 23)), o1 7 (.mv (.t 24))]
def k53_6 : List AO := [o1 25 (.mv (.t 7)), o1 26 (.cmp .ne (.t 25) (.k (.c (b8 0))))]
def k53_7 : List AO := [o1 27 (.bd ([(c64 0), (c32 0), (c16 0)] ++ rep 65 (b8 0)) []), o0 (.st 68 (.t 4) (.t 27)), o1 5 (.mv (.k (.c (.p (.int .i64 2)))))]
def k53_8 : List AO := [o1 28 (.ari .add (.t 21) (.k (.c (.p (.int .i64 1))))), o1 21 (.mv (.t 28))]
def k53_9 : List AO := [o1 29 (.sla 224 1 (.t 3) none none), o1 30 (.cvs (.t 29)), o1 8 (.mv (.t 30))]
def k53_10 : List AO := [o1 31 (.ld (some 224) (.t 3)), o1 32 (.callp 57 [(.t 31)]), o1 33 (.bd ([(c64 0), (c32 0), (c16 0)] ++ rep 65 (b8 0)) [(0, (1, (.t 32)))]), o1 9 (.al ([(c64 0), (c32 0), (c16 0)] ++ rep 65 (b8 0))), o0 (.st 68 (.t 9) (.t 33))]
def k53_11 : List AO := [o1 35 (.mv (.t 8)), o1 36 (.callp 115 [(.t 35), (.k (.c (.p (.int .i64 15)))), (.k (.c (.p (.int .i64 4))))]), o1 34 (.mv (.t 36)), o1 37 (.ex 0 (.t 34)), o1 38 (.ex 1 (.t 34)), o1 10 (.mv (.t 37)), o1 11 (.mv (.t 38))]
def k53_12 : List AO := [o1 40 (.mv (.t 8)), o1 41 (.callp 115 [(.t 40), (.k (.c (.p (.int .i64 19)))), (.k (.c (.p (.int .i64 2))))]), o1 39 (.mv (.t 41)), o1 42 (.ex 0 (.t 39)), o1 43 (.ex 1 (.t 39)), o1 12 (.mv (.t 42)), o1 13 (.mv (.t 43))]
def k53_13 : List AO := [o1 44 (.mv (.t 10)), o1 45 (.cvi .u32 (.t 44)), o1 46 (.fa 1 1 (.t 9)), o0 (.st 1 (.t 46) (.t 45))]
def k53_14 : List AO := [o1 47 (.mv (.t 12)), o1 48 (.cvi .u16 (.t 47)), o1 49 (.ia 224 1 (.t 3) (.k (.c (.p (.int .i64 21))))), o1 50 (.ld none (.t 49)), o1 51 (.bd [(c16 0), (b8 0)] [(0, (1, (.t 48))), (1, (1, (.t 50)))]), o1 52 (.fa 2 2 (.t 9)), o0 (.st 2 (.t 52) (.t 51))]
def k53_15 : List AO := [o1 53 (.fa 4 64 (.t 9)), o1 54 (.sla 64 1 (.t 53) none none), o1 55 (.sla 224 1 (.t 3) (some (.k (.c (.p (.int .i64 22))))) none), o1 56 (.cpy 1 (.t 54) (.t 55))]
def k53_16 : List AO := [o1 57 (.ld (some 68) (.t 9)), o0 (.st 68 (.t 4) (.t 57)), o1 5 (.mv (.k (.c (.p (.int .i64 0)))))]
def k53 : AC := (.seq (.reg k53_0) (.seq (.seq (.reg k53_1) (.cond (.t 17) (.seq (.reg k53_2) .ret) .skip)) (.seq (.seq (.reg k53_3) (.block 0 (.loop (.seq (.reg k53_4) (.seq (.cond (.t 22) .skip (.exit 0)) (.seq (.block 1 (.seq (.reg k53_5) (.seq (.reg k53_6) (.cond (.t 26) (.seq (.reg k53_7) .ret) .skip)))) (.reg k53_8))))))) (.seq (.reg k53_9) (.seq (.reg k53_10) (.seq (.reg k53_11) (.seq (.reg k53_12) (.seq (.reg k53_13) (.seq (.reg k53_14) (.seq (.reg k53_15) (.seq (.reg k53_16) .ret)))))))))))
def F53 : AFn := ⟨2, 58, k53, [(.c 4 (some 68)), (.t 5)]⟩
theorem F53_ok : cfn Try.prog [26,27,28,29,32,34,36,37,38,39,41,42,50,51,52,53,54,55,56,57,58,59,60,61,62,63,64,65,66,67,68,69,70,71,72,73,74,75,76,77,78,79,80,83,84,85,86,87,88,89,99,100,101,102,103,104,105,108,110,112,113,114,115,116,117,118,119,120,121,122,123,124,125,126,128,129,131,132,133,134,135,136,137,138,139,140,143,144,146,147,148,149,150,151,152,153,156,157,158,159,160,161,162] Try.f53 = some F53 := by kernel_rfl
theorem f53_at : Try.prog.funcs[53]? = some Try.f53 := by kernel_rfl
theorem f53_fn : okFn Try.prog 53 = true := by kernel_rfl

def k66_0 : List AO := [o1 1 (.bx 2 (.t 0)), o1 2 (.mv (.k (.c (.p (.int .i64 0)))))]
def k66_1 : List AO := [o1 3 (.mv (.k (.c (.p (.int .i64 16)))))]
def k66_2 : List AO := [o1 6 (.fa 1 1 (.t 1)), o1 7 (.ld none (.t 6)), o1 8 (.ln (.t 7)), o1 9 (.mv (.k (.c (.p (.int .i64 0)))))]
def k66_3 : List AO := [o1 10 (.cmp .lt (.t 9) (.t 8))]
def k66_4 : List AO := [o1 11 (.is 6 (.t 7) (.t 9)), o1 12 (.ld (some 6) (.t 11)), o1 5 (.al [(.p (.bool false)), (c16 0), (c32 0), (c16 0), (b8 0), (.p (.string (str [])))]), o0 (.st 6 (.t 5) (.t 12))]
def k66_5 : List AO := [o1 13 (.mv (.t 3)), o1 14 (.ari .add (.t 13) (.k (.c (.p (.int .i64 1))))), o1 3 (.mv (.t 14))]
def k66_6 : List AO := [o1 15 (.fa 0 1 (.t 5)), o1 16 (.ld none (.t 15))]
def k66_7 : List AO := [o1 17 (.mv (.t 3)), o1 18 (.fa 5 1 (.t 5)), o1 19 (.ld none (.t 18)), o1 20 (.lns (.t 19)), o1 21 (.ari .add (.k (.c (.p (.int .i64 10)))) (.t 20)), o1 22 (.ari .add (.t 17) (.t 21)), o1 3 (.mv (.t 22))]
def k66_8 : List AO := [o1 23 (.ari .add (.t 9) (.k (.c (.p (.int .i64 1))))), o1 9 (.mv (.t 23))]
def k66_9 : List AO := [o1 24 (.mv (.t 3)), o1 2 (.mv (.t 24))]
def k66 : AC := (.seq (.reg k66_0) (.seq (.reg k66_1) (.seq (.seq (.reg k66_2) (.block 0 (.loop (.seq (.reg k66_3) (.seq (.cond (.t 10) .skip (.exit 0)) (.seq (.block 1 (.seq (.reg k66_4) (.seq (.reg k66_5) (.seq (.reg k66_6) (.cond (.t 16) (.reg k66_7) .skip))))) (.reg k66_8))))))) (.seq (.reg k66_9) .ret))))
def F66 : AFn := ⟨1, 25, k66, [(.t 2)]⟩
theorem F66_ok : cfn Try.prog [26,27,28,29,32,34,36,37,38,39,41,42,50,51,52,53,54,55,56,57,58,59,60,61,62,63,64,65,66,67,68,69,70,71,72,73,74,75,76,77,78,79,80,83,84,85,86,87,88,89,99,100,101,102,103,104,105,108,110,112,113,114,115,116,117,118,119,120,121,122,123,124,125,126,128,129,131,132,133,134,135,136,137,138,139,140,143,144,146,147,148,149,150,151,152,153,156,157,158,159,160,161,162] Try.f66 = some F66 := by kernel_rfl
theorem f66_at : Try.prog.funcs[66]? = some Try.f66 := by kernel_rfl
theorem f66_fn : okFn Try.prog 66 = true := by kernel_rfl

def k65_0 : List AO := [o1 1 (.bx 2 (.t 0)), o1 2 (.mv (.k (.c (.p (.bool false)))))]
def k65_1 : List AO := [o1 5 (.fa 1 1 (.t 1)), o1 6 (.ld none (.t 5)), o1 7 (.ln (.t 6)), o1 8 (.cmp .gt (.t 7) (.k (.c (.p (.int .i64 15))))), o1 9 (.mv (.t 8)), og 10 9 false (.fa 1 1 (.t 1)), og 11 9 false (.ld none (.t 10)), og 12 9 false (.ln (.t 11)), og 13 9 false (.cmp .gt (.t 12) (.k (.c (.p (.int .i64 0))))), og 14 9 false (.mv (.t 13)), og 15 14 true (.fa 1 1 (.t 1)), og 16 14 true (.ld none (.t 15)), og 17 14 true (.fa 1 1 (.t 1)), og 18 14 true (.ld none (.t 17)), og 19 14 true (.ln (.t 18)), og 20 14 true (.ari .sub (.t 19) (.k (.c (.p (.int .i64 1))))), og 21 14 true (.is 6 (.t 16) (.t 20)), og 22 14 true (.fa 0 1 (.t 21)), og 23 14 true (.ld none (.t 22)), og 24 14 true (.not (.t 23)), og 25 9 false (.pk (.t 14) (.t 24) (.k (.c (.p (.bool false))))), o1 26 (.pk (.t 9) (.k (.c (.p (.bool true)))) (.t 25))]
def k65_2 : List AO := [o1 2 (.mv (.k (.c (.p (.bool false)))))]
def k65_3 : List AO := [o1 27 (.fa 1 1 (.t 1)), o1 28 (.ld none (.t 27)), o1 29 (.ln (.t 28)), o1 30 (.mv (.k (.c (.p (.int .i64 0)))))]
def k65_4 : List AO := [o1 31 (.cmp .lt (.t 30) (.t 29))]
def k65_5 : List AO := [o1 32 (.is 6 (.t 28) (.t 30)), o1 33 (.ld (some 6) (.t 32)), o1 4 (.al [(.p (.bool false)), (c16 0), (c32 0), (c16 0), (b8 0), (.p (.string (str [])))]), o0 (.st 6 (.t 4) (.t 33))]
def k65_6 : List AO := [o1 34 (.fa 0 1 (.t 4)), o1 35 (.ld none (.t 34)), o1 36 (.not (.t 35)), o1 37 (.mv (.t 36)), og 38 37 true (.ld (some 6) (.t 4)), og 39 37 true (.bd [(.p (.bool false)), (c16 0), (c32 0), (c16 0), (b8 0), (.p (.string (str [])))] []), og 40 37 true (.eqg true [(1, .b), (1, (.i .u16)), (1, (.i .u32)), (1, (.i .u16)), (1, (.i .u8)), (1, .s)] (.t 38) (.t 39)), o1 41 (.pk (.t 37) (.t 40) (.k (.c (.p (.bool false))))), o1 42 (.mv (.t 41)), og 43 42 false (.fa 5 1 (.t 4)), og 44 42 false (.ld none (.t 43)), og 45 42 false (.lns (.t 44)), og 46 42 false (.cmp .gt (.t 45) (.k (.c (.p (.int .i64 66))))), o1 47 (.pk (.t 42) (.k (.c (.p (.bool true)))) (.t 46))]
def k65_7 : List AO := [o1 2 (.mv (.k (.c (.p (.bool false)))))]
def k65_8 : List AO := [o1 48 (.ari .add (.t 30) (.k (.c (.p (.int .i64 1))))), o1 30 (.mv (.t 48))]
def k65_9 : List AO := [o1 49 (.ld (some 2) (.t 1)), o1 50 (.callp 66 [(.t 49)]), o1 51 (.cmp .le (.t 50) (.k (.c (.p (.int .i64 224))))), o1 2 (.mv (.t 51))]
def k65 : AC := (.seq (.reg k65_0) (.seq (.seq (.reg k65_1) (.cond (.t 26) (.seq (.reg k65_2) .ret) .skip)) (.seq (.seq (.reg k65_3) (.block 0 (.loop (.seq (.reg k65_4) (.seq (.cond (.t 31) .skip (.exit 0)) (.seq (.block 1 (.seq (.reg k65_5) (.seq (.reg k65_6) (.cond (.t 47) (.seq (.reg k65_7) .ret) .skip)))) (.reg k65_8))))))) (.seq (.reg k65_9) .ret))))
def F65 : AFn := ⟨1, 52, k65, [(.t 2)]⟩
theorem F65_ok : cfn Try.prog [26,27,28,29,32,34,36,37,38,39,41,42,50,51,52,53,54,55,56,57,58,59,60,61,62,63,64,65,66,67,68,69,70,71,72,73,74,75,76,77,78,79,80,83,84,85,86,87,88,89,99,100,101,102,103,104,105,108,110,112,113,114,115,116,117,118,119,120,121,122,123,124,125,126,128,129,131,132,133,134,135,136,137,138,139,140,143,144,146,147,148,149,150,151,152,153,156,157,158,159,160,161,162] Try.f65 = some F65 := by kernel_rfl
theorem f65_at : Try.prog.funcs[65]? = some Try.f65 := by kernel_rfl
theorem f65_fn : okFn Try.prog 65 = true := by kernel_rfl

def k60_0 : List AO := [o1 3 (.bx 2 (.t 1)), o1 4 (.al (rep 224 (b8 0))), o1 5 (.mv (.k (.c (.p (.int .i64 0)))))]
def k60_1 : List AO := [o1 11 (.ld (some 2) (.t 3)), o1 12 (.callp 65 [(.t 11)]), o1 13 (.not (.t 12))]
def k60_2 : List AO := [o1 14 (.bd (rep 224 (b8 0)) []), o0 (.st 224 (.t 4) (.t 14)), o1 5 (.mv (.k (.c (.p (.int .i64 1)))))]
def k60_3 : List AO := [o1 6 (.al (rep 224 (b8 0)))]
def k60_4 : List AO := [o1 15 (.fa 1 1 (.t 3)), o1 16 (.ld none (.t 15)), o1 17 (.ln (.t 16)), o1 18 (.cvi .u8 (.t 17)), o1 19 (.ia 224 1 (.t 6) (.k (.c (.p (.int .i64 15))))), o0 (.st 1 (.t 19) (.t 18))]
def k60_5 : List AO := [o1 7 (.mv (.k (.c (.p (.int .i64 16)))))]
def k60_6 : List AO := [o1 20 (.fa 1 1 (.t 3)), o1 21 (.ld none (.t 20)), o1 22 (.ln (.t 21)), o1 23 (.mv (.k (.c (.p (.int .i64 0)))))]
def k60_7 : List AO := [o1 24 (.cmp .lt (.t 23) (.t 22))]
def k60_8 : List AO := [o1 25 (.is 6 (.t 21) (.t 23)), o1 26 (.ld (some 6) (.t 25)), o1 9 (.al [(.p (.bool false)), (c16 0), (c32 0), (c16 0), (b8 0), (.p (.string (str [])))]), o0 (.st 6 (.t 9) (.t 26))]
def k60_9 : List AO := [o1 10 (.mv (.k (.c (.p (.string (str [0]))))))]
def k60_10 : List AO := [o1 27 (.fa 0 1 (.t 9)), o1 28 (.ld none (.t 27))]
def k60_11 : List AO := [o1 29 (.fa 1 1 (.t 9)), o1 30 (.ld none (.t 29)), o1 31 (.cvi .u64 (.t 30)), o1 32 (.callp 104 [(.t 31), (.k (.c (.p (.int .i64 2))))]), o1 33 (.ari .add (.k (.c (.p (.string (str [1]))))) (.t 32)), o1 34 (.fa 2 1 (.t 9)), o1 35 (.ld none (.t 34)), o1 36 (.cvi .u64 (.t 35)), o1 37 (.callp 104 [(.t 36), (.k (.c (.p (.int .i64 4))))]), o1 38 (.ari .add (.t 33) (.t 37)), o1 39 (.fa 3 2 (.t 9)), o1 40 (.fa 0 1 (.t 39)), o1 41 (.ld none (.t 40)), o1 42 (.cvi .u64 (.t 41)), o1 43 (.callp 104 [(.t 42), (.k (.c (.p (.int .i64 2))))]), o1 44 (.ari .add (.t 38) (.t 43)), o1 45 (.fa 3 2 (.t 9)), o1 46 (.fa 1 1 (.t 45)), o1 47 (.ld none (.t 46)), o1 48 (.fa 5 1 (.t 9)), o1 49 (.ld none (.t 48)), o1 50 (.lns (.t 49)), o1 51 (.cvi .u8 (.t 50)), o1 52 (.bs 1 2 5 [(b8 0)] [(0, (.t 47)), (1, (.t 51))]), o1 53 (.cvs (.t 52)), o1 54 (.ari .add (.t 44) (.t 53)), o1 55 (.fa 5 1 (.t 9)), o1 56 (.ld none (.t 55)), o1 57 (.ari .add (.t 54) (.t 56)), o1 10 (.mv (.t 57))]
def k60_12 : List AO := [o1 58 (.mv (.t 7)), o1 59 (.mv (.t 7)), o1 60 (.sla 224 1 (.t 6) (some (.t 59)) none), o1 61 (.mv (.t 10)), o1 62 (.cpy 1 (.t 60) (.t 61)), o1 63 (.ari .add (.t 58) (.t 62)), o1 7 (.mv (.t 63))]
def k60_13 : List AO := [o1 64 (.ari .add (.t 23) (.k (.c (.p (.int .i64 1))))), o1 23 (.mv (.t 64))]
def k60_14 : List AO := [o1 65 (.mv (.t 0)), o1 66 (.fa 0 1 (.t 3)), o1 67 (.ld none (.t 66)), o1 68 (.ld (some 224) (.t 6)), o1 69 (.callp 117 [(.k (.c (b8 2))), (.t 65), (.t 67), (.t 68)]), o0 (.st 224 (.t 4) (.t 69)), o1 5 (.mv (.k (.c (.p (.int .i64 0)))))]
def k60 : AC := (.seq (.reg k60_0) (.seq (.seq (.reg k60_1) (.cond (.t 13) (.seq (.reg k60_2) .ret) .skip)) (.seq (.reg k60_3) (.seq (.reg k60_4) (.seq (.reg k60_5) (.seq (.seq (.reg k60_6) (.block 0 (.loop (.seq (.reg k60_7) (.seq (.cond (.t 24) .skip (.exit 0)) (.seq (.block 1 (.seq (.reg k60_8) (.seq (.reg k60_9) (.seq (.seq (.reg k60_10) (.cond (.t 28) (.reg k60_11) .skip)) (.reg k60_12))))) (.reg k60_13))))))) (.seq (.reg k60_14) .ret)))))))
def F60 : AFn := ⟨2, 70, k60, [(.c 4 (some 224)), (.t 5)]⟩
theorem F60_ok : cfn Try.prog [26,27,28,29,32,34,36,37,38,39,41,42,50,51,52,53,54,55,56,57,58,59,60,61,62,63,64,65,66,67,68,69,70,71,72,73,74,75,76,77,78,79,80,83,84,85,86,87,88,89,99,100,101,102,103,104,105,108,110,112,113,114,115,116,117,118,119,120,121,122,123,124,125,126,128,129,131,132,133,134,135,136,137,138,139,140,143,144,146,147,148,149,150,151,152,153,156,157,158,159,160,161,162] Try.f60 = some F60 := by kernel_rfl
theorem f60_at : Try.prog.funcs[60]? = some Try.f60 := by kernel_rfl
theorem f60_fn : okFn Try.prog 60 = true := by kernel_rfl

def k63_0 : List AO := [o1 3 (.bx 224 (.t 1)), o1 4 (.al [(c64 0), (.z 143)]), o1 5 (.mv (.k (.c (.p (.int .i64 0)))))]
def k63_1 : List AO := [o1 17 (.mv (.t 0)), o1 18 (.ld (some 224) (.t 3)), o1 19 (.callp 114 [(.k (.c (b8 2))), (.t 17), (.t 18)]), o1 20 (.not (.t 19))]
def k63_2 : List AO := [o1 21 (.bd [(c64 0), (.z 143)] []), o0 (.st 2 (.t 4) (.t 21)), o1 5 (.mv (.k (.c (.p (.int .i64 2)))))]
def k63_3 : List AO := [o1 22 (.sla 224 1 (.t 3) none none), o1 23 (.cvs (.t 22)), o1 6 (.mv (.t 23))]
def k63_4 : List AO := [o1 24 (.ld (some 224) (.t 3)), o1 25 (.callp 57 [(.t 24)]), o1 26 (.bd [(c64 0), (.z 143)] [(0, (1, (.t 25)))]), o1 7 (.al [(c64 0), (.z 143)]), o0 (.st 2 (.t 7) (.t 26))]
def k63_5 : List AO := [o1 8 (.mv (.k (.c (.p (.int .i64 16)))))]
def k63_6 : List AO := [o1 27 (.ia 224 1 (.t 3) (.k (.c (.p (.int .i64 15))))), o1 28 (.ld none (.t 27)), o1 29 (.cvi .i64 (.t 28)), o1 30 (.mv (.k (.c (.p (.int .i64 0)))))]
def k63_7 : List AO := [o1 31 (.cmp .lt (.t 30) (.t 29))]
def k63_8 : List AO := [o1 9 (.al [(.p (.bool false)), (c16 0), (c32 0), (c16 0), (b8 0), (.p (.string (str [])))])]
def k63_9 : List AO := [o1 32 (.mv (.t 8)), o1 33 (.mv (.t 6)), o1 34 (.lns (.t 33)), o1 35 (.cmp .ge (.t 32) (.t 34)), o1 36 (.mv (.t 35)), og 37 36 false (.mv (.t 6)), og 38 36 false (.mv (.t 8)), og 39 36 false (.ix (.t 37) (.t 38)), og 40 36 false (.cmp .gt (.t 39) (.k (.c (b8 1)))), o1 41 (.pk (.t 36) (.k (.c (.p (.bool true)))) (.t 40))]
def k63_10 : List AO := [o1 42 (.bd [(c64 0), (.z 143)] []), o0 (.st 2 (.t 4) (.t 42)), o1 5 (.mv (.k (.c (.p (.int .i64 2)))))]
def k63_11 : List AO := [o1 43 (.mv (.t 6)), o1 44 (.mv (.t 8)), o1 45 (.ix (.t 43) (.t 44)), o1 46 (.cmp .eq (.t 45) (.k (.c (b8 1)))), o1 47 (.fa 0 1 (.t 9)), o0 (.st 1 (.t 47) (.t 46))]
def k63_12 : List AO := [o1 48 (.mv (.t 8)), o1 49 (.ari .add (.t 48) (.k (.c (.p (.int .i64 1))))), o1 8 (.mv (.t 49))]
def k63_13 : List AO := [o1 50 (.fa 0 1 (.t 9)), o1 51 (.ld none (.t 50))]
def k63_14 : List AO := [o1 52 (.mv (.t 8)), o1 53 (.ari .add (.t 52) (.k (.c (.p (.int .i64 10))))), o1 54 (.mv (.t 6)), o1 55 (.lns (.t 54)), o1 56 (.cmp .gt (.t 53) (.t 55)), o1 57 (.mv (.t 56)), og 58 57 false (.mv (.t 8)), og 59 57 false (.ari .add (.t 58) (.k (.c (.p (.int .i64 10))))), og 60 57 false (.mv (.t 6)), og 61 57 false (.mv (.t 8)), og 62 57 false (.ari .add (.t 61) (.k (.c (.p (.int .i64 9))))), og 63 57 false (.ix (.t 60) (.t 62)), og 64 57 false (.cvi .i64 (.t 63)), og 65 57 false (.ari .add (.t 59) (.t 64)), og 66 57 false (.mv (.t 6)), og 67 57 false (.lns (.t 66)), og 68 57 false (.cmp .gt (.t 65) (.t 67)), o1 69 (.pk (.t 57) (.k (.c (.p (.bool true)))) (.t 68))]
def k63_15 : List AO := [o1 70 (.bd [(c64 0), (.z 143)] []), o0 (.st 2 (.t 4) (.t 70)), o1 5 (.mv (.k (.c (.p (.int .i64 2)))))]
def k63_16 : List AO := [o1 72 (.mv (.t 6)), o1 73 (.mv (.t 8)), o1 74 (.callp 115 [(.t 72), (.t 73), (.k (.c (.p (.int .i64 2))))]), o1 71 (.mv (.t 74)), o1 75 (.ex 0 (.t 71)), o1 76 (.ex 1 (.t 71)), o1 10 (.mv (.t 75)), o1 11 (.mv (.t 76))]
def k63_17 : List AO := [o1 78 (.mv (.t 6)), o1 79 (.mv (.t 8)), o1 80 (.ari .add (.t 79) (.k (.c (.p (.int .i64 2))))), o1 81 (.callp 115 [(.t 78), (.t 80), (.k (.c (.p (.int .i64 4))))]), o1 77 (.mv (.t 81)), o1 82 (.ex 0 (.t 77)), o1 83 (.ex 1 (.t 77)), o1 12 (.mv (.t 82)), o1 13 (.mv (.t 83))]
def k63_18 : List AO := [o1 85 (.mv (.t 6)), o1 86 (.mv (.t 8)), o1 87 (.ari .add (.t 86) (.k (.c (.p (.int .i64 6))))), o1 88 (.callp 115 [(.t 85), (.t 87), (.k (.c (.p (.int .i64 2))))]), o1 84 (.mv (.t 88)), o1 89 (.ex 0 (.t 84)), o1 90 (.ex 1 (.t 84)), o1 14 (.mv (.t 89)), o1 15 (.mv (.t 90))]
def k63_19 : List AO := [o1 91 (.mv (.t 10)), o1 92 (.cvi .u16 (.t 91)), o1 93 (.mv (.t 12)), o1 94 (.cvi .u32 (.t 93)), o1 95 (.mv (.t 14)), o1 96 (.cvi .u16 (.t 95)), o1 97 (.mv (.t 6)), o1 98 (.mv (.t 8)), o1 99 (.ari .add (.t 98) (.k (.c (.p (.int .i64 8))))), o1 100 (.ix (.t 97) (.t 99)), o1 101 (.bd [(c16 0), (b8 0)] [(0, (1, (.t 96))), (1, (1, (.t 100)))]), o1 102 (.fa 1 1 (.t 9)), o0 (.st 1 (.t 102) (.t 92)), o1 103 (.fa 2 1 (.t 9)), o0 (.st 1 (.t 103) (.t 94)), o1 104 (.fa 3 2 (.t 9)), o0 (.st 2 (.t 104) (.t 101))]
def k63_20 : List AO := [o1 105 (.mv (.t 6)), o1 106 (.mv (.t 8)), o1 107 (.ari .add (.t 106) (.k (.c (.p (.int .i64 9))))), o1 108 (.ix (.t 105) (.t 107)), o1 109 (.cvi .i64 (.t 108)), o1 16 (.mv (.t 109))]
def k63_21 : List AO := [o1 110 (.mv (.t 6)), o1 111 (.mv (.t 8)), o1 112 (.ari .add (.t 111) (.k (.c (.p (.int .i64 10))))), o1 113 (.mv (.t 8)), o1 114 (.ari .add (.t 113) (.k (.c (.p (.int .i64 10))))), o1 115 (.mv (.t 16)), o1 116 (.ari .add (.t 114) (.t 115)), o1 117 (.sls (.t 110) (some (.t 112)) (some (.t 116))), o1 118 (.fa 5 1 (.t 9)), o0 (.st 1 (.t 118) (.t 117))]
def k63_22 : List AO := [o1 119 (.mv (.t 8)), o1 120 (.mv (.t 16)), o1 121 (.ari .add (.k (.c (.p (.int .i64 10)))) (.t 120)), o1 122 (.ari .add (.t 119) (.t 121)), o1 8 (.mv (.t 122))]
def k63_23 : List AO := [o1 123 (.fa 1 1 (.t 7)), o1 124 (.ld none (.t 123)), o1 125 (.ld (some 6) (.t 9)), o1 126 (.bs 6 1 143 [(.p (.bool false)), (c16 0), (c32 0), (c16 0), (b8 0), (.p (.string (str [])))] [(0, (.t 125))]), o1 127 (.ap 6 32 143 (.t 124) (.t 126)), o1 128 (.fa 1 1 (.t 7)), o0 (.st 1 (.t 128) (.t 127))]
def k63_24 : List AO := [o1 129 (.ari .add (.t 30) (.k (.c (.p (.int .i64 1))))), o1 30 (.mv (.t 129))]
def k63_25 : List AO := [o1 130 (.mv (.t 8)), o1 131 (.mv (.t 6)), o1 132 (.lns (.t 131)), o1 133 (.cmp .lt (.t 130) (.t 132))]
def k63_26 : List AO := [o1 136 (.mv (.t 6)), o1 137 (.mv (.t 8)), o1 138 (.ix (.t 136) (.t 137)), o1 139 (.cmp .ne (.t 138) (.k (.c (b8 0))))]
def k63_27 : List AO := [o1 140 (.bd [(c64 0), (.z 143)] []), o0 (.st 2 (.t 4) (.t 140)), o1 5 (.mv (.k (.c (.p (.int .i64 2)))))]
def k63_28 : List AO := [o1 134 (.mv (.t 8)), o1 135 (.ari .add (.t 134) (.k (.c (.p (.int .i64 1))))), o1 8 (.mv (.t 135))]
def k63_29 : List AO := [o1 141 (.ld (some 2) (.t 7)), o1 142 (.callp 65 [(.t 141)]), o1 143 (.not (.t 142))]
def k63_30 : List AO := [o1 144 (.bd [(c64 0), (.z 143)] []), o0 (.st 2 (.t 4) (.t 144)), o1 5 (.mv (.k (.c (.p (.int .i64 2)))))]
def k63_31 : List AO := [o1 145 (.ld (some 2) (.t 7)), o0 (.st 2 (.t 4) (.t 145)), o1 5 (.mv (.k (.c (.p (.int .i64 0)))))]
def k63 : AC := (.seq (.reg k63_0) (.seq (.seq (.reg k63_1) (.cond (.t 20) (.seq (.reg k63_2) .ret) .skip)) (.seq (.reg k63_3) (.seq (.reg k63_4) (.seq (.reg k63_5) (.seq (.seq (.reg k63_6) (.block 0 (.loop (.seq (.reg k63_7) (.seq (.cond (.t 31) .skip (.exit 0)) (.seq (.block 1 (.seq (.reg k63_8) (.seq (.seq (.reg k63_9) (.cond (.t 41) (.seq (.reg k63_10) .ret) .skip)) (.seq (.reg k63_11) (.seq (.reg k63_12) (.seq (.seq (.reg k63_13) (.cond (.t 51) (.seq (.seq (.reg k63_14) (.cond (.t 69) (.seq (.reg k63_15) .ret) .skip)) (.seq (.reg k63_16) (.seq (.reg k63_17) (.seq (.reg k63_18) (.seq (.reg k63_19) (.seq (.reg k63_20) (.seq (.reg k63_21) (.reg k63_22)))))))) .skip)) (.reg k63_23))))))) (.reg k63_24))))))) (.seq (.block 2 (.loop (.seq (.seq (.reg k63_25) (.cond (.t 133) .skip (.exit 2))) (.seq (.block 3 (.seq (.reg k63_26) (.cond (.t 139) (.seq (.reg k63_27) .ret) .skip))) (.reg k63_28))))) (.seq (.seq (.reg k63_29) (.cond (.t 143) (.seq (.reg k63_30) .ret) .skip)) (.seq (.reg k63_31) .ret)))))))))
def F63 : AFn := ⟨2, 146, k63, [(.c 4 (some 2)), (.t 5)]⟩
theorem F63_ok : cfn Try.prog [26,27,28,29,32,34,36,37,38,39,41,42,50,51,52,53,54,55,56,57,58,59,60,61,62,63,64,65,66,67,68,69,70,71,72,73,74,75,76,77,78,79,80,83,84,85,86,87,88,89,99,100,101,102,103,104,105,108,110,112,113,114,115,116,117,118,119,120,121,122,123,124,125,126,128,129,131,132,133,134,135,136,137,138,139,140,143,144,146,147,148,149,150,151,152,153,156,157,158,159,160,161,162] Try.f63 = some F63 := by kernel_rfl
theorem f63_at : Try.prog.funcs[63]? = some Try.f63 := by kernel_rfl
theorem f63_fn : okFn Try.prog 63 = true := by kernel_rfl

def k69_0 : List AO := [o1 1 (.bx 2 (.t 0)), o1 2 (.al (rep 224 (b8 0)))]
def k69_1 : List AO := [o1 5 (.fa 0 1 (.t 1)), o1 6 (.ld none (.t 5))]
def k69_2 : List AO := [o1 8 (.fa 1 1 (.t 1)), o1 9 (.ld none (.t 8)), o1 10 (.bd [(c64 0), (.z 143)] []), o1 11 (.callp 60 [(.t 9), (.t 10)]), o1 7 (.mv (.t 11)), o1 12 (.ex 0 (.t 7)), o1 13 (.ex 1 (.t 7)), o1 3 (.al (rep 224 (b8 0))), o0 (.st 224 (.t 3) (.t 12)), o1 4 (.mv (.t 13))]
def k69_3 : List AO := [o1 14 (.ld (some 224) (.t 3)), o0 (.st 224 (.t 2) (.t 14))]
def k69_4 : List AO := [o1 15 (.fa 1 1 (.t 1)), o1 16 (.ld none (.t 15)), o1 17 (.bd ([(c64 0), (c32 0), (c16 0)] ++ rep 65 (b8 0)) []), o1 18 (.callp 55 [(.t 16), (.t 17)]), o0 (.st 224 (.t 2) (.t 18))]
def k69 : AC := (.seq (.reg k69_0) (.seq (.seq (.reg k69_1) (.cond (.t 6) (.seq (.reg k69_2) (.seq (.reg k69_3) .ret)) .skip)) (.seq (.reg k69_4) .ret)))
def F69 : AFn := ⟨1, 19, k69, [(.c 2 (some 224))]⟩
theorem F69_ok : cfn Try.prog [26,27,28,29,32,34,36,37,38,39,41,42,50,51,52,53,54,55,56,57,58,59,60,61,62,63,64,65,66,67,68,69,70,71,72,73,74,75,76,77,78,79,80,83,84,85,86,87,88,89,99,100,101,102,103,104,105,108,110,112,113,114,115,116,117,118,119,120,121,122,123,124,125,126,128,129,131,132,133,134,135,136,137,138,139,140,143,144,146,147,148,149,150,151,152,153,156,157,158,159,160,161,162] Try.f69 = some F69 := by kernel_rfl
theorem f69_at : Try.prog.funcs[69]? = some Try.f69 := by kernel_rfl
theorem f69_fn : okFn Try.prog 69 = true := by kernel_rfl

def k71_0 : List AO := [o1 2 (.bx 2 (.t 0)), o1 3 (.bx 224 (.t 1)), o1 4 (.mv (.k (.c (.p (.bool false)))))]
def k71_1 : List AO := [o1 9 (.fa 0 1 (.t 2)), o1 10 (.ld none (.t 9))]
def k71_2 : List AO := [o1 12 (.fa 1 1 (.t 2)), o1 13 (.ld none (.t 12)), o1 14 (.ld (some 224) (.t 3)), o1 15 (.callp 63 [(.t 13), (.t 14)]), o1 11 (.mv (.t 15)), o1 16 (.ex 0 (.t 11)), o1 17 (.ex 1 (.t 11)), o1 5 (.al [(c64 0), (.z 143)]), o0 (.st 2 (.t 5) (.t 16)), o1 6 (.mv (.t 17))]
def k71_3 : List AO := [o1 18 (.mv (.t 6)), o1 19 (.cmp .eq (.t 18) (.k (.c (.p (.int .i64 0))))), o1 4 (.mv (.t 19))]
def k71_4 : List AO := [o1 21 (.fa 1 1 (.t 2)), o1 22 (.ld none (.t 21)), o1 23 (.ld (some 224) (.t 3)), o1 24 (.callp 53 [(.t 22), (.t 23)]), o1 20 (.mv (.t 24)), o1 25 (.ex 0 (.t 20)), o1 26 (.ex 1 (.t 20)), o1 7 (.al ([(c64 0), (c32 0), (c16 0)] ++ rep 65 (b8 0))), o0 (.st 68 (.t 7) (.t 25)), o1 8 (.mv (.t 26))]
def k71_5 : List AO := [o1 27 (.mv (.t 8)), o1 28 (.cmp .eq (.t 27) (.k (.c (.p (.int .i64 0))))), o1 4 (.mv (.t 28))]
def k71 : AC := (.seq (.reg k71_0) (.seq (.seq (.reg k71_1) (.cond (.t 10) (.seq (.reg k71_2) (.seq (.reg k71_3) .ret)) .skip)) (.seq (.reg k71_4) (.seq (.reg k71_5) .ret))))
def F71 : AFn := ⟨2, 29, k71, [(.t 4)]⟩
theorem F71_ok : cfn Try.prog [26,27,28,29,32,34,36,37,38,39,41,42,50,51,52,53,54,55,56,57,58,59,60,61,62,63,64,65,66,67,68,69,70,71,72,73,74,75,76,77,78,79,80,83,84,85,86,87,88,89,99,100,101,102,103,104,105,108,110,112,113,114,115,116,117,118,119,120,121,122,123,124,125,126,128,129,131,132,133,134,135,136,137,138,139,140,143,144,146,147,148,149,150,151,152,153,156,157,158,159,160,161,162] Try.f71 = some F71 := by kernel_rfl
theorem f71_at : Try.prog.funcs[71]? = some Try.f71 := by kernel_rfl
theorem f71_fn : okFn Try.prog 71 = true := by kernel_rfl

end Go.Eng
/-
  The small machine's code of functions of the program, as a program of mine printed it; each is checked against the loaded function.
-/
set_option linter.unusedVariables false
namespace Go.Eng
open Go.Proofs

def k118_0 : List AO := [o1 8 (.al (rep 224 (b8 0)))]
def k118_1 : List AO := [o1 14 (.mv (.t 0)), o1 15 (.bs 1 1 5 [(b8 0)] [(0, (.t 14))]), o1 16 (.cvs (.t 15)), o1 17 (.mv (.t 1)), o1 18 (.cvi .u64 (.t 17)), o1 19 (.callp 119 [(.t 18), (.k (.c (.p (.int .i64 2))))]), o1 20 (.ari .add (.t 16) (.t 19)), o1 9 (.mv (.t 20))]
def k118_2 : List AO := [o1 21 (.mv (.t 2)), o1 22 (.callp 119 [(.t 21), (.k (.c (.p (.int .i64 8))))]), o1 23 (.mv (.t 3)), o1 24 (.ari .add (.t 22) (.t 23)), o1 10 (.mv (.t 24))]
def k118_3 : List AO := [o1 25 (.mv (.t 10)), o1 26 (.lns (.t 25)), o1 27 (.cmp .lt (.t 26) (.k (.c (.p (.int .i64 217)))))]
def k118_4 : List AO := [o1 28 (.mv (.t 10)), o1 29 (.ari .add (.t 28) (.k (.c (.p (.string (str [0])))))), o1 10 (.mv (.t 29))]
def k118_5 : List AO := [o1 30 (.mv (.t 9)), o1 31 (.mv (.t 9)), o1 32 (.ari .add (.t 31) (.k (.c (.p (.string (str [0, 0, 0, 0])))))), o1 33 (.mv (.t 10)), o1 34 (.ari .add (.t 32) (.t 33)), o1 35 (.callp 124 [(.t 34)]), o1 36 (.cvi .u64 (.t 35)), o1 37 (.callp 119 [(.t 36), (.k (.c (.p (.int .i64 4))))]), o1 38 (.ari .add (.t 30) (.t 37)), o1 39 (.mv (.t 10)), o1 40 (.ari .add (.t 38) (.t 39)), o1 11 (.mv (.t 40))]
def k118_6 : List AO := [o1 12 (.al (rep 224 (b8 0)))]
def k118_7 : List AO := [o1 13 (.mv (.k (.c (.p (.int .i64 0)))))]
def k118_8 : List AO := [o1 41 (.mv (.t 13)), o1 42 (.cmp .lt (.t 41) (.k (.c (.p (.int .i64 224)))))]
def k118_9 : List AO := [o1 45 (.mv (.t 13)), o1 46 (.mv (.t 11)), o1 47 (.mv (.t 13)), o1 48 (.ix (.t 46) (.t 47)), o1 49 (.ia 224 1 (.t 12) (.t 45)), o0 (.st 1 (.t 49) (.t 48))]
def k118_10 : List AO := [o1 43 (.mv (.t 13)), o1 44 (.ari .add (.t 43) (.k (.c (.p (.int .i64 1))))), o1 13 (.mv (.t 44))]
def k118_11 : List AO := [o1 50 (.ld (some 224) (.t 12)), o0 (.st 224 (.t 8) (.t 50))]
def k118 : AC := (.seq (.reg k118_0) (.seq (.reg k118_1) (.seq (.reg k118_2) (.seq (.block 0 (.loop (.seq (.seq (.reg k118_3) (.cond (.t 27) .skip (.exit 0))) (.block 1 (.reg k118_4))))) (.seq (.reg k118_5) (.seq (.reg k118_6) (.seq (.seq (.reg k118_7) (.block 2 (.loop (.seq (.seq (.reg k118_8) (.cond (.t 42) .skip (.exit 2))) (.seq (.block 3 (.reg k118_9)) (.reg k118_10)))))) (.seq (.reg k118_11) .ret))))))))
def F118 : AFn := ⟨4, 51, k118, [(.c 8 (some 224))]⟩
theorem F118_ok : cfn Try.prog [26,27,28,29,32,34,36,37,38,39,41,42,50,51,52,53,54,55,56,57,58,59,60,61,62,63,64,65,66,67,68,69,70,71,72,73,74,75,76,77,78,79,80,83,84,85,86,87,88,89,99,100,101,102,103,104,105,108,110,112,113,114,115,116,117,118,119,120,121,122,123,124,125,126,128,129,131,132,133,134,135,136,137,138,139,140,143,144,146,147,148,149,150,151,152,153,156,157,158,159,160,161,162] Try.f118 = some F118 := by kernel_rfl
theorem f118_at : Try.prog.funcs[118]? = some Try.f118 := by kernel_rfl
theorem f118_fn : okFn Try.prog 118 = true := by kernel_rfl

def k56_0 : List AO := [o1 3 (.bx 68 (.t 1)), o1 4 (.al (rep 224 (b8 0)))]
def k56_1 : List AO := [o1 5 (.mv (.t 0)), o1 6 (.fa 0 1 (.t 3)), o1 7 (.ld none (.t 6)), o1 8 (.fa 1 1 (.t 3)), o1 9 (.ld none (.t 8)), o1 10 (.cvi .u64 (.t 9)), o1 11 (.callp 119 [(.t 10), (.k (.c (.p (.int .i64 4))))]), o1 12 (.fa 2 2 (.t 3)), o1 13 (.fa 0 1 (.t 12)), o1 14 (.ld none (.t 13)), o1 15 (.cvi .u64 (.t 14)), o1 16 (.callp 119 [(.t 15), (.k (.c (.p (.int .i64 2))))]), o1 17 (.ari .add (.t 11) (.t 16)), o1 18 (.fa 2 2 (.t 3)), o1 19 (.fa 1 1 (.t 18)), o1 20 (.ld none (.t 19)), o1 21 (.bs 1 1 5 [(b8 0)] [(0, (.t 20))]), o1 22 (.cvs (.t 21)), o1 23 (.ari .add (.t 17) (.t 22)), o1 24 (.fa 4 64 (.t 3)), o1 25 (.sla 64 1 (.t 24) none none), o1 26 (.cvs (.t 25)), o1 27 (.ari .add (.t 23) (.t 26)), o1 28 (.callp 118 [(.k (.c (b8 1))), (.t 5), (.t 7), (.t 27)]), o0 (.st 224 (.t 4) (.t 28))]
def k56 : AC := (.seq (.reg k56_0) (.seq (.reg k56_1) .ret))
def F56 : AFn := ⟨2, 29, k56, [(.c 4 (some 224))]⟩
theorem F56_ok : cfn Try.prog [26,27,28,29,32,34,36,37,38,39,41,42,50,51,52,53,54,55,56,57,58,59,60,61,62,63,64,65,66,67,68,69,70,71,72,73,74,75,76,77,78,79,80,83,84,85,86,87,88,89,99,100,101,102,103,104,105,108,110,112,113,114,115,116,117,118,119,120,121,122,123,124,125,126,128,129,131,132,133,134,135,136,137,138,139,140,143,144,146,147,148,149,150,151,152,153,156,157,158,159,160,161,162] Try.f56 = some F56 := by kernel_rfl
theorem f56_at : Try.prog.funcs[56]? = some Try.f56 := by kernel_rfl
theorem f56_fn : okFn Try.prog 56 = true := by kernel_rfl

def k116_0 : List AO := [o1 3 (.bx 224 (.t 0)), o1 6 (.mv (.k (.c (c64 0))))]
def k116_1 : List AO := [o1 10 (.sla 224 1 (.t 3) none none), o1 11 (.cvs (.t 10)), o1 12 (.mv (.t 1)), o1 13 (.mv (.t 2)), o1 14 (.callp 131 [(.t 11), (.t 12), (.t 13)]), o1 9 (.mv (.t 14)), o1 15 (.ex 0 (.t 9)), o1 16 (.ex 1 (.t 9)), o1 7 (.mv (.t 15)), o1 8 (.mv (.t 16))]
def k116_2 : List AO := [o1 17 (.mv (.t 7)), o1 6 (.mv (.t 17))]
def k116 : AC := (.seq (.reg k116_0) (.seq (.reg k116_1) (.seq (.reg k116_2) .ret)))
def F116 : AFn := ⟨3, 18, k116, [(.t 6)]⟩
theorem F116_ok : cfn Try.prog [26,27,28,29,32,34,36,37,38,39,41,42,50,51,52,53,54,55,56,57,58,59,60,61,62,63,64,65,66,67,68,69,70,71,72,73,74,75,76,77,78,79,80,83,84,85,86,87,88,89,99,100,101,102,103,104,105,108,110,112,113,114,115,116,117,118,119,120,121,122,123,124,125,126,128,129,131,132,133,134,135,136,137,138,139,140,143,144,146,147,148,149,150,151,152,153,156,157,158,159,160,161,162] Try.f116 = some F116 := by kernel_rfl
theorem f116_at : Try.prog.funcs[116]? = some Try.f116 := by kernel_rfl
theorem f116_fn : okFn Try.prog 116 = true := by kernel_rfl

def k58_0 : List AO := [o1 1 (.bx 224 (.t 0)), o1 2 (.mv (.k (.c (c64 0))))]
def k58_1 : List AO := [o1 3 (.ld (some 224) (.t 1)), o1 4 (.callp 116 [(.t 3), (.k (.c (.p (.int .i64 7)))), (.k (.c (.p (.int .i64 8))))]), o1 2 (.mv (.t 4))]
def k58 : AC := (.seq (.reg k58_0) (.seq (.reg k58_1) .ret))
def F58 : AFn := ⟨1, 5, k58, [(.t 2)]⟩
theorem F58_ok : cfn Try.prog [26,27,28,29,32,34,36,37,38,39,41,42,50,51,52,53,54,55,56,57,58,59,60,61,62,63,64,65,66,67,68,69,70,71,72,73,74,75,76,77,78,79,80,83,84,85,86,87,88,89,99,100,101,102,103,104,105,108,110,112,113,114,115,116,117,118,119,120,121,122,123,124,125,126,128,129,131,132,133,134,135,136,137,138,139,140,143,144,146,147,148,149,150,151,152,153,156,157,158,159,160,161,162] Try.f58 = some F58 := by kernel_rfl
theorem f58_at : Try.prog.funcs[58]? = some Try.f58 := by kernel_rfl
theorem f58_fn : okFn Try.prog 58 = true := by kernel_rfl

def k54_0 : List AO := [o1 3 (.bx 224 (.t 1)), o1 4 (.al ([(c64 0), (c32 0), (c16 0)] ++ rep 65 (b8 0))), o1 5 (.mv (.k (.c (.p (.bool false)))))]
def k54_1 : List AO := [o1 8 (.ld (some 224) (.t 3)), o1 9 (.callp 58 [(.t 8)]), o1 10 (.ld (some 224) (.t 3)), o1 11 (.callp 116 [(.t 10), (.k (.c (.p (.int .i64 15)))), (.k (.c (.p (.int .i64 4))))]), o1 12 (.cvi .u32 (.t 11)), o1 13 (.ld (some 224) (.t 3)), o1 14 (.callp 116 [(.t 13), (.k (.c (.p (.int .i64 19)))), (.k (.c (.p (.int .i64 2))))]), o1 15 (.cvi .u16 (.t 14)), o1 16 (.ia 224 1 (.t 3) (.k (.c (.p (.int .i64 21))))), o1 17 (.ld none (.t 16)), o1 18 (.bd [(c16 0), (b8 0)] [(0, (1, (.t 15))), (1, (1, (.t 17)))]), o1 19 (.bd ([(c64 0), (c32 0), (c16 0)] ++ rep 65 (b8 0)) [(0, (1, (.t 9))), (1, (1, (.t 12))), (2, (2, (.t 18)))]), o1 6 (.al ([(c64 0), (c32 0), (c16 0)] ++ rep 65 (b8 0))), o0 (.st 68 (.t 6) (.t 19))]
def k54_2 : List AO := [o1 7 (.mv (.k (.c (.p (.int .i64 0)))))]
def k54_3 : List AO := [o1 20 (.mv (.t 7)), o1 21 (.cmp .lt (.t 20) (.k (.c (.p (.int .i64 64)))))]
def k54_4 : List AO := [o1 24 (.mv (.t 7)), o1 25 (.mv (.t 7)), o1 26 (.ari .add (.k (.c (.p (.int .i64 22)))) (.t 25)), o1 27 (.ia 224 1 (.t 3) (.t 26)), o1 28 (.ld none (.t 27)), o1 29 (.fa 4 64 (.t 6)), o1 30 (.ia 64 1 (.t 29) (.t 24)), o0 (.st 1 (.t 30) (.t 28))]
def k54_5 : List AO := [o1 22 (.mv (.t 7)), o1 23 (.ari .add (.t 22) (.k (.c (.p (.int .i64 1))))), o1 7 (.mv (.t 23))]
def k54_6 : List AO := [o1 31 (.mv (.t 0)), o1 32 (.ld (some 68) (.t 6)), o1 33 (.callp 56 [(.t 31), (.t 32)]), o1 34 (.ld (some 224) (.t 3)), o1 35 (.eqg true [(224, (.i .u8))] (.t 33) (.t 34))]
def k54_7 : List AO := [o1 36 (.bd ([(c64 0), (c32 0), (c16 0)] ++ rep 65 (b8 0)) []), o0 (.st 68 (.t 4) (.t 36)), o1 5 (.mv (.k (.c (.p (.bool false)))))]
def k54_8 : List AO := [o1 37 (.ld (some 68) (.t 6)), o0 (.st 68 (.t 4) (.t 37)), o1 5 (.mv (.k (.c (.p (.bool true)))))]
def k54 : AC := (.seq (.reg k54_0) (.seq (.reg k54_1) (.seq (.seq (.reg k54_2) (.block 0 (.loop (.seq (.seq (.reg k54_3) (.cond (.t 21) .skip (.exit 0))) (.seq (.block 1 (.reg k54_4)) (.reg k54_5)))))) (.seq (.seq (.reg k54_6) (.cond (.t 35) (.seq (.reg k54_7) .ret) .skip)) (.seq (.reg k54_8) .ret)))))
def F54 : AFn := ⟨2, 38, k54, [(.c 4 (some 68)), (.t 5)]⟩
theorem F54_ok : cfn Try.prog [26,27,28,29,32,34,36,37,38,39,41,42,50,51,52,53,54,55,56,57,58,59,60,61,62,63,64,65,66,67,68,69,70,71,72,73,74,75,76,77,78,79,80,83,84,85,86,87,88,89,99,100,101,102,103,104,105,108,110,112,113,114,115,116,117,118,119,120,121,122,123,124,125,126,128,129,131,132,133,134,135,136,137,138,139,140,143,144,146,147,148,149,150,151,152,153,156,157,158,159,160,161,162] Try.f54 = some F54 := by kernel_rfl
theorem f54_at : Try.prog.funcs[54]? = some Try.f54 := by kernel_rfl
theorem f54_fn : okFn Try.prog 54 = true := by kernel_rfl

def k121_0 : List AO := [o1 1 (.bx 2 (.t 0)), o1 2 (.mv (.k (.c (.p (.string (str []))))))]
def k121_1 : List AO := [o1 6 (.fa 1 1 (.t 1)), o1 7 (.ld none (.t 6)), o1 8 (.ln (.t 7)), o1 9 (.cvi .u8 (.t 8)), o1 10 (.bs 1 1 5 [(b8 0)] [(0, (.t 9))]), o1 11 (.cvs (.t 10)), o1 3 (.mv (.t 11))]
def k121_2 : List AO := [o1 12 (.fa 1 1 (.t 1)), o1 13 (.ld none (.t 12)), o1 14 (.ln (.t 13)), o1 15 (.mv (.k (.c (.p (.int .i64 0)))))]
def k121_3 : List AO := [o1 16 (.cmp .lt (.t 15) (.t 14))]
def k121_4 : List AO := [o1 17 (.is 6 (.t 13) (.t 15)), o1 18 (.ld (some 6) (.t 17)), o1 5 (.al [(.p (.bool false)), (c16 0), (c32 0), (c16 0), (b8 0), (.p (.string (str [])))]), o0 (.st 6 (.t 5) (.t 18))]
def k121_5 : List AO := [o1 19 (.fa 0 1 (.t 5)), o1 20 (.ld none (.t 19))]
def k121_6 : List AO := [o1 21 (.mv (.t 3)), o1 22 (.fa 1 1 (.t 5)), o1 23 (.ld none (.t 22)), o1 24 (.cvi .u64 (.t 23)), o1 25 (.callp 119 [(.t 24), (.k (.c (.p (.int .i64 2))))]), o1 26 (.ari .add (.k (.c (.p (.string (str [1]))))) (.t 25)), o1 27 (.fa 2 1 (.t 5)), o1 28 (.ld none (.t 27)), o1 29 (.cvi .u64 (.t 28)), o1 30 (.callp 119 [(.t 29), (.k (.c (.p (.int .i64 4))))]), o1 31 (.ari .add (.t 26) (.t 30)), o1 32 (.fa 3 2 (.t 5)), o1 33 (.fa 0 1 (.t 32)), o1 34 (.ld none (.t 33)), o1 35 (.cvi .u64 (.t 34)), o1 36 (.callp 119 [(.t 35), (.k (.c (.p (.int .i64 2))))]), o1 37 (.ari .add (.t 31) (.t 36)), o1 38 (.fa 3 2 (.t 5)), o1 39 (.fa 1 1 (.t 38)), o1 40 (.ld none (.t 39)), o1 41 (.fa 5 1 (.t 5)), o1 42 (.ld none (.t 41)), o1 43 (.lns (.t 42)), o1 44 (.cvi .u8 (.t 43)), o1 45 (.bs 1 2 5 [(b8 0)] [(0, (.t 40)), (1, (.t 44))]), o1 46 (.cvs (.t 45)), o1 47 (.ari .add (.t 37) (.t 46)), o1 48 (.fa 5 1 (.t 5)), o1 49 (.ld none (.t 48)), o1 50 (.ari .add (.t 47) (.t 49)), o1 51 (.ari .add (.t 21) (.t 50)), o1 3 (.mv (.t 51))]
def k121_7 : List AO := [o1 52 (.mv (.t 3)), o1 53 (.ari .add (.t 52) (.k (.c (.p (.string (str [0])))))), o1 3 (.mv (.t 53))]
def k121_8 : List AO := [o1 54 (.ari .add (.t 15) (.k (.c (.p (.int .i64 1))))), o1 15 (.mv (.t 54))]
def k121_9 : List AO := [o1 55 (.mv (.t 3)), o1 2 (.mv (.t 55))]
def k121 : AC := (.seq (.reg k121_0) (.seq (.reg k121_1) (.seq (.seq (.reg k121_2) (.block 0 (.loop (.seq (.reg k121_3) (.seq (.cond (.t 16) .skip (.exit 0)) (.seq (.block 1 (.seq (.reg k121_4) (.seq (.reg k121_5) (.cond (.t 20) (.reg k121_6) (.reg k121_7))))) (.reg k121_8))))))) (.seq (.reg k121_9) .ret))))
def F121 : AFn := ⟨1, 56, k121, [(.t 2)]⟩
theorem F121_ok : cfn Try.prog [26,27,28,29,32,34,36,37,38,39,41,42,50,51,52,53,54,55,56,57,58,59,60,61,62,63,64,65,66,67,68,69,70,71,72,73,74,75,76,77,78,79,80,83,84,85,86,87,88,89,99,100,101,102,103,104,105,108,110,112,113,114,115,116,117,118,119,120,121,122,123,124,125,126,128,129,131,132,133,134,135,136,137,138,139,140,143,144,146,147,148,149,150,151,152,153,156,157,158,159,160,161,162] Try.f121 = some F121 := by kernel_rfl
theorem f121_at : Try.prog.funcs[121]? = some Try.f121 := by kernel_rfl
theorem f121_fn : okFn Try.prog 121 = true := by kernel_rfl

def k67_0 : List AO := [o1 1 (.bx 2 (.t 0)), o1 2 (.mv (.k (.c (.p (.int .i64 0)))))]
def k67_1 : List AO := [o1 3 (.ld (some 2) (.t 1)), o1 4 (.callp 121 [(.t 3)]), o1 5 (.lns (.t 4)), o1 6 (.ari .add (.k (.c (.p (.int .i64 15)))) (.t 5)), o1 2 (.mv (.t 6))]
def k67 : AC := (.seq (.reg k67_0) (.seq (.reg k67_1) .ret))
def F67 : AFn := ⟨1, 7, k67, [(.t 2)]⟩
theorem F67_ok : cfn Try.prog [26,27,28,29,32,34,36,37,38,39,41,42,50,51,52,53,54,55,56,57,58,59,60,61,62,63,64,65,66,67,68,69,70,71,72,73,74,75,76,77,78,79,80,83,84,85,86,87,88,89,99,100,101,102,103,104,105,108,110,112,113,114,115,116,117,118,119,120,121,122,123,124,125,126,128,129,131,132,133,134,135,136,137,138,139,140,143,144,146,147,148,149,150,151,152,153,156,157,158,159,160,161,162] Try.f67 = some F67 := by kernel_rfl
theorem f67_at : Try.prog.funcs[67]? = some Try.f67 := by kernel_rfl
theorem f67_fn : okFn Try.prog 67 = true := by kernel_rfl

def k120_0 : List AO := [o1 1 (.bx 2 (.t 0)), o1 2 (.mv (.k (.c (.p (.bool false)))))]
def k120_1 : List AO := [o1 6 (.fa 1 1 (.t 1)), o1 7 (.ld none (.t 6)), o1 8 (.ln (.t 7)), o1 3 (.mv (.t 8))]
def k120_2 : List AO := [o1 9 (.mv (.t 3)), o1 10 (.cmp .gt (.t 9) (.k (.c (.p (.int .i64 15)))))]
def k120_3 : List AO := [o1 2 (.mv (.k (.c (.p (.bool false)))))]
def k120_4 : List AO := [o1 4 (.mv (.k (.c (.p (.int .i64 0)))))]
def k120_5 : List AO := [o1 11 (.mv (.t 4)), o1 12 (.mv (.t 3)), o1 13 (.cmp .lt (.t 11) (.t 12))]
def k120_6 : List AO := [o1 16 (.fa 1 1 (.t 1)), o1 17 (.ld none (.t 16)), o1 18 (.mv (.t 4)), o1 19 (.is 6 (.t 17) (.t 18)), o1 20 (.ld (some 6) (.t 19)), o1 5 (.al [(.p (.bool false)), (c16 0), (c32 0), (c16 0), (b8 0), (.p (.string (str [])))]), o0 (.st 6 (.t 5) (.t 20))]
def k120_7 : List AO := [o1 21 (.fa 0 1 (.t 5)), o1 22 (.ld none (.t 21)), o1 23 (.not (.t 22)), o1 24 (.mv (.t 23)), og 25 24 true (.mv (.t 4)), og 26 24 true (.mv (.t 3)), og 27 24 true (.ari .sub (.t 26) (.k (.c (.p (.int .i64 1))))), og 28 24 true (.cmp .eq (.t 25) (.t 27)), og 29 24 true (.mv (.t 28)), og 30 29 false (.ld (some 6) (.t 5)), og 31 29 false (.bd [(.p (.bool false)), (c16 0), (c32 0), (c16 0), (b8 0), (.p (.string (str [])))] []), og 32 29 false (.eqg true [(1, .b), (1, (.i .u16)), (1, (.i .u32)), (1, (.i .u16)), (1, (.i .u8)), (1, .s)] (.t 30) (.t 31)), og 33 24 true (.pk (.t 29) (.k (.c (.p (.bool true)))) (.t 32)), o1 34 (.pk (.t 24) (.t 33) (.k (.c (.p (.bool false))))), o1 35 (.mv (.t 34)), og 36 35 false (.fa 5 1 (.t 5)), og 37 35 false (.ld none (.t 36)), og 38 35 false (.lns (.t 37)), og 39 35 false (.cmp .gt (.t 38) (.k (.c (.p (.int .i64 66))))), o1 40 (.pk (.t 35) (.k (.c (.p (.bool true)))) (.t 39))]
def k120_8 : List AO := [o1 2 (.mv (.k (.c (.p (.bool false)))))]
def k120_9 : List AO := [o1 14 (.mv (.t 4)), o1 15 (.ari .add (.t 14) (.k (.c (.p (.int .i64 1))))), o1 4 (.mv (.t 15))]
def k120_10 : List AO := [o1 41 (.ld (some 2) (.t 1)), o1 42 (.callp 67 [(.t 41)]), o1 43 (.cmp .le (.t 42) (.k (.c (.p (.int .i64 224))))), o1 2 (.mv (.t 43))]
def k120 : AC := (.seq (.reg k120_0) (.seq (.reg k120_1) (.seq (.seq (.reg k120_2) (.cond (.t 10) (.seq (.reg k120_3) .ret) .skip)) (.seq (.seq (.reg k120_4) (.block 0 (.loop (.seq (.seq (.reg k120_5) (.cond (.t 13) .skip (.exit 0))) (.seq (.block 1 (.seq (.reg k120_6) (.seq (.reg k120_7) (.cond (.t 40) (.seq (.reg k120_8) .ret) .skip)))) (.reg k120_9)))))) (.seq (.reg k120_10) .ret)))))
def F120 : AFn := ⟨1, 44, k120, [(.t 2)]⟩
theorem F120_ok : cfn Try.prog [26,27,28,29,32,34,36,37,38,39,41,42,50,51,52,53,54,55,56,57,58,59,60,61,62,63,64,65,66,67,68,69,70,71,72,73,74,75,76,77,78,79,80,83,84,85,86,87,88,89,99,100,101,102,103,104,105,108,110,112,113,114,115,116,117,118,119,120,121,122,123,124,125,126,128,129,131,132,133,134,135,136,137,138,139,140,143,144,146,147,148,149,150,151,152,153,156,157,158,159,160,161,162] Try.f120 = some F120 := by kernel_rfl
theorem f120_at : Try.prog.funcs[120]? = some Try.f120 := by kernel_rfl
theorem f120_fn : okFn Try.prog 120 = true := by kernel_rfl

def k62_0 : List AO := [o1 3 (.bx 2 (.t 1)), o1 4 (.al (rep 224 (b8 0))), o1 5 (.mv (.k (.c (.p (.bool false)))))]
def k62_1 : List AO := [o1 6 (.ld (some 2) (.t 3)), o1 7 (.callp 120 [(.t 6)]), o1 8 (.not (.t 7))]
def k62_2 : List AO := [o1 9 (.bd (rep 224 (b8 0)) []), o0 (.st 224 (.t 4) (.t 9)), o1 5 (.mv (.k (.c (.p (.bool false)))))]
def k62_3 : List AO := [o1 10 (.mv (.t 0)), o1 11 (.fa 0 1 (.t 3)), o1 12 (.ld none (.t 11)), o1 13 (.ld (some 2) (.t 3)), o1 14 (.callp 121 [(.t 13)]), o1 15 (.callp 118 [(.k (.c (b8 2))), (.t 10), (.t 12), (.t 14)]), o0 (.st 224 (.t 4) (.t 15)), o1 5 (.mv (.k (.c (.p (.bool true)))))]
def k62 : AC := (.seq (.reg k62_0) (.seq (.seq (.reg k62_1) (.cond (.t 8) (.seq (.reg k62_2) .ret) .skip)) (.seq (.reg k62_3) .ret)))
def F62 : AFn := ⟨2, 16, k62, [(.c 4 (some 224)), (.t 5)]⟩
theorem F62_ok : cfn Try.prog [26,27,28,29,32,34,36,37,38,39,41,42,50,51,52,53,54,55,56,57,58,59,60,61,62,63,64,65,66,67,68,69,70,71,72,73,74,75,76,77,78,79,80,83,84,85,86,87,88,89,99,100,101,102,103,104,105,108,110,112,113,114,115,116,117,118,119,120,121,122,123,124,125,126,128,129,131,132,133,134,135,136,137,138,139,140,143,144,146,147,148,149,150,151,152,153,156,157,158,159,160,161,162] Try.f62 = some F62 := by kernel_rfl
theorem f62_at : Try.prog.funcs[62]? = some Try.f62 := by kernel_rfl
theorem f62_fn : okFn Try.prog 62 = true := by kernel_rfl

def k64_0 : List AO := [o1 3 (.bx 224 (.t 1)), o1 4 (.al [(c64 0), (.z 143)]), o1 5 (.mv (.k (.c (.p (.bool false)))))]
def k64_1 : List AO := [o1 13 (.ld (some 224) (.t 3)), o1 14 (.callp 58 [(.t 13)]), o1 15 (.bd [(c64 0), (.z 143)] [(0, (1, (.t 14)))]), o1 6 (.al [(c64 0), (.z 143)]), o0 (.st 2 (.t 6) (.t 15))]
def k64_2 : List AO := [o1 7 (.mv (.k (.c (.p (.int .i64 16)))))]
def k64_3 : List AO := [o1 8 (.mv (.k (.c (.p (.int .i64 0)))))]
def k64_4 : List AO := [o1 16 (.mv (.t 8)), o1 17 (.ia 224 1 (.t 3) (.k (.c (.p (.int .i64 15))))), o1 18 (.ld none (.t 17)), o1 19 (.cvi .i64 (.t 18)), o1 20 (.cmp .lt (.t 16) (.t 19)), o1 21 (.mv (.t 20)), og 22 21 true (.mv (.t 7)), og 23 21 true (.cmp .lt (.t 22) (.k (.c (.p (.int .i64 224))))), o1 24 (.pk (.t 21) (.t 23) (.k (.c (.p (.bool false)))))]
def k64_5 : List AO := [o1 27 (.bd [(.p (.bool false)), (c16 0), (c32 0), (c16 0), (b8 0), (.p (.string (str [])))] []), o1 9 (.al [(.p (.bool false)), (c16 0), (c32 0), (c16 0), (b8 0), (.p (.string (str [])))]), o0 (.st 6 (.t 9) (.t 27))]
def k64_6 : List AO := [o1 28 (.mv (.t 7)), o1 29 (.ia 224 1 (.t 3) (.t 28)), o1 30 (.ld none (.t 29)), o1 31 (.cmp .eq (.t 30) (.k (.c (b8 1)))), o1 32 (.mv (.t 31)), og 33 32 true (.mv (.t 7)), og 34 32 true (.cmp .le (.t 33) (.k (.c (.p (.int .i64 213))))), o1 35 (.pk (.t 32) (.t 34) (.k (.c (.p (.bool false)))))]
def k64_7 : List AO := [o1 36 (.mv (.t 7)), o1 37 (.ari .add (.t 36) (.k (.c (.p (.int .i64 10))))), o1 38 (.ia 224 1 (.t 3) (.t 37)), o1 39 (.ld none (.t 38)), o1 40 (.cvi .i64 (.t 39)), o1 10 (.mv (.t 40))]
def k64_8 : List AO := [o1 41 (.ld (some 224) (.t 3)), o1 42 (.mv (.t 7)), o1 43 (.ari .add (.t 42) (.k (.c (.p (.int .i64 1))))), o1 44 (.callp 116 [(.t 41), (.t 43), (.k (.c (.p (.int .i64 2))))]), o1 45 (.cvi .u16 (.t 44)), o1 46 (.ld (some 224) (.t 3)), o1 47 (.mv (.t 7)), o1 48 (.ari .add (.t 47) (.k (.c (.p (.int .i64 3))))), o1 49 (.callp 116 [(.t 46), (.t 48), (.k (.c (.p (.int .i64 4))))]), o1 50 (.cvi .u32 (.t 49)), o1 51 (.ld (some 224) (.t 3)), o1 52 (.mv (.t 7)), o1 53 (.ari .add (.t 52) (.k (.c (.p (.int .i64 7))))), o1 54 (.callp 116 [(.t 51), (.t 53), (.k (.c (.p (.int .i64 2))))]), o1 55 (.cvi .u16 (.t 54)), o1 56 (.mv (.t 7)), o1 57 (.ari .add (.t 56) (.k (.c (.p (.int .i64 9))))), o1 58 (.ia 224 1 (.t 3) (.t 57)), o1 59 (.ld none (.t 58)), o1 60 (.bd [(c16 0), (b8 0)] [(0, (1, (.t 55))), (1, (1, (.t 59)))]), o1 61 (.bd [(.p (.bool false)), (c16 0), (c32 0), (c16 0), (b8 0), (.p (.string (str [])))] [(0, (1, (.k (.c (.p (.bool true)))))), (1, (1, (.t 45))), (2, (1, (.t 50))), (3, (2, (.t 60)))]), o0 (.st 6 (.t 9) (.t 61))]
def k64_9 : List AO := [o1 62 (.mv (.t 10)), o1 63 (.mv (.t 7)), o1 64 (.ari .sub (.k (.c (.p (.int .i64 224)))) (.t 63)), o1 65 (.ari .sub (.t 64) (.k (.c (.p (.int .i64 11))))), o1 66 (.cmp .gt (.t 62) (.t 65))]
def k64_10 : List AO := [o1 67 (.bd [(c64 0), (.z 143)] []), o0 (.st 2 (.t 4) (.t 67)), o1 5 (.mv (.k (.c (.p (.bool false)))))]
def k64_11 : List AO := [o1 68 (.mv (.t 7)), o1 69 (.ari .add (.t 68) (.k (.c (.p (.int .i64 11))))), o1 70 (.mv (.t 7)), o1 71 (.ari .add (.t 70) (.k (.c (.p (.int .i64 11))))), o1 72 (.mv (.t 10)), o1 73 (.ari .add (.t 71) (.t 72)), o1 74 (.sla 224 1 (.t 3) (some (.t 69)) (some (.t 73))), o1 75 (.cvs (.t 74)), o1 76 (.fa 5 1 (.t 9)), o0 (.st 1 (.t 76) (.t 75))]
def k64_12 : List AO := [o1 77 (.mv (.t 7)), o1 78 (.mv (.t 10)), o1 79 (.ari .add (.k (.c (.p (.int .i64 10)))) (.t 78)), o1 80 (.ari .add (.t 77) (.t 79)), o1 7 (.mv (.t 80))]
def k64_13 : List AO := [o1 81 (.mv (.t 7)), o1 82 (.ari .add (.t 81) (.k (.c (.p (.int .i64 1))))), o1 7 (.mv (.t 82))]
def k64_14 : List AO := [o1 83 (.fa 1 1 (.t 6)), o1 84 (.ld none (.t 83)), o1 85 (.ld (some 6) (.t 9)), o1 86 (.bs 6 1 143 [(.p (.bool false)), (c16 0), (c32 0), (c16 0), (b8 0), (.p (.string (str [])))] [(0, (.t 85))]), o1 87 (.ap 6 32 143 (.t 84) (.t 86)), o1 88 (.fa 1 1 (.t 6)), o0 (.st 1 (.t 88) (.t 87))]
def k64_15 : List AO := [o1 25 (.mv (.t 8)), o1 26 (.ari .add (.t 25) (.k (.c (.p (.int .i64 1))))), o1 8 (.mv (.t 26))]
def k64_16 : List AO := [o1 90 (.mv (.t 0)), o1 91 (.ld (some 2) (.t 6)), o1 92 (.callp 62 [(.t 90), (.t 91)]), o1 89 (.mv (.t 92)), o1 93 (.ex 0 (.t 89)), o1 94 (.ex 1 (.t 89)), o1 11 (.al (rep 224 (b8 0))), o0 (.st 224 (.t 11) (.t 93)), o1 12 (.mv (.t 94))]
def k64_17 : List AO := [o1 95 (.mv (.t 12)), o1 96 (.not (.t 95)), o1 97 (.mv (.t 96)), og 98 97 false (.ld (some 224) (.t 11)), og 99 97 false (.ld (some 224) (.t 3)), og 100 97 false (.eqg true [(224, (.i .u8))] (.t 98) (.t 99)), o1 101 (.pk (.t 97) (.k (.c (.p (.bool true)))) (.t 100))]
def k64_18 : List AO := [o1 102 (.bd [(c64 0), (.z 143)] []), o0 (.st 2 (.t 4) (.t 102)), o1 5 (.mv (.k (.c (.p (.bool false)))))]
def k64_19 : List AO := [o1 103 (.ld (some 2) (.t 6)), o0 (.st 2 (.t 4) (.t 103)), o1 5 (.mv (.k (.c (.p (.bool true)))))]
def k64 : AC := (.seq (.reg k64_0) (.seq (.reg k64_1) (.seq (.reg k64_2) (.seq (.seq (.reg k64_3) (.block 0 (.loop (.seq (.seq (.reg k64_4) (.cond (.t 24) .skip (.exit 0))) (.seq (.block 1 (.seq (.reg k64_5) (.seq (.seq (.reg k64_6) (.cond (.t 35) (.seq (.reg k64_7) (.seq (.reg k64_8) (.seq (.seq (.reg k64_9) (.cond (.t 66) (.seq (.reg k64_10) .ret) .skip)) (.seq (.reg k64_11) (.reg k64_12))))) .skip)) (.seq (.reg k64_13) (.reg k64_14))))) (.reg k64_15)))))) (.seq (.reg k64_16) (.seq (.seq (.reg k64_17) (.cond (.t 101) (.seq (.reg k64_18) .ret) .skip)) (.seq (.reg k64_19) .ret)))))))
def F64 : AFn := ⟨2, 104, k64, [(.c 4 (some 2)), (.t 5)]⟩
theorem F64_ok : cfn Try.prog [26,27,28,29,32,34,36,37,38,39,41,42,50,51,52,53,54,55,56,57,58,59,60,61,62,63,64,65,66,67,68,69,70,71,72,73,74,75,76,77,78,79,80,83,84,85,86,87,88,89,99,100,101,102,103,104,105,108,110,112,113,114,115,116,117,118,119,120,121,122,123,124,125,126,128,129,131,132,133,134,135,136,137,138,139,140,143,144,146,147,148,149,150,151,152,153,156,157,158,159,160,161,162] Try.f64 = some F64 := by kernel_rfl
theorem f64_at : Try.prog.funcs[64]? = some Try.f64 := by kernel_rfl
theorem f64_fn : okFn Try.prog 64 = true := by kernel_rfl

def k68_0 : List AO := [o1 2 (.bx 2 (.t 0)), o1 3 (.bx 2 (.t 1)), o1 4 (.mv (.k (.c (.p (.bool false)))))]
def k68_1 : List AO := [o1 6 (.fa 0 1 (.t 2)), o1 7 (.ld none (.t 6)), o1 8 (.fa 0 1 (.t 3)), o1 9 (.ld none (.t 8)), o1 10 (.cmp .ne (.t 7) (.t 9)), o1 11 (.mv (.t 10)), og 12 11 false (.fa 1 1 (.t 2)), og 13 11 false (.ld none (.t 12)), og 14 11 false (.ln (.t 13)), og 15 11 false (.fa 1 1 (.t 3)), og 16 11 false (.ld none (.t 15)), og 17 11 false (.ln (.t 16)), og 18 11 false (.cmp .ne (.t 14) (.t 17)), o1 19 (.pk (.t 11) (.k (.c (.p (.bool true)))) (.t 18))]
def k68_2 : List AO := [o1 4 (.mv (.k (.c (.p (.bool false)))))]
def k68_3 : List AO := [o1 20 (.fa 1 1 (.t 2)), o1 21 (.ld none (.t 20)), o1 22 (.ln (.t 21)), o1 23 (.mv (.k (.c (.p (.int .i64 0)))))]
def k68_4 : List AO := [o1 24 (.cmp .lt (.t 23) (.t 22))]
def k68_5 : List AO := [o1 25 (.mv (.t 23)), o1 5 (.mv (.t 25))]
def k68_6 : List AO := [o1 26 (.fa 1 1 (.t 2)), o1 27 (.ld none (.t 26)), o1 28 (.mv (.t 5)), o1 29 (.is 6 (.t 27) (.t 28)), o1 30 (.ld (some 6) (.t 29)), o1 31 (.fa 1 1 (.t 3)), o1 32 (.ld none (.t 31)), o1 33 (.mv (.t 5)), o1 34 (.is 6 (.t 32) (.t 33)), o1 35 (.ld (some 6) (.t 34)), o1 36 (.eqg true [(1, .b), (1, (.i .u16)), (1, (.i .u32)), (1, (.i .u16)), (1, (.i .u8)), (1, .s)] (.t 30) (.t 35))]
def k68_7 : List AO := [o1 4 (.mv (.k (.c (.p (.bool false)))))]
def k68_8 : List AO := [o1 37 (.ari .add (.t 23) (.k (.c (.p (.int .i64 1))))), o1 23 (.mv (.t 37))]
def k68_9 : List AO := [o1 4 (.mv (.k (.c (.p (.bool true)))))]
def k68 : AC := (.seq (.reg k68_0) (.seq (.seq (.reg k68_1) (.cond (.t 19) (.seq (.reg k68_2) .ret) .skip)) (.seq (.seq (.reg k68_3) (.block 0 (.loop (.seq (.reg k68_4) (.seq (.cond (.t 24) .skip (.exit 0)) (.seq (.block 1 (.seq (.reg k68_5) (.seq (.reg k68_6) (.cond (.t 36) (.seq (.reg k68_7) .ret) .skip)))) (.reg k68_8))))))) (.seq (.reg k68_9) .ret))))
def F68 : AFn := ⟨2, 38, k68, [(.t 4)]⟩
theorem F68_ok : cfn Try.prog [26,27,28,29,32,34,36,37,38,39,41,42,50,51,52,53,54,55,56,57,58,59,60,61,62,63,64,65,66,67,68,69,70,71,72,73,74,75,76,77,78,79,80,83,84,85,86,87,88,89,99,100,101,102,103,104,105,108,110,112,113,114,115,116,117,118,119,120,121,122,123,124,125,126,128,129,131,132,133,134,135,136,137,138,139,140,143,144,146,147,148,149,150,151,152,153,156,157,158,159,160,161,162] Try.f68 = some F68 := by kernel_rfl
theorem f68_at : Try.prog.funcs[68]? = some Try.f68 := by kernel_rfl
theorem f68_fn : okFn Try.prog 68 = true := by kernel_rfl

def k70_0 : List AO := [o1 1 (.bx 2 (.t 0)), o1 2 (.al (rep 224 (b8 0)))]
def k70_1 : List AO := [o1 5 (.fa 0 1 (.t 1)), o1 6 (.ld none (.t 5))]
def k70_2 : List AO := [o1 8 (.fa 1 1 (.t 1)), o1 9 (.ld none (.t 8)), o1 10 (.bd [(c64 0), (.z 143)] []), o1 11 (.callp 62 [(.t 9), (.t 10)]), o1 7 (.mv (.t 11)), o1 12 (.ex 0 (.t 7)), o1 13 (.ex 1 (.t 7)), o1 3 (.al (rep 224 (b8 0))), o0 (.st 224 (.t 3) (.t 12)), o1 4 (.mv (.t 13))]
def k70_3 : List AO := [o1 14 (.ld (some 224) (.t 3)), o0 (.st 224 (.t 2) (.t 14))]
def k70_4 : List AO := [o1 15 (.fa 1 1 (.t 1)), o1 16 (.ld none (.t 15)), o1 17 (.bd ([(c64 0), (c32 0), (c16 0)] ++ rep 65 (b8 0)) []), o1 18 (.callp 56 [(.t 16), (.t 17)]), o0 (.st 224 (.t 2) (.t 18))]
def k70 : AC := (.seq (.reg k70_0) (.seq (.seq (.reg k70_1) (.cond (.t 6) (.seq (.reg k70_2) (.seq (.reg k70_3) .ret)) .skip)) (.seq (.reg k70_4) .ret)))
def F70 : AFn := ⟨1, 19, k70, [(.c 2 (some 224))]⟩
theorem F70_ok : cfn Try.prog [26,27,28,29,32,34,36,37,38,39,41,42,50,51,52,53,54,55,56,57,58,59,60,61,62,63,64,65,66,67,68,69,70,71,72,73,74,75,76,77,78,79,80,83,84,85,86,87,88,89,99,100,101,102,103,104,105,108,110,112,113,114,115,116,117,118,119,120,121,122,123,124,125,126,128,129,131,132,133,134,135,136,137,138,139,140,143,144,146,147,148,149,150,151,152,153,156,157,158,159,160,161,162] Try.f70 = some F70 := by kernel_rfl
theorem f70_at : Try.prog.funcs[70]? = some Try.f70 := by kernel_rfl
theorem f70_fn : okFn Try.prog 70 = true := by kernel_rfl

def k72_0 : List AO := [o1 2 (.bx 2 (.t 0)), o1 3 (.bx 224 (.t 1)), o1 4 (.mv (.k (.c (.p (.bool false)))))]
def k72_1 : List AO := [o1 9 (.fa 0 1 (.t 2)), o1 10 (.ld none (.t 9))]
def k72_2 : List AO := [o1 12 (.fa 1 1 (.t 2)), o1 13 (.ld none (.t 12)), o1 14 (.ld (some 224) (.t 3)), o1 15 (.callp 64 [(.t 13), (.t 14)]), o1 11 (.mv (.t 15)), o1 16 (.ex 0 (.t 11)), o1 17 (.ex 1 (.t 11)), o1 5 (.al [(c64 0), (.z 143)]), o0 (.st 2 (.t 5) (.t 16)), o1 6 (.mv (.t 17))]
def k72_3 : List AO := [o1 18 (.mv (.t 6)), o1 4 (.mv (.t 18))]
def k72_4 : List AO := [o1 20 (.fa 1 1 (.t 2)), o1 21 (.ld none (.t 20)), o1 22 (.ld (some 224) (.t 3)), o1 23 (.callp 54 [(.t 21), (.t 22)]), o1 19 (.mv (.t 23)), o1 24 (.ex 0 (.t 19)), o1 25 (.ex 1 (.t 19)), o1 7 (.al ([(c64 0), (c32 0), (c16 0)] ++ rep 65 (b8 0))), o0 (.st 68 (.t 7) (.t 24)), o1 8 (.mv (.t 25))]
def k72_5 : List AO := [o1 26 (.mv (.t 8)), o1 4 (.mv (.t 26))]
def k72 : AC := (.seq (.reg k72_0) (.seq (.seq (.reg k72_1) (.cond (.t 10) (.seq (.reg k72_2) (.seq (.reg k72_3) .ret)) .skip)) (.seq (.reg k72_4) (.seq (.reg k72_5) .ret))))
def F72 : AFn := ⟨2, 27, k72, [(.t 4)]⟩
theorem F72_ok : cfn Try.prog [26,27,28,29,32,34,36,37,38,39,41,42,50,51,52,53,54,55,56,57,58,59,60,61,62,63,64,65,66,67,68,69,70,71,72,73,74,75,76,77,78,79,80,83,84,85,86,87,88,89,99,100,101,102,103,104,105,108,110,112,113,114,115,116,117,118,119,120,121,122,123,124,125,126,128,129,131,132,133,134,135,136,137,138,139,140,143,144,146,147,148,149,150,151,152,153,156,157,158,159,160,161,162] Try.f72 = some F72 := by kernel_rfl
theorem f72_at : Try.prog.funcs[72]? = some Try.f72 := by kernel_rfl
theorem f72_fn : okFn Try.prog 72 = true := by kernel_rfl

def k61_0 : List AO := [o1 1 (.bx 2 (.t 0)), o1 2 (.al [(c64 0), (.z 143)])]
def k61_1 : List AO := [o1 3 (.fa 0 1 (.t 1)), o1 4 (.ld none (.t 3)), o1 5 (.bs 6 0 143 [(.p (.bool false)), (c16 0), (c32 0), (c16 0), (b8 0), (.p (.string (str [])))] []), o1 6 (.fa 1 1 (.t 1)), o1 7 (.ld none (.t 6)), o1 8 (.ap 6 32 143 (.t 5) (.t 7)), o1 9 (.bd [(c64 0), (.z 143)] [(0, (1, (.t 4))), (1, (1, (.t 8)))]), o0 (.st 2 (.t 2) (.t 9))]
def k61 : AC := (.seq (.reg k61_0) (.seq (.reg k61_1) .ret))
def F61 : AFn := ⟨1, 10, k61, [(.c 2 (some 2))]⟩
theorem F61_ok : cfn Try.prog [26,27,28,29,32,34,36,37,38,39,41,42,50,51,52,53,54,55,56,57,58,59,60,61,62,63,64,65,66,67,68,69,70,71,72,73,74,75,76,77,78,79,80,83,84,85,86,87,88,89,99,100,101,102,103,104,105,108,110,112,113,114,115,116,117,118,119,120,121,122,123,124,125,126,128,129,131,132,133,134,135,136,137,138,139,140,143,144,146,147,148,149,150,151,152,153,156,157,158,159,160,161,162] Try.f61 = some F61 := by kernel_rfl
theorem f61_at : Try.prog.funcs[61]? = some Try.f61 := by kernel_rfl
theorem f61_fn : okFn Try.prog 61 = true := by kernel_rfl

end Go.Eng
/-
  The small machine's code of functions of the program, as a program of mine printed it; each is checked against the loaded function.
-/
set_option linter.unusedVariables false
namespace Go.Eng
open Go.Proofs

def k59_0 : List AO := [o1 0 (.mv (.k (.c (.p (.bool false)))))]
def k59_1 : List AO := [o1 4 (.bd [(.p (.bool false)), (c16 0)] [(1, (1, (.k (.c (c16 3)))))]), o1 5 (.callp 69 [(.t 4)]), o1 1 (.al (rep 224 (b8 0))), o0 (.st 224 (.t 1) (.t 5))]
def k59_2 : List AO := [o1 7 (.ld (some 224) (.t 1)), o1 8 (.callp 53 [(.k (.c (c16 3))), (.t 7)]), o1 6 (.mv (.t 8)), o1 9 (.ex 0 (.t 6)), o1 10 (.ex 1 (.t 6)), o1 2 (.al ([(c64 0), (c32 0), (c16 0)] ++ rep 65 (b8 0))), o0 (.st 68 (.t 2) (.t 9)), o1 3 (.mv (.t 10))]
def k59_3 : List AO := [o1 11 (.mv (.t 3)), o1 12 (.cmp .eq (.t 11) (.k (.c (.p (.int .i64 0))))), o1 13 (.mv (.t 12)), og 14 13 true (.ld (some 68) (.t 2)), og 15 13 true (.bd ([(c64 0), (c32 0), (c16 0)] ++ rep 65 (b8 0)) []), og 16 13 true (.eqg false [(1, (.i .u64)), (1, (.i .u32)), (1, (.i .u16)), (1, (.i .u8)), (64, (.i .u8))] (.t 14) (.t 15)), o1 17 (.pk (.t 13) (.t 16) (.k (.c (.p (.bool false))))), o1 18 (.mv (.t 17)), og 19 18 true (.bd [(.p (.bool false)), (c16 0)] [(1, (1, (.k (.c (c16 3)))))]), og 20 18 true (.ld (some 224) (.t 1)), og 21 18 true (.callp 71 [(.t 19), (.t 20)]), o1 22 (.pk (.t 18) (.t 21) (.k (.c (.p (.bool false))))), o1 23 (.mv (.t 22)), og 24 23 true (.ia 224 1 (.t 1) (.k (.c (.p (.int .i64 0))))), og 25 23 true (.ld none (.t 24)), og 26 23 true (.cmp .eq (.t 25) (.k (.c (b8 1)))), o1 27 (.pk (.t 23) (.t 26) (.k (.c (.p (.bool false))))), o1 0 (.mv (.t 27))]
def k59 : AC := (.seq (.reg k59_0) (.seq (.reg k59_1) (.seq (.reg k59_2) (.seq (.reg k59_3) .ret))))
def F59 : AFn := ⟨0, 28, k59, [(.t 0)]⟩
theorem F59_ok : cfn Try.prog [26,27,28,29,32,34,36,37,38,39,41,42,50,51,52,53,54,55,56,57,58,59,60,61,62,63,64,65,66,67,68,69,70,71,72,73,74,75,76,77,78,79,80,83,84,85,86,87,88,89,99,100,101,102,103,104,105,108,110,112,113,114,115,116,117,118,119,120,121,122,123,124,125,126,128,129,131,132,133,134,135,136,137,138,139,140,143,144,146,147,148,149,150,151,152,153,156,157,158,159,160,161,162] Try.f59 = some F59 := by kernel_rfl
theorem f59_at : Try.prog.funcs[59]? = some Try.f59 := by kernel_rfl
theorem f59_fn : okFn Try.prog 59 = true := by kernel_rfl

def k10_0 : List AO := [o1 4 (.bx 68 (.t 1)), o1 5 (.bx 224 (.t 2)), o1 6 (.mv (.k (.c (.p (.bool false)))))]
def k10_1 : List AO := [o1 12 (.mv (.t 0)), o1 13 (.ld (some 224) (.t 5)), o1 14 (.callp 53 [(.t 12), (.t 13)]), o1 11 (.mv (.t 14)), o1 15 (.ex 0 (.t 11)), o1 16 (.ex 1 (.t 11)), o1 7 (.al ([(c64 0), (c32 0), (c16 0)] ++ rep 65 (b8 0))), o0 (.st 68 (.t 7) (.t 15)), o1 8 (.mv (.t 16))]
def k10_2 : List AO := [o1 18 (.mv (.t 0)), o1 19 (.ld (some 224) (.t 5)), o1 20 (.callp 54 [(.t 18), (.t 19)]), o1 17 (.mv (.t 20)), o1 21 (.ex 0 (.t 17)), o1 22 (.ex 1 (.t 17)), o1 9 (.al ([(c64 0), (c32 0), (c16 0)] ++ rep 65 (b8 0))), o0 (.st 68 (.t 9) (.t 21)), o1 10 (.mv (.t 22))]
def k10_3 : List AO := [o1 23 (.mv (.t 0)), o1 24 (.ld (some 68) (.t 4)), o1 25 (.callp 55 [(.t 23), (.t 24)]), o1 26 (.mv (.t 0)), o1 27 (.ld (some 68) (.t 4)), o1 28 (.callp 56 [(.t 26), (.t 27)]), o1 29 (.eqg false [(224, (.i .u8))] (.t 25) (.t 28)), o1 30 (.mv (.t 29)), og 31 30 true (.ld (some 68) (.t 7)), og 32 30 true (.ld (some 68) (.t 9)), og 33 30 true (.eqg false [(1, (.i .u64)), (1, (.i .u32)), (1, (.i .u16)), (1, (.i .u8)), (64, (.i .u8))] (.t 31) (.t 32)), o1 34 (.pk (.t 30) (.t 33) (.k (.c (.p (.bool false))))), o1 35 (.mv (.t 34)), og 36 35 true (.mv (.t 8)), og 37 35 true (.cmp .eq (.t 36) (.k (.c (.p (.int .i64 0))))), og 38 35 true (.mv (.t 10)), og 39 35 true (.cmb false (.t 37) (.t 38)), o1 40 (.pk (.t 35) (.t 39) (.k (.c (.p (.bool false))))), o1 41 (.mv (.t 40)), og 42 41 true (.mv (.t 10)), og 43 41 true (.mv (.t 42)), og 44 43 false (.mv (.t 8)), og 45 43 false (.cmp .eq (.t 44) (.k (.c (.p (.int .i64 2))))), og 46 41 true (.pk (.t 43) (.k (.c (.p (.bool true)))) (.t 45)), o1 47 (.pk (.t 41) (.t 46) (.k (.c (.p (.bool false))))), o1 48 (.mv (.t 47)), og 49 48 true (.ld (some 224) (.t 5)), og 50 48 true (.callp 57 [(.t 49)]), og 51 48 true (.ld (some 224) (.t 5)), og 52 48 true (.callp 58 [(.t 51)]), og 53 48 true (.cmp .eq (.t 50) (.t 52)), o1 54 (.pk (.t 48) (.t 53) (.k (.c (.p (.bool false))))), o1 55 (.mv (.t 54)), og 56 55 true (.callp 59 []), o1 57 (.pk (.t 55) (.t 56) (.k (.c (.p (.bool false))))), o1 6 (.mv (.t 57))]
def k10 : AC := (.seq (.reg k10_0) (.seq (.reg k10_1) (.seq (.reg k10_2) (.seq (.reg k10_3) .ret))))
def F10 : AFn := ⟨3, 58, k10, [(.t 6)]⟩
theorem F10_ok : cfn Try.prog [26,27,28,29,32,34,36,37,38,39,41,42,50,51,52,53,54,55,56,57,58,59,60,61,62,63,64,65,66,67,68,69,70,71,72,73,74,75,76,77,78,79,80,83,84,85,86,87,88,89,99,100,101,102,103,104,105,108,110,112,113,114,115,116,117,118,119,120,121,122,123,124,125,126,128,129,131,132,133,134,135,136,137,138,139,140,143,144,146,147,148,149,150,151,152,153,156,157,158,159,160,161,162] Try.f10 = some F10 := by kernel_rfl
theorem f10_at : Try.prog.funcs[10]? = some Try.f10 := by kernel_rfl
theorem f10_fn : okFn Try.prog 10 = true := by kernel_rfl

def k11_0 : List AO := [o1 4 (.bx 2 (.t 1)), o1 5 (.bx 224 (.t 2)), o1 6 (.mv (.k (.c (.p (.bool false)))))]
def k11_1 : List AO := [o1 15 (.fa 1 1 (.t 4)), o1 16 (.ld none (.t 15)), o1 17 (.ln (.t 16)), o1 18 (.cmp .gt (.t 17) (.k (.c (.p (.int .i64 1000)))))]
def k11_2 : List AO := [o1 19 (.callp 59 []), o1 6 (.mv (.t 19))]
def k11_3 : List AO := [o1 21 (.mv (.t 0)), o1 22 (.ld (some 2) (.t 4)), o1 23 (.callp 61 [(.t 22)]), o1 24 (.callp 60 [(.t 21), (.t 23)]), o1 20 (.mv (.t 24)), o1 25 (.ex 0 (.t 20)), o1 26 (.ex 1 (.t 20)), o1 7 (.al (rep 224 (b8 0))), o0 (.st 224 (.t 7) (.t 25)), o1 8 (.mv (.t 26))]
def k11_4 : List AO := [o1 28 (.mv (.t 0)), o1 29 (.ld (some 2) (.t 4)), o1 30 (.callp 62 [(.t 28), (.t 29)]), o1 27 (.mv (.t 30)), o1 31 (.ex 0 (.t 27)), o1 32 (.ex 1 (.t 27)), o1 9 (.al (rep 224 (b8 0))), o0 (.st 224 (.t 9) (.t 31)), o1 10 (.mv (.t 32))]
def k11_5 : List AO := [o1 34 (.mv (.t 0)), o1 35 (.ld (some 224) (.t 5)), o1 36 (.callp 63 [(.t 34), (.t 35)]), o1 33 (.mv (.t 36)), o1 37 (.ex 0 (.t 33)), o1 38 (.ex 1 (.t 33)), o1 11 (.al [(c64 0), (.z 143)]), o0 (.st 2 (.t 11) (.t 37)), o1 12 (.mv (.t 38))]
def k11_6 : List AO := [o1 40 (.mv (.t 0)), o1 41 (.ld (some 224) (.t 5)), o1 42 (.callp 64 [(.t 40), (.t 41)]), o1 39 (.mv (.t 42)), o1 43 (.ex 0 (.t 39)), o1 44 (.ex 1 (.t 39)), o1 13 (.al [(c64 0), (.z 143)]), o0 (.st 2 (.t 13) (.t 43)), o1 14 (.mv (.t 44))]
def k11_7 : List AO := [o1 45 (.ld (some 224) (.t 7)), o1 46 (.ld (some 224) (.t 9)), o1 47 (.eqg true [(224, (.i .u8))] (.t 45) (.t 46)), o1 48 (.mv (.t 47)), og 49 48 false (.mv (.t 8)), og 50 48 false (.cmp .eq (.t 49) (.k (.c (.p (.int .i64 0))))), og 51 48 false (.mv (.t 10)), og 52 48 false (.cmb true (.t 50) (.t 51)), o1 53 (.pk (.t 48) (.k (.c (.p (.bool true)))) (.t 52)), o1 54 (.mv (.t 53)), og 55 54 false (.mv (.t 10)), og 56 54 false (.not (.t 55)), og 57 54 false (.mv (.t 56)), og 58 57 true (.mv (.t 8)), og 59 57 true (.cmp .ne (.t 58) (.k (.c (.p (.int .i64 1))))), og 60 54 false (.pk (.t 57) (.t 59) (.k (.c (.p (.bool false))))), o1 61 (.pk (.t 54) (.k (.c (.p (.bool true)))) (.t 60)), o1 62 (.mv (.t 61)), og 63 62 false (.ld (some 2) (.t 4)), og 64 62 false (.callp 61 [(.t 63)]), og 65 62 false (.callp 65 [(.t 64)]), og 66 62 false (.mv (.t 10)), og 67 62 false (.cmb true (.t 65) (.t 66)), o1 68 (.pk (.t 62) (.k (.c (.p (.bool true)))) (.t 67)), o1 69 (.mv (.t 68)), og 70 69 false (.ld (some 2) (.t 4)), og 71 69 false (.callp 61 [(.t 70)]), og 72 69 false (.callp 66 [(.t 71)]), og 73 69 false (.ld (some 2) (.t 4)), og 74 69 false (.callp 67 [(.t 73)]), og 75 69 false (.cmp .ne (.t 72) (.t 74)), o1 76 (.pk (.t 69) (.k (.c (.p (.bool true)))) (.t 75))]
def k11_8 : List AO := [o1 6 (.mv (.k (.c (.p (.bool false)))))]
def k11_9 : List AO := [o1 77 (.ld (some 2) (.t 11)), o1 78 (.ld (some 2) (.t 13)), o1 79 (.callp 68 [(.t 77), (.t 78)]), o1 80 (.mv (.t 79)), og 81 80 true (.mv (.t 12)), og 82 80 true (.cmp .eq (.t 81) (.k (.c (.p (.int .i64 0))))), og 83 80 true (.mv (.t 14)), og 84 80 true (.cmb false (.t 82) (.t 83)), o1 85 (.pk (.t 80) (.t 84) (.k (.c (.p (.bool false))))), o1 86 (.mv (.t 85)), og 87 86 true (.mv (.t 14)), og 88 86 true (.mv (.t 87)), og 89 88 false (.mv (.t 12)), og 90 88 false (.cmp .eq (.t 89) (.k (.c (.p (.int .i64 2))))), og 91 86 true (.pk (.t 88) (.k (.c (.p (.bool true)))) (.t 90)), o1 92 (.pk (.t 86) (.t 91) (.k (.c (.p (.bool false))))), o1 93 (.mv (.t 92)), og 94 93 true (.callp 59 []), o1 95 (.pk (.t 93) (.t 94) (.k (.c (.p (.bool false))))), o1 6 (.mv (.t 95))]
def k11 : AC := (.seq (.reg k11_0) (.seq (.seq (.reg k11_1) (.cond (.t 18) (.seq (.reg k11_2) .ret) .skip)) (.seq (.reg k11_3) (.seq (.reg k11_4) (.seq (.reg k11_5) (.seq (.reg k11_6) (.seq (.seq (.reg k11_7) (.cond (.t 76) (.seq (.reg k11_8) .ret) .skip)) (.seq (.reg k11_9) .ret))))))))
def F11 : AFn := ⟨3, 96, k11, [(.t 6)]⟩
theorem F11_ok : cfn Try.prog [26,27,28,29,32,34,36,37,38,39,41,42,50,51,52,53,54,55,56,57,58,59,60,61,62,63,64,65,66,67,68,69,70,71,72,73,74,75,76,77,78,79,80,83,84,85,86,87,88,89,99,100,101,102,103,104,105,108,110,112,113,114,115,116,117,118,119,120,121,122,123,124,125,126,128,129,131,132,133,134,135,136,137,138,139,140,143,144,146,147,148,149,150,151,152,153,156,157,158,159,160,161,162] Try.f11 = some F11 := by kernel_rfl
theorem f11_at : Try.prog.funcs[11]? = some Try.f11 := by kernel_rfl
theorem f11_fn : okFn Try.prog 11 = true := by kernel_rfl

def k12_0 : List AO := [o1 3 (.bx 2 (.t 0)), o1 4 (.bx 2 (.t 1)), o1 5 (.bx 224 (.t 2)), o1 6 (.mv (.k (.c (.p (.bool false)))))]
def k12_1 : List AO := [o1 8 (.ld (some 2) (.t 3)), o1 9 (.callp 69 [(.t 8)]), o1 7 (.al (rep 224 (b8 0))), o0 (.st 224 (.t 7) (.t 9))]
def k12_2 : List AO := [o1 10 (.ld (some 224) (.t 7)), o1 11 (.ld (some 2) (.t 3)), o1 12 (.callp 70 [(.t 11)]), o1 13 (.eqg false [(224, (.i .u8))] (.t 10) (.t 12)), o1 14 (.mv (.t 13)), og 15 14 true (.ld (some 2) (.t 4)), og 16 14 true (.ld (some 224) (.t 7)), og 17 14 true (.callp 71 [(.t 15), (.t 16)]), og 18 14 true (.ld (some 2) (.t 3)), og 19 14 true (.ld (some 2) (.t 4)), og 20 14 true (.eqg false [(1, .b), (1, (.i .u16))] (.t 18) (.t 19)), og 21 14 true (.cmb false (.t 17) (.t 20)), o1 22 (.pk (.t 14) (.t 21) (.k (.c (.p (.bool false))))), o1 23 (.mv (.t 22)), og 24 23 true (.ld (some 2) (.t 3)), og 25 23 true (.ld (some 224) (.t 5)), og 26 23 true (.callp 71 [(.t 24), (.t 25)]), og 27 23 true (.ld (some 2) (.t 3)), og 28 23 true (.ld (some 224) (.t 5)), og 29 23 true (.callp 72 [(.t 27), (.t 28)]), og 30 23 true (.cmb false (.t 26) (.t 29)), o1 31 (.pk (.t 23) (.t 30) (.k (.c (.p (.bool false))))), o1 32 (.mv (.t 31)), og 33 32 true (.callp 59 []), o1 34 (.pk (.t 32) (.t 33) (.k (.c (.p (.bool false))))), o1 6 (.mv (.t 34))]
def k12 : AC := (.seq (.reg k12_0) (.seq (.reg k12_1) (.seq (.reg k12_2) .ret)))
def F12 : AFn := ⟨3, 35, k12, [(.t 6)]⟩
theorem F12_ok : cfn Try.prog [26,27,28,29,32,34,36,37,38,39,41,42,50,51,52,53,54,55,56,57,58,59,60,61,62,63,64,65,66,67,68,69,70,71,72,73,74,75,76,77,78,79,80,83,84,85,86,87,88,89,99,100,101,102,103,104,105,108,110,112,113,114,115,116,117,118,119,120,121,122,123,124,125,126,128,129,131,132,133,134,135,136,137,138,139,140,143,144,146,147,148,149,150,151,152,153,156,157,158,159,160,161,162] Try.f12 = some F12 := by kernel_rfl
theorem f12_at : Try.prog.funcs[12]? = some Try.f12 := by kernel_rfl
theorem f12_fn : okFn Try.prog 12 = true := by kernel_rfl

def k13_0 : List AO := [o1 4 (.bx 68 (.t 1)), o1 5 (.bx 2 (.t 2)), o1 6 (.mv (.k (.c (.p (.bool false)))))]
def k13_1 : List AO := [o1 14 (.mv (.t 0)), o1 15 (.mv (.t 0)), o1 16 (.ld (some 68) (.t 4)), o1 17 (.callp 55 [(.t 15), (.t 16)]), o1 18 (.callp 53 [(.t 14), (.t 17)]), o1 13 (.mv (.t 18)), o1 19 (.ex 0 (.t 13)), o1 20 (.ex 1 (.t 13)), o1 7 (.al ([(c64 0), (c32 0), (c16 0)] ++ rep 65 (b8 0))), o0 (.st 68 (.t 7) (.t 19)), o1 8 (.mv (.t 20))]
def k13_2 : List AO := [o1 21 (.mv (.t 8)), o1 22 (.cmp .ne (.t 21) (.k (.c (.p (.int .i64 0))))), o1 23 (.mv (.t 22)), og 24 23 false (.ld (some 68) (.t 7)), og 25 23 false (.ld (some 68) (.t 4)), og 26 23 false (.eqg true [(1, (.i .u64)), (1, (.i .u32)), (1, (.i .u16)), (1, (.i .u8)), (64, (.i .u8))] (.t 24) (.t 25)), o1 27 (.pk (.t 23) (.k (.c (.p (.bool true)))) (.t 26)), o1 28 (.mv (.t 27)), og 29 28 false (.mv (.t 0)), og 30 28 false (.ld (some 68) (.t 4)), og 31 28 false (.callp 55 [(.t 29), (.t 30)]), og 32 28 false (.callp 57 [(.t 31)]), og 33 28 false (.fa 0 1 (.t 4)), og 34 28 false (.ld none (.t 33)), og 35 28 false (.cmp .ne (.t 32) (.t 34)), o1 36 (.pk (.t 28) (.k (.c (.p (.bool true)))) (.t 35))]
def k13_3 : List AO := [o1 6 (.mv (.k (.c (.p (.bool false)))))]
def k13_4 : List AO := [o1 38 (.mv (.t 0)), o1 39 (.ld (some 2) (.t 5)), o1 40 (.callp 61 [(.t 39)]), o1 41 (.callp 60 [(.t 38), (.t 40)]), o1 37 (.mv (.t 41)), o1 42 (.ex 0 (.t 37)), o1 43 (.ex 1 (.t 37)), o1 9 (.al (rep 224 (b8 0))), o0 (.st 224 (.t 9) (.t 42)), o1 10 (.mv (.t 43))]
def k13_5 : List AO := [o1 44 (.mv (.t 10)), o1 45 (.cmp .ne (.t 44) (.k (.c (.p (.int .i64 0)))))]
def k13_6 : List AO := [o1 46 (.ld (some 2) (.t 5)), o1 47 (.callp 61 [(.t 46)]), o1 48 (.callp 65 [(.t 47)]), o1 49 (.not (.t 48)), o1 50 (.mv (.t 49)), og 51 50 true (.callp 59 []), o1 52 (.pk (.t 50) (.t 51) (.k (.c (.p (.bool false))))), o1 6 (.mv (.t 52))]
def k13_7 : List AO := [o1 54 (.mv (.t 0)), o1 55 (.ld (some 224) (.t 9)), o1 56 (.callp 63 [(.t 54), (.t 55)]), o1 53 (.mv (.t 56)), o1 57 (.ex 0 (.t 53)), o1 58 (.ex 1 (.t 53)), o1 11 (.al [(c64 0), (.z 143)]), o0 (.st 2 (.t 11) (.t 57)), o1 12 (.mv (.t 58))]
def k13_8 : List AO := [o1 59 (.mv (.t 12)), o1 60 (.cmp .eq (.t 59) (.k (.c (.p (.int .i64 0))))), o1 61 (.mv (.t 60)), og 62 61 true (.ld (some 2) (.t 11)), og 63 61 true (.ld (some 2) (.t 5)), og 64 61 true (.callp 68 [(.t 62), (.t 63)]), o1 65 (.pk (.t 61) (.t 64) (.k (.c (.p (.bool false))))), o1 66 (.mv (.t 65)), og 67 66 true (.ld (some 224) (.t 9)), og 68 66 true (.callp 57 [(.t 67)]), og 69 66 true (.fa 0 1 (.t 5)), og 70 66 true (.ld none (.t 69)), og 71 66 true (.cmp .eq (.t 68) (.t 70)), o1 72 (.pk (.t 66) (.t 71) (.k (.c (.p (.bool false))))), o1 73 (.mv (.t 72)), og 74 73 true (.callp 59 []), o1 75 (.pk (.t 73) (.t 74) (.k (.c (.p (.bool false))))), o1 6 (.mv (.t 75))]
def k13 : AC := (.seq (.reg k13_0) (.seq (.reg k13_1) (.seq (.seq (.reg k13_2) (.cond (.t 36) (.seq (.reg k13_3) .ret) .skip)) (.seq (.reg k13_4) (.seq (.seq (.reg k13_5) (.cond (.t 45) (.seq (.reg k13_6) .ret) .skip)) (.seq (.reg k13_7) (.seq (.reg k13_8) .ret)))))))
def F13 : AFn := ⟨3, 76, k13, [(.t 6)]⟩
theorem F13_ok : cfn Try.prog [26,27,28,29,32,34,36,37,38,39,41,42,50,51,52,53,54,55,56,57,58,59,60,61,62,63,64,65,66,67,68,69,70,71,72,73,74,75,76,77,78,79,80,83,84,85,86,87,88,89,99,100,101,102,103,104,105,108,110,112,113,114,115,116,117,118,119,120,121,122,123,124,125,126,128,129,131,132,133,134,135,136,137,138,139,140,143,144,146,147,148,149,150,151,152,153,156,157,158,159,160,161,162] Try.f13 = some F13 := by kernel_rfl
theorem f13_at : Try.prog.funcs[13]? = some Try.f13 := by kernel_rfl
theorem f13_fn : okFn Try.prog 13 = true := by kernel_rfl

def k14_0 : List AO := [o1 5 (.bx 2 (.t 0)), o1 6 (.bx 68 (.t 1)), o1 7 (.bx 2 (.t 2)), o1 10 (.mv (.k (.c (.p (.bool false)))))]
def k14_1 : List AO := [o1 16 (.mv (.t 4)), o1 17 (.cmp .eq (.t 16) (.k (.c (c32 0))))]
def k14_2 : List AO := [o1 18 (.callp 59 []), o1 10 (.mv (.t 18))]
def k14_3 : List AO := [o1 19 (.fa 1 1 (.t 5)), o1 20 (.ld none (.t 19)), o1 21 (.ld (some 68) (.t 6)), o1 22 (.callp 55 [(.t 20), (.t 21)]), o1 11 (.al (rep 224 (b8 0))), o0 (.st 224 (.t 11) (.t 22))]
def k14_4 : List AO := [o1 23 (.fa 0 1 (.t 5)), o1 24 (.ld none (.t 23))]
def k14_5 : List AO := [o1 26 (.fa 1 1 (.t 5)), o1 27 (.ld none (.t 26)), o1 28 (.ld (some 2) (.t 7)), o1 29 (.callp 61 [(.t 28)]), o1 30 (.callp 60 [(.t 27), (.t 29)]), o1 25 (.mv (.t 30)), o1 31 (.ex 0 (.t 25)), o1 32 (.ex 1 (.t 25)), o1 12 (.al (rep 224 (b8 0))), o0 (.st 224 (.t 12) (.t 31)), o1 13 (.mv (.t 32))]
def k14_6 : List AO := [o1 33 (.mv (.t 13)), o1 34 (.cmp .ne (.t 33) (.k (.c (.p (.int .i64 0)))))]
def k14_7 : List AO := [o1 35 (.callp 59 []), o1 10 (.mv (.t 35))]
def k14_8 : List AO := [o1 36 (.ld (some 224) (.t 12)), o0 (.st 224 (.t 11) (.t 36))]
def k14_9 : List AO := [o1 37 (.mv (.t 3)), o1 38 (.cvi .u64 (.t 37)), o1 39 (.ari .rem (.t 38) (.k (.c (c64 1704)))), o1 40 (.cvi .i64 (.t 39)), o1 3 (.mv (.t 40))]
def k14_10 : List AO := [o1 41 (.mv (.t 4)), o1 42 (.cvi .u64 (.t 41)), o1 43 (.mv (.t 3)), o1 44 (.ari .rem (.t 43) (.k (.c (.p (.int .i64 8))))), o1 45 (.ari .shl (.t 42) (.t 44)), o1 14 (.mv (.t 45))]
def k14_11 : List AO := [o1 15 (.mv (.k (.c (.p (.int .i64 0)))))]
def k14_12 : List AO := [o1 46 (.mv (.t 15)), o1 47 (.cmp .lt (.t 46) (.k (.c (.p (.int .i64 5)))))]
def k14_13 : List AO := [o1 50 (.mv (.t 3)), o1 51 (.ari .quo (.t 50) (.k (.c (.p (.int .i64 8))))), o1 52 (.ari .add (.t 51) (.k (.c (.p (.int .i64 7))))), o1 53 (.mv (.t 15)), o1 54 (.ari .add (.t 52) (.t 53)), o1 55 (.cmp .lt (.t 54) (.k (.c (.p (.int .i64 224)))))]
def k14_14 : List AO := [o1 56 (.mv (.t 3)), o1 57 (.ari .quo (.t 56) (.k (.c (.p (.int .i64 8))))), o1 58 (.ari .add (.t 57) (.k (.c (.p (.int .i64 7))))), o1 59 (.mv (.t 15)), o1 60 (.ari .add (.t 58) (.t 59)), o1 61 (.ia 224 1 (.t 11) (.t 60)), o1 62 (.ld none (.t 61)), o1 63 (.mv (.t 14)), o1 64 (.mv (.t 15)), o1 65 (.ari .mul (.k (.c (.p (.int .i64 8)))) (.t 64)), o1 66 (.ari .shr (.t 63) (.t 65)), o1 67 (.cvi .u8 (.t 66)), o1 68 (.ari .xor (.t 62) (.t 67)), o1 69 (.ia 224 1 (.t 11) (.t 60)), o0 (.st 1 (.t 69) (.t 68))]
def k14_15 : List AO := [o1 48 (.mv (.t 15)), o1 49 (.ari .add (.t 48) (.k (.c (.p (.int .i64 1))))), o1 15 (.mv (.t 49))]
def k14_16 : List AO := [o1 70 (.ld (some 2) (.t 5)), o1 71 (.ld (some 224) (.t 11)), o1 72 (.callp 71 [(.t 70), (.t 71)]), o1 73 (.not (.t 72)), o1 74 (.mv (.t 73)), og 75 74 true (.callp 59 []), o1 76 (.pk (.t 74) (.t 75) (.k (.c (.p (.bool false))))), o1 10 (.mv (.t 76))]
def k14 : AC := (.seq (.reg k14_0) (.seq (.seq (.reg k14_1) (.cond (.t 17) (.seq (.reg k14_2) .ret) .skip)) (.seq (.reg k14_3) (.seq (.seq (.reg k14_4) (.cond (.t 24) (.seq (.reg k14_5) (.seq (.seq (.reg k14_6) (.cond (.t 34) (.seq (.reg k14_7) .ret) .skip)) (.reg k14_8))) .skip)) (.seq (.reg k14_9) (.seq (.reg k14_10) (.seq (.seq (.reg k14_11) (.block 0 (.loop (.seq (.seq (.reg k14_12) (.cond (.t 47) .skip (.exit 0))) (.seq (.block 1 (.seq (.reg k14_13) (.cond (.t 55) (.reg k14_14) .skip))) (.reg k14_15)))))) (.seq (.reg k14_16) .ret))))))))
def F14 : AFn := ⟨5, 77, k14, [(.t 10)]⟩
theorem F14_ok : cfn Try.prog [26,27,28,29,32,34,36,37,38,39,41,42,50,51,52,53,54,55,56,57,58,59,60,61,62,63,64,65,66,67,68,69,70,71,72,73,74,75,76,77,78,79,80,83,84,85,86,87,88,89,99,100,101,102,103,104,105,108,110,112,113,114,115,116,117,118,119,120,121,122,123,124,125,126,128,129,131,132,133,134,135,136,137,138,139,140,143,144,146,147,148,149,150,151,152,153,156,157,158,159,160,161,162] Try.f14 = some F14 := by kernel_rfl
theorem f14_at : Try.prog.funcs[14]? = some Try.f14 := by kernel_rfl
theorem f14_fn : okFn Try.prog 14 = true := by kernel_rfl

def k15_0 : List AO := [o1 6 (.bx 68 (.t 2)), o1 7 (.bx 68 (.t 3)), o1 8 (.mv (.k (.c (.p (.bool false)))))]
def k15_1 : List AO := [o1 15 (.mv (.t 0)), o1 16 (.ld (some 68) (.t 6)), o1 17 (.callp 55 [(.t 15), (.t 16)]), o1 18 (.mv (.t 1)), o1 19 (.ld (some 68) (.t 7)), o1 20 (.callp 55 [(.t 18), (.t 19)])]
def k15_1e : List (List AO) := [[o1 9 (.al (rep 224 (b8 0))), o1 10 (.al (rep 224 (b8 0))), o0 (.st 224 (.t 9) (.t 17)), o0 (.st 224 (.t 10) (.t 20))], [o1 10 (.al (rep 224 (b8 0))), o1 9 (.al (rep 224 (b8 0))), o0 (.st 224 (.t 9) (.t 17)), o0 (.st 224 (.t 10) (.t 20))]]
def k15_2 : List AO := [o1 21 (.ld (some 224) (.t 9)), o1 22 (.ld (some 224) (.t 10)), o1 23 (.eqg false [(224, (.i .u8))] (.t 21) (.t 22)), o1 24 (.mv (.t 0)), o1 25 (.mv (.t 1)), o1 26 (.cmp .eq (.t 24) (.t 25)), o1 27 (.mv (.t 26)), og 28 27 true (.ld (some 68) (.t 6)), og 29 27 true (.ld (some 68) (.t 7)), og 30 27 true (.eqg false [(1, (.i .u64)), (1, (.i .u32)), (1, (.i .u16)), (1, (.i .u8)), (64, (.i .u8))] (.t 28) (.t 29)), o1 31 (.pk (.t 27) (.t 30) (.k (.c (.p (.bool false))))), o1 32 (.cmb true (.t 23) (.t 31))]
def k15_3 : List AO := [o1 8 (.mv (.k (.c (.p (.bool false)))))]
def k15_4 : List AO := [o1 34 (.mv (.t 1)), o1 35 (.ld (some 224) (.t 9)), o1 36 (.callp 53 [(.t 34), (.t 35)]), o1 33 (.mv (.t 36)), o1 37 (.ex 0 (.t 33)), o1 38 (.ex 1 (.t 33)), o1 11 (.al ([(c64 0), (c32 0), (c16 0)] ++ rep 65 (b8 0))), o0 (.st 68 (.t 11) (.t 37)), o1 12 (.mv (.t 38))]
def k15_5 : List AO := [o1 40 (.mv (.t 0)), o1 41 (.ld (some 224) (.t 9)), o1 42 (.callp 63 [(.t 40), (.t 41)]), o1 39 (.mv (.t 42)), o1 43 (.ex 0 (.t 39)), o1 44 (.ex 1 (.t 39)), o1 13 (.al [(c64 0), (.z 143)]), o0 (.st 2 (.t 13) (.t 43)), o1 14 (.mv (.t 44))]
def k15_6 : List AO := [o1 45 (.mv (.t 12)), o1 46 (.cmp .eq (.t 45) (.k (.c (.p (.int .i64 0))))), o1 47 (.mv (.t 0)), o1 48 (.mv (.t 1)), o1 49 (.cmp .eq (.t 47) (.t 48)), o1 50 (.cmb false (.t 46) (.t 49)), o1 51 (.mv (.t 50)), og 52 51 true (.mv (.t 14)), og 53 51 true (.cmp .eq (.t 52) (.k (.c (.p (.int .i64 2))))), o1 54 (.pk (.t 51) (.t 53) (.k (.c (.p (.bool false))))), o1 55 (.mv (.t 54)), og 56 55 true (.callp 59 []), o1 57 (.pk (.t 55) (.t 56) (.k (.c (.p (.bool false))))), o1 8 (.mv (.t 57))]
def k15 : AC := (.seq (.reg k15_0) (.seq (.alt k15_1 k15_1e) (.seq (.seq (.reg k15_2) (.cond (.t 32) (.seq (.reg k15_3) .ret) .skip)) (.seq (.reg k15_4) (.seq (.reg k15_5) (.seq (.reg k15_6) .ret))))))
def F15 : AFn := ⟨4, 58, k15, [(.t 8)]⟩
theorem F15_ok : cfn Try.prog [26,27,28,29,32,34,36,37,38,39,41,42,50,51,52,53,54,55,56,57,58,59,60,61,62,63,64,65,66,67,68,69,70,71,72,73,74,75,76,77,78,79,80,83,84,85,86,87,88,89,99,100,101,102,103,104,105,108,110,112,113,114,115,116,117,118,119,120,121,122,123,124,125,126,128,129,131,132,133,134,135,136,137,138,139,140,143,144,146,147,148,149,150,151,152,153,156,157,158,159,160,161,162] Try.f15 = some F15 := by kernel_rfl
theorem f15_at : Try.prog.funcs[15]? = some Try.f15 := by kernel_rfl
theorem f15_fn : okFn Try.prog 15 = true := by kernel_rfl

attribute [go_sem] k104_0 k104_1 k104_2 k104_3 k104_4 k104_5 k104_6 k104_7 k104_8 k104_9
attribute [go_sem] k115_0 k115_1 k115_2 k115_3 k115_4 k115_5 k115_6 k115_7 k115_8
attribute [go_sem] k119_0 k119_1 k119_2 k119_3 k119_4 k119_5 k119_6 k119_7 k119_8 k119_9
attribute [go_sem] k131_0 k131_1 k131_2 k131_3 k131_4 k131_5 k131_6 k131_7 k131_8 k131_9
attribute [go_sem] k158_0 k158_1
attribute [go_sem] k144_0 k144_1 k144_2 k144_3 k144_4 k144_5 k144_6 k144_7 k144_8 k144_9 k144_10
attribute [go_sem] k105_0 k105_1
attribute [go_sem] k159_0 k159_1 k159_2 k159_3
attribute [go_sem] k149_0 k149_1 k149_2 k149_3 k149_4 k149_5 k149_6 k149_7 k149_8 k149_9 k149_10
attribute [go_sem] k124_0 k124_1
attribute [go_sem] k148_0 k148_1 k148_2
attribute [go_sem] k117_0 k117_1 k117_2 k117_3 k117_4 k117_5
attribute [go_sem] k114_0 k114_1 k114_2 k114_3
attribute [go_sem] k57_0 k57_1 k57_2
attribute [go_sem] k55_0 k55_1 k55_2 k55_3 k55_4 k55_5 k55_6
attribute [go_sem] k53_0 k53_1 k53_2 k53_3 k53_4 k53_5 k53_6 k53_7 k53_8 k53_9 k53_10 k53_11 k53_12 k53_13 k53_14 k53_15 k53_16
attribute [go_sem] k66_0 k66_1 k66_2 k66_3 k66_4 k66_5 k66_6 k66_7 k66_8 k66_9
attribute [go_sem] k65_0 k65_1 k65_2 k65_3 k65_4 k65_5 k65_6 k65_7 k65_8 k65_9
attribute [go_sem] k60_0 k60_1 k60_2 k60_3 k60_4 k60_5 k60_6 k60_7 k60_8 k60_9 k60_10 k60_11 k60_12 k60_13 k60_14
attribute [go_sem] k63_0 k63_1 k63_2 k63_3 k63_4 k63_5 k63_6 k63_7 k63_8 k63_9 k63_10 k63_11 k63_12 k63_13 k63_14 k63_15 k63_16 k63_17 k63_18 k63_19 k63_20 k63_21 k63_22 k63_23 k63_24 k63_25 k63_26 k63_27 k63_28 k63_29 k63_30 k63_31
attribute [go_sem] k69_0 k69_1 k69_2 k69_3 k69_4
attribute [go_sem] k71_0 k71_1 k71_2 k71_3 k71_4 k71_5
attribute [go_sem] k118_0 k118_1 k118_2 k118_3 k118_4 k118_5 k118_6 k118_7 k118_8 k118_9 k118_10 k118_11
attribute [go_sem] k56_0 k56_1
attribute [go_sem] k116_0 k116_1 k116_2
attribute [go_sem] k58_0 k58_1
attribute [go_sem] k54_0 k54_1 k54_2 k54_3 k54_4 k54_5 k54_6 k54_7 k54_8
attribute [go_sem] k121_0 k121_1 k121_2 k121_3 k121_4 k121_5 k121_6 k121_7 k121_8 k121_9
attribute [go_sem] k67_0 k67_1
attribute [go_sem] k120_0 k120_1 k120_2 k120_3 k120_4 k120_5 k120_6 k120_7 k120_8 k120_9 k120_10
attribute [go_sem] k62_0 k62_1 k62_2 k62_3
attribute [go_sem] k64_0 k64_1 k64_2 k64_3 k64_4 k64_5 k64_6 k64_7 k64_8 k64_9 k64_10 k64_11 k64_12 k64_13 k64_14 k64_15 k64_16 k64_17 k64_18 k64_19
attribute [go_sem] k68_0 k68_1 k68_2 k68_3 k68_4 k68_5 k68_6 k68_7 k68_8 k68_9
attribute [go_sem] k70_0 k70_1 k70_2 k70_3 k70_4
attribute [go_sem] k72_0 k72_1 k72_2 k72_3 k72_4 k72_5
attribute [go_sem] k61_0 k61_1
attribute [go_sem] k59_0 k59_1 k59_2 k59_3
attribute [go_sem] k10_0 k10_1 k10_2 k10_3
attribute [go_sem] k11_0 k11_1 k11_2 k11_3 k11_4 k11_5 k11_6 k11_7 k11_8 k11_9
attribute [go_sem] k12_0 k12_1 k12_2
attribute [go_sem] k13_0 k13_1 k13_2 k13_3 k13_4 k13_5 k13_6 k13_7 k13_8
attribute [go_sem] k14_0 k14_1 k14_2 k14_3 k14_4 k14_5 k14_6 k14_7 k14_8 k14_9 k14_10 k14_11 k14_12 k14_13 k14_14 k14_15 k14_16
attribute [go_sem] k15_0 k15_1 k15_1e k15_2 k15_3 k15_4 k15_5 k15_6
attribute [bool_to_prop] List.length_cons List.length_nil List.length_map List.length_append List.length_replicate List.length_take List.length_drop le_len sub_lenU over_lenU str_size
attribute [go_sem_proc] Nat.reduceEqDiff BitVec.reduceToNat Nat.reduceAdd Nat.reduceSub Nat.reduceMul Nat.reduceLeDiff Nat.reduceLT Int.reduceToNat Int.reduceAdd Int.reduceSub Int.reduceMul Int.reduceLE Int.reduceLT reduceCtorEq
attribute [go_sem_proc ↓] reduceIte
end Go.Eng
