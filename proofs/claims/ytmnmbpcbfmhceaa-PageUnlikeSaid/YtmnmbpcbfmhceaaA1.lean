/-
  The small machine's code of functions of the program, as a program of mine printed it; each is checked against the loaded function.
-/
import Derived.Test.YtmnmbpcbfmhceaaEng25
import Derived.Test.YtmnmbpcbfmhceaaProg
set_option linter.unusedVariables false
namespace Go.Eng
open Go.Proofs

def k104_0 : List AO := [o1 4 (.mv (.k (.c (.p (.string (str []))))))]
def k104_1 : List AO := [o1 7 (.mv (.t 1)), o1 8 (.cmp .lt (.t 7) (.k (.c (.p (.int .i64 0))))), o1 9 (.mv (.t 8)), og 10 9 false (.mv (.t 1)), og 11 9 false (.cmp .gt (.t 10) (.k (.c (.p (.int .i64 8))))), o1 12 (.pk (.t 9) (.k (.c (.p (.bool true)))) (.t 11))]
def k104_2 : List AO := [o1 4 (.mv (.k (.c (.p (.string (str []))))))]
def k104_3 : List AO := [o1 13 (.mv (.t 1)), o1 14 (.ms 1 1 [(b8 0)] (.t 13) (.t 13)), o1 5 (.mv (.t 14))]
def k104_4 : List AO := [o1 15 (.mv (.t 5)), o1 16 (.ln (.t 15)), o1 17 (.mv (.k (.c (.p (.int .i64 0)))))]
def k104_5 : List AO := [o1 18 (.cmp .lt (.t 17) (.t 16))]
def k104_6 : List AO := [o1 19 (.mv (.t 17)), o1 6 (.mv (.t 19))]
def k104_7 : List AO := [o1 20 (.mv (.t 5)), o1 21 (.mv (.t 6)), o1 22 (.mv (.t 0)), o1 23 (.mv (.t 6)), o1 24 (.ari .mul (.k (.c (.p (.int .i64 8)))) (.t 23)), o1 25 (.ari .shr (.t 22) (.t 24)), o1 26 (.cvi .u8 (.t 25)), o1 27 (.is 1 (.t 20) (.t 21)), o0 (.st 1 (.t 27) (.t 26))]
def k104_8 : List AO := [o1 28 (.ari .add (.t 17) (.k (.c (.p (.int .i64 1))))), o1 17 (.mv (.t 28))]
def k104_9 : List AO := [o1 29 (.mv (.t 5)), o1 30 (.cvs (.t 29)), o1 4 (.mv (.t 30))]
def k104 : AC := (.seq (.reg k104_0) (.seq (.seq (.reg k104_1) (.cond (.t 12) (.seq (.reg k104_2) .ret) .skip)) (.seq (.reg k104_3) (.seq (.seq (.reg k104_4) (.block 0 (.loop (.seq (.reg k104_5) (.seq (.cond (.t 18) .skip (.exit 0)) (.seq (.block 1 (.seq (.reg k104_6) (.reg k104_7))) (.reg k104_8))))))) (.seq (.reg k104_9) .ret)))))
def F104 : AFn := ⟨2, 31, k104, [(.t 4)]⟩
theorem F104_ok : cfn Try.prog [26,27,28,29,32,34,36,37,38,39,41,42,50,51,52,53,54,55,56,57,58,59,60,61,62,63,64,65,66,67,68,69,70,71,72,73,74,75,76,77,78,79,80,83,84,85,86,87,88,89,99,100,101,102,103,104,105,108,110,112,113,114,115,116,117,118,119,120,121,122,123,124,125,126,128,129,131,132,133,134,135,136,137,138,139,140,143,144,146,147,148,149,150,151,152,153,156,157,158,159,160,161,162] Try.f104 = some F104 := by kernel_rfl
theorem f104_at : Try.prog.funcs[104]? = some Try.f104 := by kernel_rfl
theorem f104_fn : okFn Try.prog 104 = true := by kernel_rfl

def k115_0 : List AO := [o1 6 (.mv (.k (.c (c64 0)))), o1 7 (.mv (.k (.c (.p (.bool false)))))]
def k115_1 : List AO := [o1 10 (.mv (.t 2)), o1 11 (.cmp .lt (.t 10) (.k (.c (.p (.int .i64 0))))), o1 12 (.mv (.t 11)), og 13 12 false (.mv (.t 2)), og 14 12 false (.cmp .gt (.t 13) (.k (.c (.p (.int .i64 8))))), o1 15 (.pk (.t 12) (.k (.c (.p (.bool true)))) (.t 14)), o1 16 (.mv (.t 15)), og 17 16 false (.mv (.t 1)), og 18 16 false (.cmp .lt (.t 17) (.k (.c (.p (.int .i64 0))))), o1 19 (.pk (.t 16) (.k (.c (.p (.bool true)))) (.t 18)), o1 20 (.mv (.t 19)), og 21 20 false (.mv (.t 1)), og 22 20 false (.mv (.t 0)), og 23 20 false (.lns (.t 22)), og 24 20 false (.cmp .gt (.t 21) (.t 23)), o1 25 (.pk (.t 20) (.k (.c (.p (.bool true)))) (.t 24)), o1 26 (.mv (.t 25)), og 27 26 false (.mv (.t 2)), og 28 26 false (.mv (.t 0)), og 29 26 false (.lns (.t 28)), og 30 26 false (.mv (.t 1)), og 31 26 false (.ari .sub (.t 29) (.t 30)), og 32 26 false (.cmp .gt (.t 27) (.t 31)), o1 33 (.pk (.t 26) (.k (.c (.p (.bool true)))) (.t 32))]
def k115_2 : List AO := [o1 6 (.mv (.k (.c (c64 0)))), o1 7 (.mv (.k (.c (.p (.bool false)))))]
def k115_3 : List AO := [o1 8 (.mv (.k (.c (c64 0))))]
def k115_4 : List AO := [o1 34 (.mv (.t 2)), o1 35 (.ari .sub (.t 34) (.k (.c (.p (.int .i64 1))))), o1 9 (.mv (.t 35))]
def k115_5 : List AO := [o1 36 (.mv (.t 9)), o1 37 (.cmp .ge (.t 36) (.k (.c (.p (.int .i64 0)))))]
def k115_6 : List AO := [o1 40 (.mv (.t 8)), o1 41 (.ari .shl (.t 40) (.k (.c (c64 8)))), o1 42 (.mv (.t 0)), o1 43 (.mv (.t 1)), o1 44 (.mv (.t 9)), o1 45 (.ari .add (.t 43) (.t 44)), o1 46 (.ix (.t 42) (.t 45)), o1 47 (.cvi .u64 (.t 46)), o1 48 (.ari .or (.t 41) (.t 47)), o1 8 (.mv (.t 48))]
def k115_7 : List AO := [o1 38 (.mv (.t 9)), o1 39 (.ari .sub (.t 38) (.k (.c (.p (.int .i64 1))))), o1 9 (.mv (.t 39))]
def k115_8 : List AO := [o1 49 (.mv (.t 8)), o1 6 (.mv (.t 49)), o1 7 (.mv (.k (.c (.p (.bool true)))))]
def k115 : AC := (.seq (.reg k115_0) (.seq (.seq (.reg k115_1) (.cond (.t 33) (.seq (.reg k115_2) .ret) .skip)) (.seq (.reg k115_3) (.seq (.seq (.reg k115_4) (.block 0 (.loop (.seq (.seq (.reg k115_5) (.cond (.t 37) .skip (.exit 0))) (.seq (.block 1 (.reg k115_6)) (.reg k115_7)))))) (.seq (.reg k115_8) .ret)))))
def F115 : AFn := ⟨3, 50, k115, [(.t 6), (.t 7)]⟩
theorem F115_ok : cfn Try.prog [26,27,28,29,32,34,36,37,38,39,41,42,50,51,52,53,54,55,56,57,58,59,60,61,62,63,64,65,66,67,68,69,70,71,72,73,74,75,76,77,78,79,80,83,84,85,86,87,88,89,99,100,101,102,103,104,105,108,110,112,113,114,115,116,117,118,119,120,121,122,123,124,125,126,128,129,131,132,133,134,135,136,137,138,139,140,143,144,146,147,148,149,150,151,152,153,156,157,158,159,160,161,162] Try.f115 = some F115 := by kernel_rfl
theorem f115_at : Try.prog.funcs[115]? = some Try.f115 := by kernel_rfl
theorem f115_fn : okFn Try.prog 115 = true := by kernel_rfl

def k119_0 : List AO := [o1 4 (.mv (.k (.c (.p (.string (str []))))))]
def k119_1 : List AO := [o1 7 (.mv (.t 1)), o1 8 (.cmp .lt (.t 7) (.k (.c (.p (.int .i64 0))))), o1 9 (.mv (.t 8)), og 10 9 false (.mv (.t 1)), og 11 9 false (.cmp .gt (.t 10) (.k (.c (.p (.int .i64 8))))), o1 12 (.pk (.t 9) (.k (.c (.p (.bool true)))) (.t 11))]
def k119_2 : List AO := [o1 4 (.mv (.k (.c (.p (.string (str []))))))]
def k119_3 : List AO := [o1 5 (.mv (.k (.c (.p (.string (str []))))))]
def k119_4 : List AO := [o1 6 (.mv (.k (.c (.p (.int .i64 0)))))]
def k119_5 : List AO := [o1 13 (.mv (.t 6)), o1 14 (.mv (.t 1)), o1 15 (.cmp .lt (.t 13) (.t 14))]
def k119_6 : List AO := [o1 18 (.mv (.t 5)), o1 19 (.mv (.t 0)), o1 20 (.ari .rem (.t 19) (.k (.c (c64 256)))), o1 21 (.cvi .u8 (.t 20)), o1 22 (.bs 1 1 5 [(b8 0)] [(0, (.t 21))]), o1 23 (.cvs (.t 22)), o1 24 (.ari .add (.t 18) (.t 23)), o1 5 (.mv (.t 24))]
def k119_7 : List AO := [o1 25 (.mv (.t 0)), o1 26 (.ari .quo (.t 25) (.k (.c (c64 256)))), o1 0 (.mv (.t 26))]
def k119_8 : List AO := [o1 16 (.mv (.t 6)), o1 17 (.ari .add (.t 16) (.k (.c (.p (.int .i64 1))))), o1 6 (.mv (.t 17))]
def k119_9 : List AO := [o1 27 (.mv (.t 5)), o1 4 (.mv (.t 27))]
def k119 : AC := (.seq (.reg k119_0) (.seq (.seq (.reg k119_1) (.cond (.t 12) (.seq (.reg k119_2) .ret) .skip)) (.seq (.reg k119_3) (.seq (.seq (.reg k119_4) (.block 0 (.loop (.seq (.seq (.reg k119_5) (.cond (.t 15) .skip (.exit 0))) (.seq (.block 1 (.seq (.reg k119_6) (.reg k119_7))) (.reg k119_8)))))) (.seq (.reg k119_9) .ret)))))
def F119 : AFn := ⟨2, 28, k119, [(.t 4)]⟩
theorem F119_ok : cfn Try.prog [26,27,28,29,32,34,36,37,38,39,41,42,50,51,52,53,54,55,56,57,58,59,60,61,62,63,64,65,66,67,68,69,70,71,72,73,74,75,76,77,78,79,80,83,84,85,86,87,88,89,99,100,101,102,103,104,105,108,110,112,113,114,115,116,117,118,119,120,121,122,123,124,125,126,128,129,131,132,133,134,135,136,137,138,139,140,143,144,146,147,148,149,150,151,152,153,156,157,158,159,160,161,162] Try.f119 = some F119 := by kernel_rfl
theorem f119_at : Try.prog.funcs[119]? = some Try.f119 := by kernel_rfl
theorem f119_fn : okFn Try.prog 119 = true := by kernel_rfl

def k131_0 : List AO := [o1 6 (.mv (.k (.c (c64 0)))), o1 7 (.mv (.k (.c (.p (.bool false)))))]
def k131_1 : List AO := [o1 11 (.mv (.t 2)), o1 12 (.cmp .lt (.t 11) (.k (.c (.p (.int .i64 0))))), o1 13 (.mv (.t 12)), og 14 13 false (.mv (.t 2)), og 15 13 false (.cmp .gt (.t 14) (.k (.c (.p (.int .i64 8))))), o1 16 (.pk (.t 13) (.k (.c (.p (.bool true)))) (.t 15)), o1 17 (.mv (.t 16)), og 18 17 false (.mv (.t 1)), og 19 17 false (.cmp .lt (.t 18) (.k (.c (.p (.int .i64 0))))), o1 20 (.pk (.t 17) (.k (.c (.p (.bool true)))) (.t 19)), o1 21 (.mv (.t 20)), og 22 21 false (.mv (.t 1)), og 23 21 false (.mv (.t 0)), og 24 21 false (.lns (.t 23)), og 25 21 false (.cmp .gt (.t 22) (.t 24)), o1 26 (.pk (.t 21) (.k (.c (.p (.bool true)))) (.t 25)), o1 27 (.mv (.t 26)), og 28 27 false (.mv (.t 0)), og 29 27 false (.lns (.t 28)), og 30 27 false (.mv (.t 1)), og 31 27 false (.ari .sub (.t 29) (.t 30)), og 32 27 false (.mv (.t 2)), og 33 27 false (.cmp .lt (.t 31) (.t 32)), o1 34 (.pk (.t 27) (.k (.c (.p (.bool true)))) (.t 33))]
def k131_2 : List AO := [o1 6 (.mv (.k (.c (c64 0)))), o1 7 (.mv (.k (.c (.p (.bool false)))))]
def k131_3 : List AO := [o1 8 (.mv (.k (.c (c64 0)))), o1 9 (.mv (.k (.c (c64 1))))]
def k131_4 : List AO := [o1 10 (.mv (.k (.c (.p (.int .i64 0)))))]
def k131_5 : List AO := [o1 35 (.mv (.t 10)), o1 36 (.mv (.t 2)), o1 37 (.cmp .lt (.t 35) (.t 36))]
def k131_6 : List AO := [o1 40 (.mv (.t 8)), o1 41 (.mv (.t 9)), o1 42 (.mv (.t 0)), o1 43 (.mv (.t 1)), o1 44 (.mv (.t 10)), o1 45 (.ari .add (.t 43) (.t 44)), o1 46 (.ix (.t 42) (.t 45)), o1 47 (.cvi .u64 (.t 46)), o1 48 (.ari .mul (.t 41) (.t 47)), o1 49 (.ari .add (.t 40) (.t 48)), o1 8 (.mv (.t 49))]
def k131_7 : List AO := [o1 50 (.mv (.t 9)), o1 51 (.ari .mul (.t 50) (.k (.c (c64 256)))), o1 9 (.mv (.t 51))]
def k131_8 : List AO := [o1 38 (.mv (.t 10)), o1 39 (.ari .add (.t 38) (.k (.c (.p (.int .i64 1))))), o1 10 (.mv (.t 39))]
def k131_9 : List AO := [o1 52 (.mv (.t 8)), o1 6 (.mv (.t 52)), o1 7 (.mv (.k (.c (.p (.bool true)))))]
def k131 : AC := (.seq (.reg k131_0) (.seq (.seq (.reg k131_1) (.cond (.t 34) (.seq (.reg k131_2) .ret) .skip)) (.seq (.reg k131_3) (.seq (.seq (.reg k131_4) (.block 0 (.loop (.seq (.seq (.reg k131_5) (.cond (.t 37) .skip (.exit 0))) (.seq (.block 1 (.seq (.reg k131_6) (.reg k131_7))) (.reg k131_8)))))) (.seq (.reg k131_9) .ret)))))
def F131 : AFn := ⟨3, 53, k131, [(.t 6), (.t 7)]⟩
theorem F131_ok : cfn Try.prog [26,27,28,29,32,34,36,37,38,39,41,42,50,51,52,53,54,55,56,57,58,59,60,61,62,63,64,65,66,67,68,69,70,71,72,73,74,75,76,77,78,79,80,83,84,85,86,87,88,89,99,100,101,102,103,104,105,108,110,112,113,114,115,116,117,118,119,120,121,122,123,124,125,126,128,129,131,132,133,134,135,136,137,138,139,140,143,144,146,147,148,149,150,151,152,153,156,157,158,159,160,161,162] Try.f131 = some F131 := by kernel_rfl
theorem f131_at : Try.prog.funcs[131]? = some Try.f131 := by kernel_rfl
theorem f131_fn : okFn Try.prog 131 = true := by kernel_rfl

def k158_0 : List AO := [o1 2 (.mv (.k (.c (c32 0))))]
def k158_1 : List AO := [o1 3 (.mv (.t 0)), o1 4 (.ari .shr (.t 3) (.k (.c (c64 1)))), o1 5 (.mv (.t 0)), o1 6 (.ari .and (.t 5) (.k (.c (c32 1)))), o1 7 (.neg (.t 6)), o1 8 (.ari .and (.k (.c (c32 3988292384))) (.t 7)), o1 9 (.ari .xor (.t 4) (.t 8)), o1 2 (.mv (.t 9))]
def k158 : AC := (.seq (.reg k158_0) (.seq (.reg k158_1) .ret))
def F158 : AFn := ⟨1, 10, k158, [(.t 2)]⟩
theorem F158_ok : cfn Try.prog [26,27,28,29,32,34,36,37,38,39,41,42,50,51,52,53,54,55,56,57,58,59,60,61,62,63,64,65,66,67,68,69,70,71,72,73,74,75,76,77,78,79,80,83,84,85,86,87,88,89,99,100,101,102,103,104,105,108,110,112,113,114,115,116,117,118,119,120,121,122,123,124,125,126,128,129,131,132,133,134,135,136,137,138,139,140,143,144,146,147,148,149,150,151,152,153,156,157,158,159,160,161,162] Try.f158 = some F158 := by kernel_rfl
theorem f158_at : Try.prog.funcs[158]? = some Try.f158 := by kernel_rfl
theorem f158_fn : okFn Try.prog 158 = true := by kernel_rfl

def k144_0 : List AO := [o1 4 (.mv (.k (.c (c32 0))))]
def k144_1 : List AO := [o1 7 (.mv (.t 0)), o1 8 (.cpl (.t 7)), o1 5 (.mv (.t 8))]
def k144_2 : List AO := [o1 6 (.mv (.k (.c (.p (.int .i64 0)))))]
def k144_3 : List AO := [o1 9 (.mv (.t 6)), o1 10 (.mv (.t 1)), o1 11 (.lns (.t 10)), o1 12 (.cmp .lt (.t 9) (.t 11))]
def k144_4 : List AO := [o1 15 (.mv (.t 5)), o1 16 (.mv (.t 1)), o1 17 (.mv (.t 6)), o1 18 (.ix (.t 16) (.t 17)), o1 19 (.cvi .u32 (.t 18)), o1 20 (.ari .xor (.t 15) (.t 19)), o1 5 (.mv (.t 20))]
def k144_5 : List AO := [o1 21 (.mv (.k (.c (.p (.int .i64 0)))))]
def k144_6 : List AO := [o1 22 (.cmp .lt (.t 21) (.k (.c (.p (.int .i64 8)))))]
def k144_7 : List AO := [o1 23 (.mv (.t 5)), o1 24 (.callp 158 [(.t 23)]), o1 5 (.mv (.t 24))]
def k144_8 : List AO := [o1 25 (.ari .add (.t 21) (.k (.c (.p (.int .i64 1))))), o1 21 (.mv (.t 25))]
def k144_9 : List AO := [o1 13 (.mv (.t 6)), o1 14 (.ari .add (.t 13) (.k (.c (.p (.int .i64 1))))), o1 6 (.mv (.t 14))]
def k144_10 : List AO := [o1 26 (.mv (.t 5)), o1 27 (.cpl (.t 26)), o1 4 (.mv (.t 27))]
def k144 : AC := (.seq (.reg k144_0) (.seq (.reg k144_1) (.seq (.seq (.reg k144_2) (.block 0 (.loop (.seq (.seq (.reg k144_3) (.cond (.t 12) .skip (.exit 0))) (.seq (.block 1 (.seq (.reg k144_4) (.seq (.reg k144_5) (.block 2 (.loop (.seq (.reg k144_6) (.seq (.cond (.t 22) .skip (.exit 2)) (.seq (.block 3 (.reg k144_7)) (.reg k144_8))))))))) (.reg k144_9)))))) (.seq (.reg k144_10) .ret))))
def F144 : AFn := ⟨2, 28, k144, [(.t 4)]⟩
theorem F144_ok : cfn Try.prog [26,27,28,29,32,34,36,37,38,39,41,42,50,51,52,53,54,55,56,57,58,59,60,61,62,63,64,65,66,67,68,69,70,71,72,73,74,75,76,77,78,79,80,83,84,85,86,87,88,89,99,100,101,102,103,104,105,108,110,112,113,114,115,116,117,118,119,120,121,122,123,124,125,126,128,129,131,132,133,134,135,136,137,138,139,140,143,144,146,147,148,149,150,151,152,153,156,157,158,159,160,161,162] Try.f144 = some F144 := by kernel_rfl
theorem f144_at : Try.prog.funcs[144]? = some Try.f144 := by kernel_rfl
theorem f144_fn : okFn Try.prog 144 = true := by kernel_rfl

def k105_0 : List AO := [o1 2 (.mv (.k (.c (c32 0))))]
def k105_1 : List AO := [o1 3 (.mv (.t 0)), o1 4 (.callp 144 [(.k (.c (c32 0))), (.t 3)]), o1 2 (.mv (.t 4))]
def k105 : AC := (.seq (.reg k105_0) (.seq (.reg k105_1) .ret))
def F105 : AFn := ⟨1, 5, k105, [(.t 2)]⟩
theorem F105_ok : cfn Try.prog [26,27,28,29,32,34,36,37,38,39,41,42,50,51,52,53,54,55,56,57,58,59,60,61,62,63,64,65,66,67,68,69,70,71,72,73,74,75,76,77,78,79,80,83,84,85,86,87,88,89,99,100,101,102,103,104,105,108,110,112,113,114,115,116,117,118,119,120,121,122,123,124,125,126,128,129,131,132,133,134,135,136,137,138,139,140,143,144,146,147,148,149,150,151,152,153,156,157,158,159,160,161,162] Try.f105 = some F105 := by kernel_rfl
theorem f105_at : Try.prog.funcs[105]? = some Try.f105 := by kernel_rfl
theorem f105_fn : okFn Try.prog 105 = true := by kernel_rfl

def k159_0 : List AO := [o1 2 (.mv (.k (.c (c32 0))))]
def k159_1 : List AO := [o1 3 (.mv (.t 0)), o1 4 (.ari .rem (.t 3) (.k (.c (c32 2)))), o1 5 (.cmp .eq (.t 4) (.k (.c (c32 1))))]
def k159_2 : List AO := [o1 6 (.mv (.t 0)), o1 7 (.ari .quo (.t 6) (.k (.c (c32 2)))), o1 8 (.ari .xor (.t 7) (.k (.c (c32 3988292384)))), o1 2 (.mv (.t 8))]
def k159_3 : List AO := [o1 9 (.mv (.t 0)), o1 10 (.ari .quo (.t 9) (.k (.c (c32 2)))), o1 2 (.mv (.t 10))]
def k159 : AC := (.seq (.reg k159_0) (.seq (.seq (.reg k159_1) (.cond (.t 5) (.seq (.reg k159_2) .ret) .skip)) (.seq (.reg k159_3) .ret)))
def F159 : AFn := ⟨1, 11, k159, [(.t 2)]⟩
theorem F159_ok : cfn Try.prog [26,27,28,29,32,34,36,37,38,39,41,42,50,51,52,53,54,55,56,57,58,59,60,61,62,63,64,65,66,67,68,69,70,71,72,73,74,75,76,77,78,79,80,83,84,85,86,87,88,89,99,100,101,102,103,104,105,108,110,112,113,114,115,116,117,118,119,120,121,122,123,124,125,126,128,129,131,132,133,134,135,136,137,138,139,140,143,144,146,147,148,149,150,151,152,153,156,157,158,159,160,161,162] Try.f159 = some F159 := by kernel_rfl
theorem f159_at : Try.prog.funcs[159]? = some Try.f159 := by kernel_rfl
theorem f159_fn : okFn Try.prog 159 = true := by kernel_rfl

def k149_0 : List AO := [o1 4 (.mv (.k (.c (c32 0))))]
def k149_1 : List AO := [o1 8 (.mv (.t 0)), o1 9 (.ari .sub (.k (.c (c32 4294967295))) (.t 8)), o1 5 (.mv (.t 9))]
def k149_2 : List AO := [o1 6 (.mv (.k (.c (.p (.int .i64 0)))))]
def k149_3 : List AO := [o1 10 (.mv (.t 6)), o1 11 (.mv (.t 1)), o1 12 (.lns (.t 11)), o1 13 (.cmp .lt (.t 10) (.t 12))]
def k149_4 : List AO := [o1 16 (.mv (.t 5)), o1 17 (.mv (.t 1)), o1 18 (.mv (.t 6)), o1 19 (.ix (.t 17) (.t 18)), o1 20 (.cvi .u32 (.t 19)), o1 21 (.ari .xor (.t 16) (.t 20)), o1 5 (.mv (.t 21))]
def k149_5 : List AO := [o1 7 (.mv (.k (.c (.p (.int .i64 0)))))]
def k149_6 : List AO := [o1 22 (.mv (.t 7)), o1 23 (.cmp .lt (.t 22) (.k (.c (.p (.int .i64 8)))))]
def k149_7 : List AO := [o1 26 (.mv (.t 5)), o1 27 (.callp 159 [(.t 26)]), o1 5 (.mv (.t 27))]
def k149_8 : List AO := [o1 24 (.mv (.t 7)), o1 25 (.ari .add (.t 24) (.k (.c (.p (.int .i64 1))))), o1 7 (.mv (.t 25))]
def k149_9 : List AO := [o1 14 (.mv (.t 6)), o1 15 (.ari .add (.t 14) (.k (.c (.p (.int .i64 1))))), o1 6 (.mv (.t 15))]
def k149_10 : List AO := [o1 28 (.mv (.t 5)), o1 29 (.ari .sub (.k (.c (c32 4294967295))) (.t 28)), o1 4 (.mv (.t 29))]
def k149 : AC := (.seq (.reg k149_0) (.seq (.reg k149_1) (.seq (.seq (.reg k149_2) (.block 0 (.loop (.seq (.seq (.reg k149_3) (.cond (.t 13) .skip (.exit 0))) (.seq (.block 1 (.seq (.reg k149_4) (.seq (.reg k149_5) (.block 2 (.loop (.seq (.seq (.reg k149_6) (.cond (.t 23) .skip (.exit 2))) (.seq (.block 3 (.reg k149_7)) (.reg k149_8)))))))) (.reg k149_9)))))) (.seq (.reg k149_10) .ret))))
def F149 : AFn := ⟨2, 30, k149, [(.t 4)]⟩
theorem F149_ok : cfn Try.prog [26,27,28,29,32,34,36,37,38,39,41,42,50,51,52,53,54,55,56,57,58,59,60,61,62,63,64,65,66,67,68,69,70,71,72,73,74,75,76,77,78,79,80,83,84,85,86,87,88,89,99,100,101,102,103,104,105,108,110,112,113,114,115,116,117,118,119,120,121,122,123,124,125,126,128,129,131,132,133,134,135,136,137,138,139,140,143,144,146,147,148,149,150,151,152,153,156,157,158,159,160,161,162] Try.f149 = some F149 := by kernel_rfl
theorem f149_at : Try.prog.funcs[149]? = some Try.f149 := by kernel_rfl
theorem f149_fn : okFn Try.prog 149 = true := by kernel_rfl

def k124_0 : List AO := [o1 2 (.mv (.k (.c (c32 0))))]
def k124_1 : List AO := [o1 3 (.mv (.t 0)), o1 4 (.callp 149 [(.k (.c (c32 0))), (.t 3)]), o1 2 (.mv (.t 4))]
def k124 : AC := (.seq (.reg k124_0) (.seq (.reg k124_1) .ret))
def F124 : AFn := ⟨1, 5, k124, [(.t 2)]⟩
theorem F124_ok : cfn Try.prog [26,27,28,29,32,34,36,37,38,39,41,42,50,51,52,53,54,55,56,57,58,59,60,61,62,63,64,65,66,67,68,69,70,71,72,73,74,75,76,77,78,79,80,83,84,85,86,87,88,89,99,100,101,102,103,104,105,108,110,112,113,114,115,116,117,118,119,120,121,122,123,124,125,126,128,129,131,132,133,134,135,136,137,138,139,140,143,144,146,147,148,149,150,151,152,153,156,157,158,159,160,161,162] Try.f124 = some F124 := by kernel_rfl
theorem f124_at : Try.prog.funcs[124]? = some Try.f124 := by kernel_rfl
theorem f124_fn : okFn Try.prog 124 = true := by kernel_rfl

end Go.Eng
