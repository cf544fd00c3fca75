/-
  The small machine's code of functions of the program, as a program of mine printed it; each is checked against the loaded function.
-/
import Derived.Test.YtmnmbpcbfmhceaaEng25
import Derived.Test.YtmnmbpcbfmhceaaProg
set_option linter.unusedVariables false
namespace Go.Eng
open Go.Proofs

def k118_0 : List AO := [o1 8 (.al (rep 224 (b8 0)))]
def k118_1 : List AO := [o1 14 (.mv (.t 0)), o1 15 (.bs 1 1 5 [(b8 0)] [(0, (.t 14))]), o1 16 (.cvs (.t 15)), o1 17 (.mv (.t 1)), o1 18 (.cvi .u64 (.t 17)), o1 19 (.callp 119 [(.t 18), (.k (.c (.p (.int .i64 2))))]), o1 20 (.ari .add (.t 16) (.t 19)), o1 9 (.mv (.t 20))]
def k118_2 : List AO := [o1 21 (.mv (.t 2)), o1 22 (.callp 119 [(.t 21), (.k (.c (.p (.int .i64 8))))]), o1 23 (.mv (.t 3)), o1 24 (.ari .add (.t 22) (.t 23)), o1 10 (.mv (.t 24))]
def k118_3 : List AO := [o1 25 (.mv (.t 10)), o1 26 (.lns (.t 25)), o1 27 (.cmp .lt (.t 26) (.k (.c (.p (.int .i64 217)))))]
def k118_4 : List AO := [o1 28 (.mv (.t 10)), o1 29 (.ari .add (.t 28) (.k (.c (.p (.string (str [0])))))), o1 10 (.mv (.t 29))]
def k118_5 : List AO := [o1 30 (.mv (.t 9)), o1 31 (.mv (.t 9)), o1 32 (.ari .add (.t 31) (.k (.c (.p (.string (str [0, 0, 0, 0])))))), o1 33 (.mv (.t 10)), o1 34 (.ari .add (.t 32) (.t 33)), o1 35 (.callp 124 [(.t 34)]), o1 36 (.cvi .u64 (.t 35)), o1 37 (.callp 119 [(.t 36), (.k (.c (.p (.int .i64 4))))]), o1 38 (.ari .add (.t 30) (.t 37)), o1 39 (.mv (.t 10)), o1 40 (.ari .add (.t 38) (.t 39)), o1 11 (.mv (.t 40))]
def k118_6 : List AO := [o1 12 (.al (rep 224 (b8 0)))]
def k118_7 : List AO := [o1 13 (.mv (.k (.c (.p (.int .i64 0)))))]
def k118_8 : List AO := [o1 41 (.mv (.t 13)), o1 42 (.cmp .lt (.t 41) (.k (.c (.p (.int .i64 224)))))]
def k118_9 : List AO := [o1 45 (.mv (.t 13)), o1 46 (.mv (.t 11)), o1 47 (.mv (.t 13)), o1 48 (.ix (.t 46) (.t 47)), o1 49 (.ia 224 1 (.t 12) (.t 45)), o0 (.st 1 (.t 49) (.t 48))]
def k118_10 : List AO := [o1 43 (.mv (.t 13)), o1 44 (.ari .add (.t 43) (.k (.c (.p (.int .i64 1))))), o1 13 (.mv (.t 44))]
def k118_11 : List AO := [o1 50 (.ld (some 224) (.t 12)), o0 (.st 224 (.t 8) (.t 50))]
def k118 : AC := (.seq (.reg k118_0) (.seq (.reg k118_1) (.seq (.reg k118_2) (.seq (.block 0 (.loop (.seq (.seq (.reg k118_3) (.cond (.t 27) .skip (.exit 0))) (.block 1 (.reg k118_4))))) (.seq (.reg k118_5) (.seq (.reg k118_6) (.seq (.seq (.reg k118_7) (.block 2 (.loop (.seq (.seq (.reg k118_8) (.cond (.t 42) .skip (.exit 2))) (.seq (.block 3 (.reg k118_9)) (.reg k118_10)))))) (.seq (.reg k118_11) .ret))))))))
def F118 : AFn := ⟨4, 51, k118, [(.c 8 (some 224))]⟩
theorem F118_ok : cfn Try.prog [26,27,28,29,32,34,36,37,38,39,41,42,50,51,52,53,54,55,56,57,58,59,60,61,62,63,64,65,66,67,68,69,70,71,72,73,74,75,76,77,78,79,80,83,84,85,86,87,88,89,99,100,101,102,103,104,105,108,110,112,113,114,115,116,117,118,119,120,121,122,123,124,125,126,128,129,131,132,133,134,135,136,137,138,139,140,143,144,146,147,148,149,150,151,152,153,156,157,158,159,160,161,162] Try.f118 = some F118 := by kernel_rfl
theorem f118_at : Try.prog.funcs[118]? = some Try.f118 := by kernel_rfl
theorem f118_fn : okFn Try.prog 118 = true := by kernel_rfl

def k56_0 : List AO := [o1 3 (.bx 68 (.t 1)), o1 4 (.al (rep 224 (b8 0)))]
def k56_1 : List AO := [o1 5 (.mv (.t 0)), o1 6 (.fa 0 1 (.t 3)), o1 7 (.ld none (.t 6)), o1 8 (.fa 1 1 (.t 3)), o1 9 (.ld none (.t 8)), o1 10 (.cvi .u64 (.t 9)), o1 11 (.callp 119 [(.t 10), (.k (.c (.p (.int .i64 4))))]), o1 12 (.fa 2 2 (.t 3)), o1 13 (.fa 0 1 (.t 12)), o1 14 (.ld none (.t 13)), o1 15 (.cvi .u64 (.t 14)), o1 16 (.callp 119 [(.t 15), (.k (.c (.p (.int .i64 2))))]), o1 17 (.ari .add (.t 11) (.t 16)), o1 18 (.fa 2 2 (.t 3)), o1 19 (.fa 1 1 (.t 18)), o1 20 (.ld none (.t 19)), o1 21 (.bs 1 1 5 [(b8 0)] [(0, (.t 20))]), o1 22 (.cvs (.t 21)), o1 23 (.ari .add (.t 17) (.t 22)), o1 24 (.fa 4 64 (.t 3)), o1 25 (.sla 64 1 (.t 24) none none), o1 26 (.cvs (.t 25)), o1 27 (.ari .add (.t 23) (.t 26)), o1 28 (.callp 118 [(.k (.c (b8 1))), (.t 5), (.t 7), (.t 27)]), o0 (.st 224 (.t 4) (.t 28))]
def k56 : AC := (.seq (.reg k56_0) (.seq (.reg k56_1) .ret))
def F56 : AFn := ⟨2, 29, k56, [(.c 4 (some 224))]⟩
theorem F56_ok : cfn Try.prog [26,27,28,29,32,34,36,37,38,39,41,42,50,51,52,53,54,55,56,57,58,59,60,61,62,63,64,65,66,67,68,69,70,71,72,73,74,75,76,77,78,79,80,83,84,85,86,87,88,89,99,100,101,102,103,104,105,108,110,112,113,114,115,116,117,118,119,120,121,122,123,124,125,126,128,129,131,132,133,134,135,136,137,138,139,140,143,144,146,147,148,149,150,151,152,153,156,157,158,159,160,161,162] Try.f56 = some F56 := by kernel_rfl
theorem f56_at : Try.prog.funcs[56]? = some Try.f56 := by kernel_rfl
theorem f56_fn : okFn Try.prog 56 = true := by kernel_rfl

def k116_0 : List AO := [o1 3 (.bx 224 (.t 0)), o1 6 (.mv (.k (.c (c64 0))))]
def k116_1 : List AO := [o1 10 (.sla 224 1 (.t 3) none none), o1 11 (.cvs (.t 10)), o1 12 (.mv (.t 1)), o1 13 (.mv (.t 2)), o1 14 (.callp 131 [(.t 11), (.t 12), (.t 13)]), o1 9 (.mv (.t 14)), o1 15 (.ex 0 (.t 9)), o1 16 (.ex 1 (.t 9)), o1 7 (.mv (.t 15)), o1 8 (.mv (.t 16))]
def k116_2 : List AO := [o1 17 (.mv (.t 7)), o1 6 (.mv (.t 17))]
def k116 : AC := (.seq (.reg k116_0) (.seq (.reg k116_1) (.seq (.reg k116_2) .ret)))
def F116 : AFn := ⟨3, 18, k116, [(.t 6)]⟩
theorem F116_ok : cfn Try.prog [26,27,28,29,32,34,36,37,38,39,41,42,50,51,52,53,54,55,56,57,58,59,60,61,62,63,64,65,66,67,68,69,70,71,72,73,74,75,76,77,78,79,80,83,84,85,86,87,88,89,99,100,101,102,103,104,105,108,110,112,113,114,115,116,117,118,119,120,121,122,123,124,125,126,128,129,131,132,133,134,135,136,137,138,139,140,143,144,146,147,148,149,150,151,152,153,156,157,158,159,160,161,162] Try.f116 = some F116 := by kernel_rfl
theorem f116_at : Try.prog.funcs[116]? = some Try.f116 := by kernel_rfl
theorem f116_fn : okFn Try.prog 116 = true := by kernel_rfl

def k58_0 : List AO := [o1 1 (.bx 224 (.t 0)), o1 2 (.mv (.k (.c (c64 0))))]
def k58_1 : List AO := [o1 3 (.ld (some 224) (.t 1)), o1 4 (.callp 116 [(.t 3), (.k (.c (.p (.int .i64 7)))), (.k (.c (.p (.int .i64 8))))]), o1 2 (.mv (.t 4))]
def k58 : AC := (.seq (.reg k58_0) (.seq (.reg k58_1) .ret))
def F58 : AFn := ⟨1, 5, k58, [(.t 2)]⟩
theorem F58_ok : cfn Try.prog [26,27,28,29,32,34,36,37,38,39,41,42,50,51,52,53,54,55,56,57,58,59,60,61,62,63,64,65,66,67,68,69,70,71,72,73,74,75,76,77,78,79,80,83,84,85,86,87,88,89,99,100,101,102,103,104,105,108,110,112,113,114,115,116,117,118,119,120,121,122,123,124,125,126,128,129,131,132,133,134,135,136,137,138,139,140,143,144,146,147,148,149,150,151,152,153,156,157,158,159,160,161,162] Try.f58 = some F58 := by kernel_rfl
theorem f58_at : Try.prog.funcs[58]? = some Try.f58 := by kernel_rfl
theorem f58_fn : okFn Try.prog 58 = true := by kernel_rfl

def k54_0 : List AO := [o1 3 (.bx 224 (.t 1)), o1 4 (.al ([(c64 0), (c32 0), (c16 0)] ++ rep 65 (b8 0))), o1 5 (.mv (.k (.c (.p (.bool false)))))]
def k54_1 : List AO := [o1 8 (.ld (some 224) (.t 3)), o1 9 (.callp 58 [(.t 8)]), o1 10 (.ld (some 224) (.t 3)), o1 11 (.callp 116 [(.t 10), (.k (.c (.p (.int .i64 15)))), (.k (.c (.p (.int .i64 4))))]), o1 12 (.cvi .u32 (.t 11)), o1 13 (.ld (some 224) (.t 3)), o1 14 (.callp 116 [(.t 13), (.k (.c (.p (.int .i64 19)))), (.k (.c (.p (.int .i64 2))))]), o1 15 (.cvi .u16 (.t 14)), o1 16 (.ia 224 1 (.t 3) (.k (.c (.p (.int .i64 21))))), o1 17 (.ld none (.t 16)), o1 18 (.bd [(c16 0), (b8 0)] [(0, (1, (.t 15))), (1, (1, (.t 17)))]), o1 19 (.bd ([(c64 0), (c32 0), (c16 0)] ++ rep 65 (b8 0)) [(0, (1, (.t 9))), (1, (1, (.t 12))), (2, (2, (.t 18)))]), o1 6 (.al ([(c64 0), (c32 0), (c16 0)] ++ rep 65 (b8 0))), o0 (.st 68 (.t 6) (.t 19))]
def k54_2 : List AO := [o1 7 (.mv (.k (.c (.p (.int .i64 0)))))]
def k54_3 : List AO := [o1 20 (.mv (.t 7)), o1 21 (.cmp .lt (.t 20) (.k (.c (.p (.int .i64 64)))))]
def k54_4 : List AO := [o1 24 (.mv (.t 7)), o1 25 (.mv (.t 7)), o1 26 (.ari .add (.k (.c (.p (.int .i64 22)))) (.t 25)), o1 27 (.ia 224 1 (.t 3) (.t 26)), o1 28 (.ld none (.t 27)), o1 29 (.fa 4 64 (.t 6)), o1 30 (.ia 64 1 (.t 29) (.t 24)), o0 (.st 1 (.t 30) (.t 28))]
def k54_5 : List AO := [o1 22 (.mv (.t 7)), o1 23 (.ari .add (.t 22) (.k (.c (.p (.int .i64 1))))), o1 7 (.mv (.t 23))]
def k54_6 : List AO := [o1 31 (.mv (.t 0)), o1 32 (.ld (some 68) (.t 6)), o1 33 (.callp 56 [(.t 31), (.t 32)]), o1 34 (.ld (some 224) (.t 3)), o1 35 (.eqg true [(224, (.i .u8))] (.t 33) (.t 34))]
def k54_7 : List AO := [o1 36 (.bd ([(c64 0), (c32 0), (c16 0)] ++ rep 65 (b8 0)) []), o0 (.st 68 (.t 4) (.t 36)), o1 5 (.mv (.k (.c (.p (.bool false)))))]
def k54_8 : List AO := [o1 37 (.ld (some 68) (.t 6)), o0 (.st 68 (.t 4) (.t 37)), o1 5 (.mv (.k (.c (.p (.bool true)))))]
def k54 : AC := (.seq (.reg k54_0) (.seq (.reg k54_1) (.seq (.seq (.reg k54_2) (.block 0 (.loop (.seq (.seq (.reg k54_3) (.cond (.t 21) .skip (.exit 0))) (.seq (.block 1 (.reg k54_4)) (.reg k54_5)))))) (.seq (.seq (.reg k54_6) (.cond (.t 35) (.seq (.reg k54_7) .ret) .skip)) (.seq (.reg k54_8) .ret)))))
def F54 : AFn := ⟨2, 38, k54, [(.c 4 (some 68)), (.t 5)]⟩
theorem F54_ok : cfn Try.prog [26,27,28,29,32,34,36,37,38,39,41,42,50,51,52,53,54,55,56,57,58,59,60,61,62,63,64,65,66,67,68,69,70,71,72,73,74,75,76,77,78,79,80,83,84,85,86,87,88,89,99,100,101,102,103,104,105,108,110,112,113,114,115,116,117,118,119,120,121,122,123,124,125,126,128,129,131,132,133,134,135,136,137,138,139,140,143,144,146,147,148,149,150,151,152,153,156,157,158,159,160,161,162] Try.f54 = some F54 := by kernel_rfl
theorem f54_at : Try.prog.funcs[54]? = some Try.f54 := by kernel_rfl
theorem f54_fn : okFn Try.prog 54 = true := by kernel_rfl

def k121_0 : List AO := [o1 1 (.bx 2 (.t 0)), o1 2 (.mv (.k (.c (.p (.string (str []))))))]
def k121_1 : List AO := [o1 6 (.fa 1 1 (.t 1)), o1 7 (.ld none (.t 6)), o1 8 (.ln (.t 7)), o1 9 (.cvi .u8 (.t 8)), o1 10 (.bs 1 1 5 [(b8 0)] [(0, (.t 9))]), o1 11 (.cvs (.t 10)), o1 3 (.mv (.t 11))]
def k121_2 : List AO := [o1 12 (.fa 1 1 (.t 1)), o1 13 (.ld none (.t 12)), o1 14 (.ln (.t 13)), o1 15 (.mv (.k (.c (.p (.int .i64 0)))))]
def k121_3 : List AO := [o1 16 (.cmp .lt (.t 15) (.t 14))]
def k121_4 : List AO := [o1 17 (.is 6 (.t 13) (.t 15)), o1 18 (.ld (some 6) (.t 17)), o1 5 (.al [(.p (.bool false)), (c16 0), (c32 0), (c16 0), (b8 0), (.p (.string (str [])))]), o0 (.st 6 (.t 5) (.t 18))]
def k121_5 : List AO := [o1 19 (.fa 0 1 (.t 5)), o1 20 (.ld none (.t 19))]
def k121_6 : List AO := [o1 21 (.mv (.t 3)), o1 22 (.fa 1 1 (.t 5)), o1 23 (.ld none (.t 22)), o1 24 (.cvi .u64 (.t 23)), o1 25 (.callp 119 [(.t 24), (.k (.c (.p (.int .i64 2))))]), o1 26 (.ari .add (.k (.c (.p (.string (str [1]))))) (.t 25)), o1 27 (.fa 2 1 (.t 5)), o1 28 (.ld none (.t 27)), o1 29 (.cvi .u64 (.t 28)), o1 30 (.callp 119 [(.t 29), (.k (.c (.p (.int .i64 4))))]), o1 31 (.ari .add (.t 26) (.t 30)), o1 32 (.fa 3 2 (.t 5)), o1 33 (.fa 0 1 (.t 32)), o1 34 (.ld none (.t 33)), o1 35 (.cvi .u64 (.t 34)), o1 36 (.callp 119 [(.t 35), (.k (.c (.p (.int .i64 2))))]), o1 37 (.ari .add (.t 31) (.t 36)), o1 38 (.fa 3 2 (.t 5)), o1 39 (.fa 1 1 (.t 38)), o1 40 (.ld none (.t 39)), o1 41 (.fa 5 1 (.t 5)), o1 42 (.ld none (.t 41)), o1 43 (.lns (.t 42)), o1 44 (.cvi .u8 (.t 43)), o1 45 (.bs 1 2 5 [(b8 0)] [(0, (.t 40)), (1, (.t 44))]), o1 46 (.cvs (.t 45)), o1 47 (.ari .add (.t 37) (.t 46)), o1 48 (.fa 5 1 (.t 5)), o1 49 (.ld none (.t 48)), o1 50 (.ari .add (.t 47) (.t 49)), o1 51 (.ari .add (.t 21) (.t 50)), o1 3 (.mv (.t 51))]
def k121_7 : List AO := [o1 52 (.mv (.t 3)), o1 53 (.ari .add (.t 52) (.k (.c (.p (.string (str [0])))))), o1 3 (.mv (.t 53))]
def k121_8 : List AO := [o1 54 (.ari .add (.t 15) (.k (.c (.p (.int .i64 1))))), o1 15 (.mv (.t 54))]
def k121_9 : List AO := [o1 55 (.mv (.t 3)), o1 2 (.mv (.t 55))]
def k121 : AC := (.seq (.reg k121_0) (.seq (.reg k121_1) (.seq (.seq (.reg k121_2) (.block 0 (.loop (.seq (.reg k121_3) (.seq (.cond (.t 16) .skip (.exit 0)) (.seq (.block 1 (.seq (.reg k121_4) (.seq (.reg k121_5) (.cond (.t 20) (.reg k121_6) (.reg k121_7))))) (.reg k121_8))))))) (.seq (.reg k121_9) .ret))))
def F121 : AFn := ⟨1, 56, k121, [(.t 2)]⟩
theorem F121_ok : cfn Try.prog [26,27,28,29,32,34,36,37,38,39,41,42,50,51,52,53,54,55,56,57,58,59,60,61,62,63,64,65,66,67,68,69,70,71,72,73,74,75,76,77,78,79,80,83,84,85,86,87,88,89,99,100,101,102,103,104,105,108,110,112,113,114,115,116,117,118,119,120,121,122,123,124,125,126,128,129,131,132,133,134,135,136,137,138,139,140,143,144,146,147,148,149,150,151,152,153,156,157,158,159,160,161,162] Try.f121 = some F121 := by kernel_rfl
theorem f121_at : Try.prog.funcs[121]? = some Try.f121 := by kernel_rfl
theorem f121_fn : okFn Try.prog 121 = true := by kernel_rfl

def k67_0 : List AO := [o1 1 (.bx 2 (.t 0)), o1 2 (.mv (.k (.c (.p (.int .i64 0)))))]
def k67_1 : List AO := [o1 3 (.ld (some 2) (.t 1)), o1 4 (.callp 121 [(.t 3)]), o1 5 (.lns (.t 4)), o1 6 (.ari .add (.k (.c (.p (.int .i64 15)))) (.t 5)), o1 2 (.mv (.t 6))]
def k67 : AC := (.seq (.reg k67_0) (.seq (.reg k67_1) .ret))
def F67 : AFn := ⟨1, 7, k67, [(.t 2)]⟩
theorem F67_ok : cfn Try.prog [26,27,28,29,32,34,36,37,38,39,41,42,50,51,52,53,54,55,56,57,58,59,60,61,62,63,64,65,66,67,68,69,70,71,72,73,74,75,76,77,78,79,80,83,84,85,86,87,88,89,99,100,101,102,103,104,105,108,110,112,113,114,115,116,117,118,119,120,121,122,123,124,125,126,128,129,131,132,133,134,135,136,137,138,139,140,143,144,146,147,148,149,150,151,152,153,156,157,158,159,160,161,162] Try.f67 = some F67 := by kernel_rfl
theorem f67_at : Try.prog.funcs[67]? = some Try.f67 := by kernel_rfl
theorem f67_fn : okFn Try.prog 67 = true := by kernel_rfl

def k120_0 : List AO := [o1 1 (.bx 2 (.t 0)), o1 2 (.mv (.k (.c (.p (.bool false)))))]
def k120_1 : List AO := [o1 6 (.fa 1 1 (.t 1)), o1 7 (.ld none (.t 6)), o1 8 (.ln (.t 7)), o1 3 (.mv (.t 8))]
def k120_2 : List AO := [o1 9 (.mv (.t 3)), o1 10 (.cmp .gt (.t 9) (.k (.c (.p (.int .i64 15)))))]
def k120_3 : List AO := [o1 2 (.mv (.k (.c (.p (.bool false)))))]
def k120_4 : List AO := [o1 4 (.mv (.k (.c (.p (.int .i64 0)))))]
def k120_5 : List AO := [o1 11 (.mv (.t 4)), o1 12 (.mv (.t 3)), o1 13 (.cmp .lt (.t 11) (.t 12))]
def k120_6 : List AO := [o1 16 (.fa 1 1 (.t 1)), o1 17 (.ld none (.t 16)), o1 18 (.mv (.t 4)), o1 19 (.is 6 (.t 17) (.t 18)), o1 20 (.ld (some 6) (.t 19)), o1 5 (.al [(.p (.bool false)), (c16 0), (c32 0), (c16 0), (b8 0), (.p (.string (str [])))]), o0 (.st 6 (.t 5) (.t 20))]
def k120_7 : List AO := [o1 21 (.fa 0 1 (.t 5)), o1 22 (.ld none (.t 21)), o1 23 (.not (.t 22)), o1 24 (.mv (.t 23)), og 25 24 true (.mv (.t 4)), og 26 24 true (.mv (.t 3)), og 27 24 true (.ari .sub (.t 26) (.k (.c (.p (.int .i64 1))))), og 28 24 true (.cmp .eq (.t 25) (.t 27)), og 29 24 true (.mv (.t 28)), og 30 29 false (.ld (some 6) (.t 5)), og 31 29 false (.bd [(.p (.bool false)), (c16 0), (c32 0), (c16 0), (b8 0), (.p (.string (str [])))] []), og 32 29 false (.eqg true [(1, .b), (1, (.i .u16)), (1, (.i .u32)), (1, (.i .u16)), (1, (.i .u8)), (1, .s)] (.t 30) (.t 31)), og 33 24 true (.pk (.t 29) (.k (.c (.p (.bool true)))) (.t 32)), o1 34 (.pk (.t 24) (.t 33) (.k (.c (.p (.bool false))))), o1 35 (.mv (.t 34)), og 36 35 false (.fa 5 1 (.t 5)), og 37 35 false (.ld none (.t 36)), og 38 35 false (.lns (.t 37)), og 39 35 false (.cmp .gt (.t 38) (.k (.c (.p (.int .i64 66))))), o1 40 (.pk (.t 35) (.k (.c (.p (.bool true)))) (.t 39))]
def k120_8 : List AO := [o1 2 (.mv (.k (.c (.p (.bool false)))))]
def k120_9 : List AO := [o1 14 (.mv (.t 4)), o1 15 (.ari .add (.t 14) (.k (.c (.p (.int .i64 1))))), o1 4 (.mv (.t 15))]
def k120_10 : List AO := [o1 41 (.ld (some 2) (.t 1)), o1 42 (.callp 67 [(.t 41)]), o1 43 (.cmp .le (.t 42) (.k (.c (.p (.int .i64 224))))), o1 2 (.mv (.t 43))]
def k120 : AC := (.seq (.reg k120_0) (.seq (.reg k120_1) (.seq (.seq (.reg k120_2) (.cond (.t 10) (.seq (.reg k120_3) .ret) .skip)) (.seq (.seq (.reg k120_4) (.block 0 (.loop (.seq (.seq (.reg k120_5) (.cond (.t 13) .skip (.exit 0))) (.seq (.block 1 (.seq (.reg k120_6) (.seq (.reg k120_7) (.cond (.t 40) (.seq (.reg k120_8) .ret) .skip)))) (.reg k120_9)))))) (.seq (.reg k120_10) .ret)))))
def F120 : AFn := ⟨1, 44, k120, [(.t 2)]⟩
theorem F120_ok : cfn Try.prog [26,27,28,29,32,34,36,37,38,39,41,42,50,51,52,53,54,55,56,57,58,59,60,61,62,63,64,65,66,67,68,69,70,71,72,73,74,75,76,77,78,79,80,83,84,85,86,87,88,89,99,100,101,102,103,104,105,108,110,112,113,114,115,116,117,118,119,120,121,122,123,124,125,126,128,129,131,132,133,134,135,136,137,138,139,140,143,144,146,147,148,149,150,151,152,153,156,157,158,159,160,161,162] Try.f120 = some F120 := by kernel_rfl
theorem f120_at : Try.prog.funcs[120]? = some Try.f120 := by kernel_rfl
theorem f120_fn : okFn Try.prog 120 = true := by kernel_rfl

def k62_0 : List AO := [o1 3 (.bx 2 (.t 1)), o1 4 (.al (rep 224 (b8 0))), o1 5 (.mv (.k (.c (.p (.bool false)))))]
def k62_1 : List AO := [o1 6 (.ld (some 2) (.t 3)), o1 7 (.callp 120 [(.t 6)]), o1 8 (.not (.t 7))]
def k62_2 : List AO := [o1 9 (.bd (rep 224 (b8 0)) []), o0 (.st 224 (.t 4) (.t 9)), o1 5 (.mv (.k (.c (.p (.bool false)))))]
def k62_3 : List AO := [o1 10 (.mv (.t 0)), o1 11 (.fa 0 1 (.t 3)), o1 12 (.ld none (.t 11)), o1 13 (.ld (some 2) (.t 3)), o1 14 (.callp 121 [(.t 13)]), o1 15 (.callp 118 [(.k (.c (b8 2))), (.t 10), (.t 12), (.t 14)]), o0 (.st 224 (.t 4) (.t 15)), o1 5 (.mv (.k (.c (.p (.bool true)))))]
def k62 : AC := (.seq (.reg k62_0) (.seq (.seq (.reg k62_1) (.cond (.t 8) (.seq (.reg k62_2) .ret) .skip)) (.seq (.reg k62_3) .ret)))
def F62 : AFn := ⟨2, 16, k62, [(.c 4 (some 224)), (.t 5)]⟩
theorem F62_ok : cfn Try.prog [26,27,28,29,32,34,36,37,38,39,41,42,50,51,52,53,54,55,56,57,58,59,60,61,62,63,64,65,66,67,68,69,70,71,72,73,74,75,76,77,78,79,80,83,84,85,86,87,88,89,99,100,101,102,103,104,105,108,110,112,113,114,115,116,117,118,119,120,121,122,123,124,125,126,128,129,131,132,133,134,135,136,137,138,139,140,143,144,146,147,148,149,150,151,152,153,156,157,158,159,160,161,162] Try.f62 = some F62 := by kernel_rfl
theorem f62_at : Try.prog.funcs[62]? = some Try.f62 := by kernel_rfl
theorem f62_fn : okFn Try.prog 62 = true := by kernel_rfl

def k64_0 : List AO := [o1 3 (.bx 224 (.t 1)), o1 4 (.al [(c64 0), (.z 143)]), o1 5 (.mv (.k (.c (.p (.bool false)))))]
def k64_1 : List AO := [o1 13 (.ld (some 224) (.t 3)), o1 14 (.callp 58 [(.t 13)]), o1 15 (.bd [(c64 0), (.z 143)] [(0, (1, (.t 14)))]), o1 6 (.al [(c64 0), (.z 143)]), o0 (.st 2 (.t 6) (.t 15))]
def k64_2 : List AO := [o1 7 (.mv (.k (.c (.p (.int .i64 16)))))]
def k64_3 : List AO := [o1 8 (.mv (.k (.c (.p (.int .i64 0)))))]
def k64_4 : List AO := [o1 16 (.mv (.t 8)), o1 17 (.ia 224 1 (.t 3) (.k (.c (.p (.int .i64 15))))), o1 18 (.ld none (.t 17)), o1 19 (.cvi .i64 (.t 18)), o1 20 (.cmp .lt (.t 16) (.t 19)), o1 21 (.mv (.t 20)), og 22 21 true (.mv (.t 7)), og 23 21 true (.cmp .lt (.t 22) (.k (.c (.p (.int .i64 224))))), o1 24 (.pk (.t 21) (.t 23) (.k (.c (.p (.bool false)))))]
def k64_5 : List AO := [o1 27 (.bd [(.p (.bool false)), (c16 0), (c32 0), (c16 0), (b8 0), (.p (.string (str [])))] []), o1 9 (.al [(.p (.bool false)), (c16 0), (c32 0), (c16 0), (b8 0), (.p (.string (str [])))]), o0 (.st 6 (.t 9) (.t 27))]
def k64_6 : List AO := [o1 28 (.mv (.t 7)), o1 29 (.ia 224 1 (.t 3) (.t 28)), o1 30 (.ld none (.t 29)), o1 31 (.cmp .eq (.t 30) (.k (.c (b8 1)))), o1 32 (.mv (.t 31)), og 33 32 true (.mv (.t 7)), og 34 32 true (.cmp .le (.t 33) (.k (.c (.p (.int .i64 213))))), o1 35 (.pk (.t 32) (.t 34) (.k (.c (.p (.bool false)))))]
def k64_7 : List AO := [o1 36 (.mv (.t 7)), o1 37 (.ari .add (.t 36) (.k (.c (.p (.int .i64 10))))), o1 38 (.ia 224 1 (.t 3) (.t 37)), o1 39 (.ld none (.t 38)), o1 40 (.cvi .i64 (.t 39)), o1 10 (.mv (.t 40))]
def k64_8 : List AO := [o1 41 (.ld (some 224) (.t 3)), o1 42 (.mv (.t 7)), o1 43 (.ari .add (.t 42) (.k (.c (.p (.int .i64 1))))), o1 44 (.callp 116 [(.t 41), (.t 43), (.k (.c (.p (.int .i64 2))))]), o1 45 (.cvi .u16 (.t 44)), o1 46 (.ld (some 224) (.t 3)), o1 47 (.mv (.t 7)), o1 48 (.ari .add (.t 47) (.k (.c (.p (.int .i64 3))))), o1 49 (.callp 116 [(.t 46), (.t 48), (.k (.c (.p (.int .i64 4))))]), o1 50 (.cvi .u32 (.t 49)), o1 51 (.ld (some 224) (.t 3)), o1 52 (.mv (.t 7)), o1 53 (.ari .add (.t 52) (.k (.c (.p (.int .i64 7))))), o1 54 (.callp 116 [(.t 51), (.t 53), (.k (.c (.p (.int .i64 2))))]), o1 55 (.cvi .u16 (.t 54)), o1 56 (.mv (.t 7)), o1 57 (.ari .add (.t 56) (.k (.c (.p (.int .i64 9))))), o1 58 (.ia 224 1 (.t 3) (.t 57)), o1 59 (.ld none (.t 58)), o1 60 (.bd [(c16 0), (b8 0)] [(0, (1, (.t 55))), (1, (1, (.t 59)))]), o1 61 (.bd [(.p (.bool false)), (c16 0), (c32 0), (c16 0), (b8 0), (.p (.string (str [])))] [(0, (1, (.k (.c (.p (.bool true)))))), (1, (1, (.t 45))), (2, (1, (.t 50))), (3, (2, (.t 60)))]), o0 (.st 6 (.t 9) (.t 61))]
def k64_9 : List AO := [o1 62 (.mv (.t 10)), o1 63 (.mv (.t 7)), o1 64 (.ari .sub (.k (.c (.p (.int .i64 224)))) (.t 63)), o1 65 (.ari .sub (.t 64) (.k (.c (.p (.int .i64 11))))), o1 66 (.cmp .gt (.t 62) (.t 65))]
def k64_10 : List AO := [o1 67 (.bd [(c64 0), (.z 143)] []), o0 (.st 2 (.t 4) (.t 67)), o1 5 (.mv (.k (.c (.p (.bool false)))))]
def k64_11 : List AO := [o1 68 (.mv (.t 7)), o1 69 (.ari .add (.t 68) (.k (.c (.p (.int .i64 11))))), o1 70 (.mv (.t 7)), o1 71 (.ari .add (.t 70) (.k (.c (.p (.int .i64 11))))), o1 72 (.mv (.t 10)), o1 73 (.ari .add (.t 71) (.t 72)), o1 74 (.sla 224 1 (.t 3) (some (.t 69)) (some (.t 73))), o1 75 (.cvs (.t 74)), o1 76 (.fa 5 1 (.t 9)), o0 (.st 1 (.t 76) (.t 75))]
def k64_12 : List AO := [o1 77 (.mv (.t 7)), o1 78 (.mv (.t 10)), o1 79 (.ari .add (.k (.c (.p (.int .i64 10)))) (.t 78)), o1 80 (.ari .add (.t 77) (.t 79)), o1 7 (.mv (.t 80))]
def k64_13 : List AO := [o1 81 (.mv (.t 7)), o1 82 (.ari .add (.t 81) (.k (.c (.p (.int .i64 1))))), o1 7 (.mv (.t 82))]
def k64_14 : List AO := [o1 83 (.fa 1 1 (.t 6)), o1 84 (.ld none (.t 83)), o1 85 (.ld (some 6) (.t 9)), o1 86 (.bs 6 1 143 [(.p (.bool false)), (c16 0), (c32 0), (c16 0), (b8 0), (.p (.string (str [])))] [(0, (.t 85))]), o1 87 (.ap 6 32 143 (.t 84) (.t 86)), o1 88 (.fa 1 1 (.t 6)), o0 (.st 1 (.t 88) (.t 87))]
def k64_15 : List AO := [o1 25 (.mv (.t 8)), o1 26 (.ari .add (.t 25) (.k (.c (.p (.int .i64 1))))), o1 8 (.mv (.t 26))]
def k64_16 : List AO := [o1 90 (.mv (.t 0)), o1 91 (.ld (some 2) (.t 6)), o1 92 (.callp 62 [(.t 90), (.t 91)]), o1 89 (.mv (.t 92)), o1 93 (.ex 0 (.t 89)), o1 94 (.ex 1 (.t 89)), o1 11 (.al (rep 224 (b8 0))), o0 (.st 224 (.t 11) (.t 93)), o1 12 (.mv (.t 94))]
def k64_17 : List AO := [o1 95 (.mv (.t 12)), o1 96 (.not (.t 95)), o1 97 (.mv (.t 96)), og 98 97 false (.ld (some 224) (.t 11)), og 99 97 false (.ld (some 224) (.t 3)), og 100 97 false (.eqg true [(224, (.i .u8))] (.t 98) (.t 99)), o1 101 (.pk (.t 97) (.k (.c (.p (.bool true)))) (.t 100))]
def k64_18 : List AO := [o1 102 (.bd [(c64 0), (.z 143)] []), o0 (.st 2 (.t 4) (.t 102)), o1 5 (.mv (.k (.c (.p (.bool false)))))]
def k64_19 : List AO := [o1 103 (.ld (some 2) (.t 6)), o0 (.st 2 (.t 4) (.t 103)), o1 5 (.mv (.k (.c (.p (.bool true)))))]
def k64 : AC := (.seq (.reg k64_0) (.seq (.reg k64_1) (.seq (.reg k64_2) (.seq (.seq (.reg k64_3) (.block 0 (.loop (.seq (.seq (.reg k64_4) (.cond (.t 24) .skip (.exit 0))) (.seq (.block 1 (.seq (.reg k64_5) (.seq (.seq (.reg k64_6) (.cond (.t 35) (.seq (.reg k64_7) (.seq (.reg k64_8) (.seq (.seq (.reg k64_9) (.cond (.t 66) (.seq (.reg k64_10) .ret) .skip)) (.seq (.reg k64_11) (.reg k64_12))))) .skip)) (.seq (.reg k64_13) (.reg k64_14))))) (.reg k64_15)))))) (.seq (.reg k64_16) (.seq (.seq (.reg k64_17) (.cond (.t 101) (.seq (.reg k64_18) .ret) .skip)) (.seq (.reg k64_19) .ret)))))))
def F64 : AFn := ⟨2, 104, k64, [(.c 4 (some 2)), (.t 5)]⟩
theorem F64_ok : cfn Try.prog [26,27,28,29,32,34,36,37,38,39,41,42,50,51,52,53,54,55,56,57,58,59,60,61,62,63,64,65,66,67,68,69,70,71,72,73,74,75,76,77,78,79,80,83,84,85,86,87,88,89,99,100,101,102,103,104,105,108,110,112,113,114,115,116,117,118,119,120,121,122,123,124,125,126,128,129,131,132,133,134,135,136,137,138,139,140,143,144,146,147,148,149,150,151,152,153,156,157,158,159,160,161,162] Try.f64 = some F64 := by kernel_rfl
theorem f64_at : Try.prog.funcs[64]? = some Try.f64 := by kernel_rfl
theorem f64_fn : okFn Try.prog 64 = true := by kernel_rfl

def k68_0 : List AO := [o1 2 (.bx 2 (.t 0)), o1 3 (.bx 2 (.t 1)), o1 4 (.mv (.k (.c (.p (.bool false)))))]
def k68_1 : List AO := [o1 6 (.fa 0 1 (.t 2)), o1 7 (.ld none (.t 6)), o1 8 (.fa 0 1 (.t 3)), o1 9 (.ld none (.t 8)), o1 10 (.cmp .ne (.t 7) (.t 9)), o1 11 (.mv (.t 10)), og 12 11 false (.fa 1 1 (.t 2)), og 13 11 false (.ld none (.t 12)), og 14 11 false (.ln (.t 13)), og 15 11 false (.fa 1 1 (.t 3)), og 16 11 false (.ld none (.t 15)), og 17 11 false (.ln (.t 16)), og 18 11 false (.cmp .ne (.t 14) (.t 17)), o1 19 (.pk (.t 11) (.k (.c (.p (.bool true)))) (.t 18))]
def k68_2 : List AO := [o1 4 (.mv (.k (.c (.p (.bool false)))))]
def k68_3 : List AO := [o1 20 (.fa 1 1 (.t 2)), o1 21 (.ld none (.t 20)), o1 22 (.ln (.t 21)), o1 23 (.mv (.k (.c (.p (.int .i64 0)))))]
def k68_4 : List AO := [o1 24 (.cmp .lt (.t 23) (.t 22))]
def k68_5 : List AO := [o1 25 (.mv (.t 23)), o1 5 (.mv (.t 25))]
def k68_6 : List AO := [o1 26 (.fa 1 1 (.t 2)), o1 27 (.ld none (.t 26)), o1 28 (.mv (.t 5)), o1 29 (.is 6 (.t 27) (.t 28)), o1 30 (.ld (some 6) (.t 29)), o1 31 (.fa 1 1 (.t 3)), o1 32 (.ld none (.t 31)), o1 33 (.mv (.t 5)), o1 34 (.is 6 (.t 32) (.t 33)), o1 35 (.ld (some 6) (.t 34)), o1 36 (.eqg true [(1, .b), (1, (.i .u16)), (1, (.i .u32)), (1, (.i .u16)), (1, (.i .u8)), (1, .s)] (.t 30) (.t 35))]
def k68_7 : List AO := [o1 4 (.mv (.k (.c (.p (.bool false)))))]
def k68_8 : List AO := [o1 37 (.ari .add (.t 23) (.k (.c (.p (.int .i64 1))))), o1 23 (.mv (.t 37))]
def k68_9 : List AO := [o1 4 (.mv (.k (.c (.p (.bool true)))))]
def k68 : AC := (.seq (.reg k68_0) (.seq (.seq (.reg k68_1) (.cond (.t 19) (.seq (.reg k68_2) .ret) .skip)) (.seq (.seq (.reg k68_3) (.block 0 (.loop (.seq (.reg k68_4) (.seq (.cond (.t 24) .skip (.exit 0)) (.seq (.block 1 (.seq (.reg k68_5) (.seq (.reg k68_6) (.cond (.t 36) (.seq (.reg k68_7) .ret) .skip)))) (.reg k68_8))))))) (.seq (.reg k68_9) .ret))))
def F68 : AFn := ⟨2, 38, k68, [(.t 4)]⟩
theorem F68_ok : cfn Try.prog [26,27,28,29,32,34,36,37,38,39,41,42,50,51,52,53,54,55,56,57,58,59,60,61,62,63,64,65,66,67,68,69,70,71,72,73,74,75,76,77,78,79,80,83,84,85,86,87,88,89,99,100,101,102,103,104,105,108,110,112,113,114,115,116,117,118,119,120,121,122,123,124,125,126,128,129,131,132,133,134,135,136,137,138,139,140,143,144,146,147,148,149,150,151,152,153,156,157,158,159,160,161,162] Try.f68 = some F68 := by kernel_rfl
theorem f68_at : Try.prog.funcs[68]? = some Try.f68 := by kernel_rfl
theorem f68_fn : okFn Try.prog 68 = true := by kernel_rfl

def k70_0 : List AO := [o1 1 (.bx 2 (.t 0)), o1 2 (.al (rep 224 (b8 0)))]
def k70_1 : List AO := [o1 5 (.fa 0 1 (.t 1)), o1 6 (.ld none (.t 5))]
def k70_2 : List AO := [o1 8 (.fa 1 1 (.t 1)), o1 9 (.ld none (.t 8)), o1 10 (.bd [(c64 0), (.z 143)] []), o1 11 (.callp 62 [(.t 9), (.t 10)]), o1 7 (.mv (.t 11)), o1 12 (.ex 0 (.t 7)), o1 13 (.ex 1 (.t 7)), o1 3 (.al (rep 224 (b8 0))), o0 (.st 224 (.t 3) (.t 12)), o1 4 (.mv (.t 13))]
def k70_3 : List AO := [o1 14 (.ld (some 224) (.t 3)), o0 (.st 224 (.t 2) (.t 14))]
def k70_4 : List AO := [o1 15 (.fa 1 1 (.t 1)), o1 16 (.ld none (.t 15)), o1 17 (.bd ([(c64 0), (c32 0), (c16 0)] ++ rep 65 (b8 0)) []), o1 18 (.callp 56 [(.t 16), (.t 17)]), o0 (.st 224 (.t 2) (.t 18))]
def k70 : AC := (.seq (.reg k70_0) (.seq (.seq (.reg k70_1) (.cond (.t 6) (.seq (.reg k70_2) (.seq (.reg k70_3) .ret)) .skip)) (.seq (.reg k70_4) .ret)))
def F70 : AFn := ⟨1, 19, k70, [(.c 2 (some 224))]⟩
theorem F70_ok : cfn Try.prog [26,27,28,29,32,34,36,37,38,39,41,42,50,51,52,53,54,55,56,57,58,59,60,61,62,63,64,65,66,67,68,69,70,71,72,73,74,75,76,77,78,79,80,83,84,85,86,87,88,89,99,100,101,102,103,104,105,108,110,112,113,114,115,116,117,118,119,120,121,122,123,124,125,126,128,129,131,132,133,134,135,136,137,138,139,140,143,144,146,147,148,149,150,151,152,153,156,157,158,159,160,161,162] Try.f70 = some F70 := by kernel_rfl
theorem f70_at : Try.prog.funcs[70]? = some Try.f70 := by kernel_rfl
theorem f70_fn : okFn Try.prog 70 = true := by kernel_rfl

def k72_0 : List AO := [o1 2 (.bx 2 (.t 0)), o1 3 (.bx 224 (.t 1)), o1 4 (.mv (.k (.c (.p (.bool false)))))]
def k72_1 : List AO := [o1 9 (.fa 0 1 (.t 2)), o1 10 (.ld none (.t 9))]
def k72_2 : List AO := [o1 12 (.fa 1 1 (.t 2)), o1 13 (.ld none (.t 12)), o1 14 (.ld (some 224) (.t 3)), o1 15 (.callp 64 [(.t 13), (.t 14)]), o1 11 (.mv (.t 15)), o1 16 (.ex 0 (.t 11)), o1 17 (.ex 1 (.t 11)), o1 5 (.al [(c64 0), (.z 143)]), o0 (.st 2 (.t 5) (.t 16)), o1 6 (.mv (.t 17))]
def k72_3 : List AO := [o1 18 (.mv (.t 6)), o1 4 (.mv (.t 18))]
def k72_4 : List AO := [o1 20 (.fa 1 1 (.t 2)), o1 21 (.ld none (.t 20)), o1 22 (.ld (some 224) (.t 3)), o1 23 (.callp 54 [(.t 21), (.t 22)]), o1 19 (.mv (.t 23)), o1 24 (.ex 0 (.t 19)), o1 25 (.ex 1 (.t 19)), o1 7 (.al ([(c64 0), (c32 0), (c16 0)] ++ rep 65 (b8 0))), o0 (.st 68 (.t 7) (.t 24)), o1 8 (.mv (.t 25))]
def k72_5 : List AO := [o1 26 (.mv (.t 8)), o1 4 (.mv (.t 26))]
def k72 : AC := (.seq (.reg k72_0) (.seq (.seq (.reg k72_1) (.cond (.t 10) (.seq (.reg k72_2) (.seq (.reg k72_3) .ret)) .skip)) (.seq (.reg k72_4) (.seq (.reg k72_5) .ret))))
def F72 : AFn := ⟨2, 27, k72, [(.t 4)]⟩
theorem F72_ok : cfn Try.prog [26,27,28,29,32,34,36,37,38,39,41,42,50,51,52,53,54,55,56,57,58,59,60,61,62,63,64,65,66,67,68,69,70,71,72,73,74,75,76,77,78,79,80,83,84,85,86,87,88,89,99,100,101,102,103,104,105,108,110,112,113,114,115,116,117,118,119,120,121,122,123,124,125,126,128,129,131,132,133,134,135,136,137,138,139,140,143,144,146,147,148,149,150,151,152,153,156,157,158,159,160,161,162] Try.f72 = some F72 := by kernel_rfl
theorem f72_at : Try.prog.funcs[72]? = some Try.f72 := by kernel_rfl
theorem f72_fn : okFn Try.prog 72 = true := by kernel_rfl

def k61_0 : List AO := [o1 1 (.bx 2 (.t 0)), o1 2 (.al [(c64 0), (.z 143)])]
def k61_1 : List AO := [o1 3 (.fa 0 1 (.t 1)), o1 4 (.ld none (.t 3)), o1 5 (.bs 6 0 143 [(.p (.bool false)), (c16 0), (c32 0), (c16 0), (b8 0), (.p (.string (str [])))] []), o1 6 (.fa 1 1 (.t 1)), o1 7 (.ld none (.t 6)), o1 8 (.ap 6 32 143 (.t 5) (.t 7)), o1 9 (.bd [(c64 0), (.z 143)] [(0, (1, (.t 4))), (1, (1, (.t 8)))]), o0 (.st 2 (.t 2) (.t 9))]
def k61 : AC := (.seq (.reg k61_0) (.seq (.reg k61_1) .ret))
def F61 : AFn := ⟨1, 10, k61, [(.c 2 (some 2))]⟩
theorem F61_ok : cfn Try.prog [26,27,28,29,32,34,36,37,38,39,41,42,50,51,52,53,54,55,56,57,58,59,60,61,62,63,64,65,66,67,68,69,70,71,72,73,74,75,76,77,78,79,80,83,84,85,86,87,88,89,99,100,101,102,103,104,105,108,110,112,113,114,115,116,117,118,119,120,121,122,123,124,125,126,128,129,131,132,133,134,135,136,137,138,139,140,143,144,146,147,148,149,150,151,152,153,156,157,158,159,160,161,162] Try.f61 = some F61 := by kernel_rfl
theorem f61_at : Try.prog.funcs[61]? = some Try.f61 := by kernel_rfl
theorem f61_fn : okFn Try.prog 61 = true := by kernel_rfl

end Go.Eng
