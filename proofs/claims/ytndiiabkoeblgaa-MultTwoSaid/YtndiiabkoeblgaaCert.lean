/- The primes p = 2^255 - 19 and L = 2^252 + 27742317777372353535851937790883648493: Lucas' test, down to small numbers. Made by a program (gencert.py). -/
import Derived.Test.YtndiiabkoeblgaaPr
namespace BJ
theorem p2 : IsPrime 2 := prime_small 1 (by decide) (by decide) (by decide +kernel)
theorem p3 : IsPrime 3 := prime_small 1 (by decide) (by decide) (by decide +kernel)
theorem p65147 : IsPrime 65147 := prime_small 254 (by decide) (by decide) (by decide +kernel)
theorem p353 : IsPrime 353 := prime_small 17 (by decide) (by decide) (by decide +kernel)
theorem p57467 : IsPrime 57467 := prime_small 238 (by decide) (by decide) (by decide +kernel)
theorem p7 : IsPrime 7 := prime_small 1 (by decide) (by decide) (by decide +kernel)
theorem p131 : IsPrime 131 := prime_small 10 (by decide) (by decide) (by decide +kernel)
theorem r132049 : Root 132049 26 := root_of_check (f := 18) (l := [2, 2, 2, 2, 3, 3, 7, 131]) (by simp only [List.mem_cons, List.not_mem_nil, or_false]; rintro q (rfl | rfl | rfl | rfl | rfl | rfl | rfl | rfl) <;> first | exact p2 | exact p3 | exact p7 | exact p131) (by decide +kernel)
theorem p132049 : IsPrime 132049 := r132049.prime
theorem p43 : IsPrime 43 := prime_small 5 (by decide) (by decide) (by decide +kernel)
theorem p3727 : IsPrime 3727 := prime_small 60 (by decide) (by decide) (by decide +kernel)
theorem r1923133 : Root 1923133 2 := root_of_check (f := 21) (l := [2, 2, 3, 43, 3727]) (by simp only [List.mem_cons, List.not_mem_nil, or_false]; rintro q (rfl | rfl | rfl | rfl | rfl) <;> first | exact p2 | exact p3 | exact p43 | exact p3727) (by decide +kernel)
theorem p1923133 : IsPrime 1923133 := r1923133.prime
theorem p31 : IsPrime 31 := prime_small 4 (by decide) (by decide) (by decide +kernel)
theorem p107 : IsPrime 107 := prime_small 9 (by decide) (by decide) (by decide +kernel)
theorem p223 : IsPrime 223 := prime_small 13 (by decide) (by decide) (by decide +kernel)
theorem p4153 : IsPrime 4153 := prime_small 63 (by decide) (by decide) (by decide +kernel)
theorem p5 : IsPrime 5 := prime_small 1 (by decide) (by decide) (by decide +kernel)
theorem p1723 : IsPrime 1723 := prime_small 40 (by decide) (by decide) (by decide +kernel)
theorem r430751 : Root 430751 17 := root_of_check (f := 19) (l := [2, 5, 5, 5, 1723]) (by simp only [List.mem_cons, List.not_mem_nil, or_false]; rintro q (rfl | rfl | rfl | rfl | rfl) <;> first | exact p2 | exact p5 | exact p1723) (by decide +kernel)
theorem p430751 : IsPrime 430751 := r430751.prime
theorem r31757755568855353 : Root 31757755568855353 10 := root_of_check (f := 55) (l := [2, 2, 2, 3, 31, 107, 223, 4153, 430751]) (by simp only [List.mem_cons, List.not_mem_nil, or_false]; rintro q (rfl | rfl | rfl | rfl | rfl | rfl | rfl | rfl | rfl) <;> first | exact p2 | exact p3 | exact p31 | exact p107 | exact p223 | exact p4153 | exact p430751) (by decide +kernel)
theorem p31757755568855353 : IsPrime 31757755568855353 := r31757755568855353.prime
theorem p75707 : IsPrime 75707 := prime_small 274 (by decide) (by decide) (by decide +kernel)
theorem p13 : IsPrime 13 := prime_small 2 (by decide) (by decide) (by decide +kernel)
theorem p2437 : IsPrime 2437 := prime_small 48 (by decide) (by decide) (by decide +kernel)
theorem p97 : IsPrime 97 := prime_small 8 (by decide) (by decide) (by decide +kernel)
theorem p419 : IsPrime 419 := prime_small 19 (by decide) (by decide) (by decide +kernel)
theorem r569003 : Root 569003 2 := root_of_check (f := 20) (l := [2, 7, 97, 419]) (by simp only [List.mem_cons, List.not_mem_nil, or_false]; rintro q (rfl | rfl | rfl | rfl) <;> first | exact p2 | exact p7 | exact p97 | exact p419) (by decide +kernel)
theorem p569003 : IsPrime 569003 := r569003.prime
theorem r2773320623 : Root 2773320623 5 := root_of_check (f := 32) (l := [2, 2437, 569003]) (by simp only [List.mem_cons, List.not_mem_nil, or_false]; rintro q (rfl | rfl | rfl) <;> first | exact p2 | exact p2437 | exact p569003) (by decide +kernel)
theorem p2773320623 : IsPrime 2773320623 := r2773320623.prime
theorem r72106336199 : Root 72106336199 7 := root_of_check (f := 37) (l := [2, 13, 2773320623]) (by simp only [List.mem_cons, List.not_mem_nil, or_false]; rintro q (rfl | rfl | rfl) <;> first | exact p2 | exact p13 | exact p2773320623) (by decide +kernel)
theorem p72106336199 : IsPrime 72106336199 := r72106336199.prime
theorem p19 : IsPrime 19 := prime_small 3 (by decide) (by decide) (by decide +kernel)
theorem p47 : IsPrime 47 := prime_small 5 (by decide) (by decide) (by decide +kernel)
theorem p127 : IsPrime 127 := prime_small 10 (by decide) (by decide) (by decide +kernel)
theorem p103 : IsPrime 103 := prime_small 9 (by decide) (by decide) (by decide +kernel)
theorem p991 : IsPrime 991 := prime_small 30 (by decide) (by decide) (by decide +kernel)
theorem r8574133 : Root 8574133 2 := root_of_check (f := 24) (l := [2, 2, 3, 7, 103, 991]) (by simp only [List.mem_cons, List.not_mem_nil, or_false]; rintro q (rfl | rfl | rfl | rfl | rfl | rfl) <;> first | exact p2 | exact p3 | exact p7 | exact p103 | exact p991) (by decide +kernel)
theorem p8574133 : IsPrime 8574133 := r8574133.prime
theorem r1919519569386763 : Root 1919519569386763 2 := root_of_check (f := 51) (l := [2, 3, 7, 19, 47, 47, 127, 8574133]) (by simp only [List.mem_cons, List.not_mem_nil, or_false]; rintro q (rfl | rfl | rfl | rfl | rfl | rfl | rfl | rfl) <;> first | exact p2 | exact p3 | exact p7 | exact p19 | exact p47 | exact p127 | exact p8574133) (by decide +kernel)
theorem p1919519569386763 : IsPrime 1919519569386763 := r1919519569386763.prime
theorem r75445702479781427272750846543864801 : Root 75445702479781427272750846543864801 7 := root_of_check (f := 116) (l := [2, 2, 2, 2, 2, 3, 3, 5, 5, 75707, 72106336199, 1919519569386763]) (by simp only [List.mem_cons, List.not_mem_nil, or_false]; rintro q (rfl | rfl | rfl | rfl | rfl | rfl | rfl | rfl | rfl | rfl | rfl | rfl) <;> first | exact p2 | exact p3 | exact p5 | exact p75707 | exact p72106336199 | exact p1919519569386763) (by decide +kernel)
theorem p75445702479781427272750846543864801 : IsPrime 75445702479781427272750846543864801 := r75445702479781427272750846543864801.prime
theorem r74058212732561358302231226437062788676166966415465897661863160754340907 : Root 74058212732561358302231226437062788676166966415465897661863160754340907 2 := root_of_check (f := 236) (l := [2, 3, 353, 57467, 132049, 1923133, 31757755568855353, 75445702479781427272750846543864801]) (by simp only [List.mem_cons, List.not_mem_nil, or_false]; rintro q (rfl | rfl | rfl | rfl | rfl | rfl | rfl | rfl) <;> first | exact p2 | exact p3 | exact p353 | exact p57467 | exact p132049 | exact p1923133 | exact p31757755568855353 | exact p75445702479781427272750846543864801) (by decide +kernel)
theorem p74058212732561358302231226437062788676166966415465897661863160754340907 : IsPrime 74058212732561358302231226437062788676166966415465897661863160754340907 := r74058212732561358302231226437062788676166966415465897661863160754340907.prime
theorem r57896044618658097711785492504343953926634992332820282019728792003956564819949 : Root 57896044618658097711785492504343953926634992332820282019728792003956564819949 2 := root_of_check (f := 255) (l := [2, 2, 3, 65147, 74058212732561358302231226437062788676166966415465897661863160754340907]) (by simp only [List.mem_cons, List.not_mem_nil, or_false]; rintro q (rfl | rfl | rfl | rfl | rfl) <;> first | exact p2 | exact p3 | exact p65147 | exact p74058212732561358302231226437062788676166966415465897661863160754340907) (by decide +kernel)
theorem p57896044618658097711785492504343953926634992332820282019728792003956564819949 : IsPrime 57896044618658097711785492504343953926634992332820282019728792003956564819949 := r57896044618658097711785492504343953926634992332820282019728792003956564819949.prime
theorem p11 : IsPrime 11 := prime_small 2 (by decide) (by decide) (by decide +kernel)
theorem p23 : IsPrime 23 := prime_small 3 (by decide) (by decide) (by decide +kernel)
theorem p34123 : IsPrime 34123 := prime_small 183 (by decide) (by decide) (by decide +kernel)
theorem r409477 : Root 409477 2 := root_of_check (f := 19) (l := [2, 2, 3, 34123]) (by simp only [List.mem_cons, List.not_mem_nil, or_false]; rintro q (rfl | rfl | rfl | rfl) <;> first | exact p2 | exact p3 | exact p34123) (by decide +kernel)
theorem p409477 : IsPrime 409477 := r409477.prime
theorem r14741173 : Root 14741173 2 := root_of_check (f := 24) (l := [2, 2, 3, 3, 409477]) (by simp only [List.mem_cons, List.not_mem_nil, or_false]; rintro q (rfl | rfl | rfl | rfl | rfl) <;> first | exact p2 | exact p3 | exact p409477) (by decide +kernel)
theorem p14741173 : IsPrime 14741173 := r14741173.prime
theorem r58964693 : Root 58964693 2 := root_of_check (f := 26) (l := [2, 2, 14741173]) (by simp only [List.mem_cons, List.not_mem_nil, or_false]; rintro q (rfl | rfl | rfl) <;> first | exact p2 | exact p14741173) (by decide +kernel)
theorem p58964693 : IsPrime 58964693 := r58964693.prime
theorem p30703 : IsPrime 30703 := prime_small 174 (by decide) (by decide) (by decide +kernel)
theorem p82163 : IsPrime 82163 := prime_small 285 (by decide) (by decide) (by decide +kernel)
theorem p22111 : IsPrime 22111 := prime_small 147 (by decide) (by decide) (by decide +kernel)
theorem r132667 : Root 132667 5 := root_of_check (f := 18) (l := [2, 3, 22111]) (by simp only [List.mem_cons, List.not_mem_nil, or_false]; rintro q (rfl | rfl | rfl) <;> first | exact p2 | exact p3 | exact p22111) (by decide +kernel)
theorem p132667 : IsPrime 132667 := r132667.prime
theorem p17231 : IsPrime 17231 := prime_small 130 (by decide) (by decide) (by decide +kernel)
theorem r137849 : Root 137849 3 := root_of_check (f := 18) (l := [2, 2, 2, 17231]) (by simp only [List.mem_cons, List.not_mem_nil, or_false]; rintro q (rfl | rfl | rfl | rfl) <;> first | exact p2 | exact p17231) (by decide +kernel)
theorem p137849 : IsPrime 137849 := r137849.prime
theorem r3044861653679985063343 : Root 3044861653679985063343 5 := root_of_check (f := 72) (l := [2, 3, 11, 30703, 82163, 132667, 137849]) (by simp only [List.mem_cons, List.not_mem_nil, or_false]; rintro q (rfl | rfl | rfl | rfl | rfl | rfl | rfl) <;> first | exact p2 | exact p3 | exact p11 | exact p30703 | exact p82163 | exact p132667 | exact p137849) (by decide +kernel)
theorem p3044861653679985063343 : IsPrime 3044861653679985063343 := r3044861653679985063343.prime
theorem r198211423230930754013084525763697 : Root 198211423230930754013084525763697 5 := root_of_check (f := 108) (l := [2, 2, 2, 2, 3, 23, 58964693, 3044861653679985063343]) (by simp only [List.mem_cons, List.not_mem_nil, or_false]; rintro q (rfl | rfl | rfl | rfl | rfl | rfl | rfl | rfl) <;> first | exact p2 | exact p3 | exact p23 | exact p58964693 | exact p3044861653679985063343) (by decide +kernel)
theorem p198211423230930754013084525763697 : IsPrime 198211423230930754013084525763697 := r198211423230930754013084525763697.prime
theorem p269 : IsPrime 269 := prime_small 15 (by decide) (by decide) (by decide +kernel)
theorem p73 : IsPrime 73 := prime_small 7 (by decide) (by decide) (by decide +kernel)
theorem p307 : IsPrime 307 := prime_small 16 (by decide) (by decide) (by decide +kernel)
theorem p5879 : IsPrime 5879 := prime_small 75 (by decide) (by decide) (by decide +kernel)
theorem r292386187 : Root 292386187 2 := root_of_check (f := 29) (l := [2, 3, 3, 3, 3, 307, 5879]) (by simp only [List.mem_cons, List.not_mem_nil, or_false]; rintro q (rfl | rfl | rfl | rfl | rfl | rfl | rfl) <;> first | exact p2 | exact p3 | exact p307 | exact p5879) (by decide +kernel)
theorem p292386187 : IsPrime 292386187 := r292386187.prime
theorem r213441916511 : Root 213441916511 13 := root_of_check (f := 38) (l := [2, 5, 73, 292386187]) (by simp only [List.mem_cons, List.not_mem_nil, or_false]; rintro q (rfl | rfl | rfl | rfl) <;> first | exact p2 | exact p5 | exact p73 | exact p292386187) (by decide +kernel)
theorem p213441916511 : IsPrime 213441916511 := r213441916511.prime
theorem p1361 : IsPrime 1361 := prime_small 35 (by decide) (by decide) (by decide +kernel)
theorem p2851 : IsPrime 2851 := prime_small 52 (by decide) (by decide) (by decide +kernel)
theorem p41 : IsPrime 41 := prime_small 5 (by decide) (by decide) (by decide +kernel)
theorem p3797 : IsPrime 3797 := prime_small 60 (by decide) (by decide) (by decide +kernel)
theorem r531581 : Root 531581 2 := root_of_check (f := 20) (l := [2, 2, 5, 7, 3797]) (by simp only [List.mem_cons, List.not_mem_nil, or_false]; rintro q (rfl | rfl | rfl | rfl | rfl) <;> first | exact p2 | exact p5 | exact p7 | exact p3797) (by decide +kernel)
theorem p531581 : IsPrime 531581 := r531581.prime
theorem p2551 : IsPrime 2551 := prime_small 49 (by decide) (by decide) (by decide +kernel)
theorem r1224481 : Root 1224481 13 := root_of_check (f := 21) (l := [2, 2, 2, 2, 2, 3, 5, 2551]) (by simp only [List.mem_cons, List.not_mem_nil, or_false]; rintro q (rfl | rfl | rfl | rfl | rfl | rfl | rfl | rfl) <;> first | exact p2 | exact p3 | exact p5 | exact p2551) (by decide +kernel)
theorem p1224481 : IsPrime 1224481 := r1224481.prime
theorem r1257559732178653 : Root 1257559732178653 2 := root_of_check (f := 51) (l := [2, 2, 3, 7, 23, 531581, 1224481]) (by simp only [List.mem_cons, List.not_mem_nil, or_false]; rintro q (rfl | rfl | rfl | rfl | rfl | rfl | rfl) <;> first | exact p2 | exact p3 | exact p7 | exact p23 | exact p531581 | exact p1224481) (by decide +kernel)
theorem p1257559732178653 : IsPrime 1257559732178653 := r1257559732178653.prime
theorem r4434155615661930479 : Root 4434155615661930479 17 := root_of_check (f := 62) (l := [2, 41, 43, 1257559732178653]) (by simp only [List.mem_cons, List.not_mem_nil, or_false]; rintro q (rfl | rfl | rfl | rfl) <;> first | exact p2 | exact p41 | exact p43 | exact p1257559732178653) (by decide +kernel)
theorem p4434155615661930479 : IsPrime 4434155615661930479 := r4434155615661930479.prime
theorem r172054593956031949258510691 : Root 172054593956031949258510691 2 := root_of_check (f := 88) (l := [2, 5, 1361, 2851, 4434155615661930479]) (by simp only [List.mem_cons, List.not_mem_nil, or_false]; rintro q (rfl | rfl | rfl | rfl | rfl) <;> first | exact p2 | exact p5 | exact p1361 | exact p2851 | exact p4434155615661930479) (by decide +kernel)
theorem p172054593956031949258510691 : IsPrime 172054593956031949258510691 := r172054593956031949258510691.prime
theorem r19757330305831588566944191468367130476339 : Root 19757330305831588566944191468367130476339 2 := root_of_check (f := 134) (l := [2, 269, 213441916511, 172054593956031949258510691]) (by simp only [List.mem_cons, List.not_mem_nil, or_false]; rintro q (rfl | rfl | rfl | rfl) <;> first | exact p2 | exact p269 | exact p213441916511 | exact p172054593956031949258510691) (by decide +kernel)
theorem p19757330305831588566944191468367130476339 : IsPrime 19757330305831588566944191468367130476339 := r19757330305831588566944191468367130476339.prime
theorem r276602624281642239937218680557139826668747 : Root 276602624281642239937218680557139826668747 2 := root_of_check (f := 138) (l := [2, 7, 19757330305831588566944191468367130476339]) (by simp only [List.mem_cons, List.not_mem_nil, or_false]; rintro q (rfl | rfl | rfl) <;> first | exact p2 | exact p7 | exact p19757330305831588566944191468367130476339) (by decide +kernel)
theorem p276602624281642239937218680557139826668747 : IsPrime 276602624281642239937218680557139826668747 := r276602624281642239937218680557139826668747.prime
theorem r7237005577332262213973186563042994240857116359379907606001950938285454250989 : Root 7237005577332262213973186563042994240857116359379907606001950938285454250989 2 := root_of_check (f := 253) (l := [2, 2, 3, 11, 198211423230930754013084525763697, 276602624281642239937218680557139826668747]) (by simp only [List.mem_cons, List.not_mem_nil, or_false]; rintro q (rfl | rfl | rfl | rfl | rfl | rfl) <;> first | exact p2 | exact p3 | exact p11 | exact p198211423230930754013084525763697 | exact p276602624281642239937218680557139826668747) (by decide +kernel)
theorem p7237005577332262213973186563042994240857116359379907606001950938285454250989 : IsPrime 7237005577332262213973186563042994240857116359379907606001950938285454250989 := r7237005577332262213973186563042994240857116359379907606001950938285454250989.prime
end BJ
